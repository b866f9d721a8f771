/- Lemmas that TopSolvent leans on, without conditions: TgL TzA TsA TcP. -/
import Derived.Test.YtpbgmpjnfndfjaaGreatDoorKBF
set_option maxHeartbeats 8000000
set_option maxRecDepth 100000
set_option linter.all false
namespace Go.Proofs.YtpbgmpjnfndfjaaGreatDoor
open Nat renaming lt_of_lt_of_le->aF,dvd_refl->aG,mul_le_mul_right->aQ,le_trans->aU,lt_of_le_of_lt->bq,le_refl->bE,add_mul->b9,one_mul->ck,mul_ne_zero->cp,mul_le_mul_left->cG,dvd_trans->de,add_comm->dk
open Value renaming string->aH,bool->bk
open List renaming mem_cons_of_mem->aL,mem_cons_self->aP,length_cons->aT,length_append->bf,mem_of_getElem?->bn,flatten_cons->bt,foldl_append->ce,length_take->cl,length_map->cm,getD_eq_getElem?_getD->cr,mem_or_eq_of_mem_set->cw,getElem?_eq_getElem->cx,getElem?_cons_zero->cy,getElem?_cons_succ->cz,length_replicate->cA,filterMap_append->cB,mem_of_mem_take->cD,filterMap_cons->cE,range->cM,filterMap_nil->cR,take_add_one->cX,getElem?_map->cZ,take_length->c0,prefix_refl->c5,range_succ->c6,replicate->c9,mem_map->df
open Rat renaming le_trans->bj,natCast_add->c7,le_of_lt->dg
open Option renaming some->cg,none->dn
open Lib renaming hid->cv
open bQ bR cO cV cu dL dt dy ff iU il mF pS rQ rT
variable{legs:List (Nat×Nat)}{k:Nat}{l:Nat×Nat}{s:List Rat×Rat}
namespace qJ
open iF o6 oJ o7 gH gq ik
theorem Vf(l:List Rat)(q:Rat):aA (l++[q])=aA l+q:=by induction l with|nil=>{show q+0=0+q;grind}|cons a l ih=>show a+aA (l++[q])=a+aA l+q;rw[ih];grind
theorem vu{l:List Rat}{f:Nat->Rat}:∀(k:Nat),(∀i,i<k->l[i]?=cg (f i))->sm k f=aA (l.take k)|0,_=>rfl|k+1,h=>by rw[cX,h k Oz];show sm k f+f k=aA (l.take k++[f k]);rw[Vf,vu k (λi a=>h i Oz)]
def kj(g:bM)(f:Nat->Nat->Rat):List (List Rat):=au g.n (λi=>au (g.lay i).cnt (f i))
theorem sL{g:bM}{f:Nat->Nat->Rat}(h:legs[k]?=cg l)(h1:l.1<g.n)(h2:l.2<(g.lay l.1).cnt):di (kj g f) legs k=f l.1 l.2:=by unfold di kj;rw[h];dsimp only;rw[dC _ h1];dsimp only[Option.getD_some];rw[dC _ h2];rfl
theorem Ia(h:legs[k]?=cg l):nX legs k=l.1:=by unfold nX;rw[h];rfl
section
variable {g:bM} {x d:Nat->Rat}
theorem uX(b:eU g){q:Rat×List (Nat×Nat)}(c:q∈g.bH)(a:k<q.2.length):∃l,q.2[k]?=cg l/\l.1<g.n/\l.2<(g.lay l.1).cnt:=by have h:=b.legs q c q.2[k] (List.getElem_mem a);exact⟨_,cx a,h.1,h.2.1⟩
theorem Di(a:eU g){q:Rat×List (Nat×Nat)}(c:q∈g.bH)(b:k<q.2.length):(ds g x q)[k]?=cg (di (kj g (λi=>deliver (g.lay i) (x i))) q.2 k):=by obtain⟨l,h1,h2,h3⟩:=uX a c b;rw[sL h1 h2 h3];unfold ds;rw[cZ,h1];rfl
theorem SL(a:eU g){q:Rat×List (Nat×Nat)}(c:q∈g.bH)(b:k<q.2.length):(fZ g x d g.n q.2)[k]?=cg (di (kj g (λi=>ev (g.lay i) (x i))) q.2 k*d (nX q.2 k)):=by obtain⟨l,h1,h2,h3⟩:=uX a c b;rw[sL h1 h2 h3,Ia h1];unfold fZ;rw[cZ,h1];show cg (if l.1<g.n then sl g x l*d l.1 else 0)=_;rw[Uy h2];rfl
theorem H8(a:eU g){q:Rat×List (Nat×Nat)}(b:q∈g.bH)(d:k<=q.2.length):mb q.1 (kj g (λi=>deliver (g.lay i) (x i))) q.2 k=q.1-aA ((ds g x q).take k):=by unfold mb;rw[vu k (λi c=>Di a b Oz)]
theorem rt_eq(a:eU g){q:Rat×List (Nat×Nat)}(b:q∈g.bH)(e:k<=q.2.length):lx (kj g (λi=>ev (g.lay i) (x i))) d q.2 k=aA ((fZ g x d g.n q.2).take k):=by unfold lx;exact vu k (λi c=>SL a b Oz)
theorem I6:∀i,jh (λi=>next (g.lay i) (x i)) x d i=((cM i).filterMap (qR g x d)).foldl sA dn|0=>rfl|i+1=>by rw[c6,cB,ce,<-I6 i];show(if 0<d i then(match next (g.lay i) (x i)with|some y=>kN (jh _ x d i) ((y-x i)/d i)|none=>jh _ x d i)else jh _ x d i)=_;rw[cE,cR];unfold qR;by_cases h:0<d i;{rw[Uy h,Uy h];cases next (g.lay i) (x i)with|none=>rfl|some y=>exact IJ _ _};rw[Uz h,Uz h];rfl
theorem I7(o:Option Rat)(a rt:Nat->Rat)(c:Nat->Option Rat):∀k,(∀i,i<k->c i=if 0<a (i+1)/\0<rt (i+1)then cg (a (i+1)/rt (i+1))else dn)->nZ o a rt k=((cM k).filterMap c).foldl sA o|0,_=>rfl|k+1,h=>by rw[c6,cB,ce,<-I7 o a rt c k (λi b=>h i Oz),cE,cR,h k Oz];show(if 0<a (k+1)/\0<rt (k+1)then kN (nZ o a rt k) (a (k+1)/rt (k+1))else nZ o a rt k)=_;by_cases h1:0<a (k+1)/\0<rt (k+1);{rw[Uy h1,Uy h1];exact IJ _ _};rw[Uz h1,Uz h1];rfl
theorem I4(c:eU g)(o:Option Rat):∀k,k<=g.bH.length->oU o (kj g (λi=>deliver (g.lay i) (x i))) (kj g (λi=>ev (g.lay i) (x i))) d g.bH k=((g.bH.take k).flatMap (λq=>(cM q.2.length).filterMap (r1 g x d q))).foldl sA o|0,_=>rfl|k+1,j=>by have a:g.bH[k]?=cg g.bH[k]:=cx Oz;have e:=bn a;generalize g.bH[k]=q at a e;rw[cX,a,List.flatMap_append,ce,<-I4 c o k Oz];show(match g.bH[k]?with|some b=>nZ (oU o _ _ d g.bH k) (mb b.1 _ b.2) (lx _ d b.2) b.2.length|none=>oU o _ _ d g.bH k)=_;rw[a];have h:=I7 (oU o (kj g (λi=>deliver (g.lay i) (x i))) (kj g (λi=>ev (g.lay i) (x i))) d g.bH k) (mb q.1 (kj g (λi=>deliver (g.lay i) (x i))) q.2) (lx (kj g (λi=>ev (g.lay i) (x i))) d q.2) (r1 g x d q) q.2.length (λi f=>by rw[H8 c e Oz,rt_eq c e Oz];rfl);rw[Option.toList_some,List.flatMap_cons,List.flatMap_nil,List.append_nil];exact h
theorem R7(a:eU g):oU (jh (λi=>next (g.lay i) (x i)) x d g.n) (kj g (λi=>deliver (g.lay i) (x i))) (kj g (λi=>ev (g.lay i) (x i))) d g.bH g.bH.length=nearest g x d:=by rw[I4 a _ _ (bE _),I6,c0];unfold nearest Ja nV;rw[ce]
end
end qJ
namespace nU
open Go.RowKit bw
def cq(D V:Nat)(q:Rat):Prop:=c8 D q/\0<=q/\q<=(V:Rat)
section
variable {D E V W:Nat} {a b:Rat}
theorem cq.q(h:cq D V a):cK D V a:=cK.of h.1 h.2.1 h.2.2
theorem cq.zero(D V:Nat):cq D V 0:=⟨c8.zero D,Rat.le_refl,u6 V⟩
theorem cq.up(h:cq D V a)(b:D∣E)(c:V<=W):cq E W a:=⟨h.1.up b,h.2.1,bj h.2.2 (qk c)⟩
theorem cq.add(ha:cq D V a)(c:cq D W b):cq D (V+W) (a+b):=⟨ha.1.add c.1,by have:=ha.2.1;have:=c.2.1;grind,by have:=ha.2.2;have:=c.2.2;rw[c7];grind⟩
theorem eE{d v:Nat}{q:Rat}(h:cK D V q)(a:D≠0)(b:D<256^d)(c:V<256^v):ao q (d+v):=by obtain⟨h1,h2⟩:=c8.CW h.1 a h.2.1 h.2.2;exact⟨bq h1 (by rw[dk];exact ia c b),bq h2 (aF b (iI Oz))⟩
end
def jk(D V:Nat)(s:List Rat×Rat):Prop:=(∀x∈s.1,cq D V x)/\cq D V s.2
theorem jk.up{D E V W:Nat}(h:jk D V s)(a:D∣E)(b:V<=W):jk E W s:=⟨λx c=>(h.1 x c).up a b,h.2.up a b⟩
theorem EY(D V n:Nat):jk D V (zeros n,0):=⟨λx a=>by unfold zeros at a;rw[(List.mem_replicate.1 a).2];exact cq.zero _ _,cq.zero _ _⟩
theorem Na{D U V:Nat}{c:Int}{q:Rat}(h:jk D U s)(b:cq D V q):jk D (U+V) (lh s c q):=by unfold lh;split;{exact⟨λx a=>(h.1 x a).up (aG _) Oz,h.2.add b⟩};refine⟨λx a=>?_,h.2.up (aG _) Oz⟩;rcases cw a with a|rfl;{exact(h.1 x a).up (aG _) Oz};refine cq.add ?_ b;rw[cr];cases hs:s.1[c.toNat]?with|none=>exact cq.zero _ _|some y=>exact h.1 y (bn hs)
theorem Ba{D V:Nat}:∀(l:List Part) (s:List Rat×Rat) (U:Nat),(∀q∈l,cq D V q.2)->jk D U s->jk D (U+l.length*V) (dV s l)|[],s,U,_,h=>h.up (aG _) Oz|q::l,s,U,a,h=>by have c:=Ba l (lh s q.1 q.2) (U+V) (λx b=>a x (aL _ b)) (Na h (a q (aP ..)));refine c.up (aG _) ?_;rw[aT,b9];omega
theorem EX{D V:Nat}(h:jk D V s)(a:D≠0)(b:D<256^k)(c:V<256^10)(d:k+10<=40000000000):AO s:=⟨λx e=>(eE (h.1 x e).q a b c).mono d,(eE h.2.q a b c).mono d⟩
theorem Gl{n k:Nat}:∀(L:List (List Part)),(∀t∈L,t.length<=n)->L.length<=k->L.flatten.length<=k*n|[],_,_=>Ow|t::L,h,a=>by rw[aT]at a;have c:=Gl (k:=k-1) L (λu b=>h u (aL _ b)) Oz;rw[bt,bf];have h1:=h t (aP ..);have e:k*n=(k-1)*n+n:=by{rw[<-Nat.succ_mul];congr 1;omega};omega
theorem JT:∀(L:List (List Part)) (m:Rat),(dI L m).length<=L.flatten.length|[],_=>bE _|t::L,m=>by unfold dI;split;{rw[cm,bt,bf];omega};rw[bf,bt,bf];have:=JT L (m-aW t);omega
theorem Ll(r:Rat):∀(L:List (List Part)) (m:Rat),(eL L m r).length<=L.flatten.length|[],_=>bE _|t::L,m=>by unfold eL;split;{rw[cm,bt,bf];omega};rw[bt,bf];have:=Ll r L (m-aW t);omega
theorem Lk{Q:Int->Prop}(r:Rat):∀(L:List (List Part)) (m:Rat),(∀t∈L,∀p∈t,Q p.1)->∀p∈eL L m r,Q p.1|[],_,_,p,hp=>by simp[eL]at hp|t::L,m,h,p,hp=>by simp only[eL]at hp;split at hp;{obtain⟨q,a,rfl⟩:=df.1 hp;exact h t (aP ..) q a};exact Lk r L _ (λu b=>h u (aL _ b)) p hp
structure o3 (A N V:Nat):Prop where
 A0:A≠0
 Aq:N≠0
 bG:A<256^1
 qF:N<256^200
 aJ:V<256^3
structure lS (A N V n:Nat) (L:List (List Part)):Prop where
 dG:o3 A N V
 iH:jG A N V L
 len:L.length<=8
 tl:∀t∈L,t.length<=8
 uV:∀t∈L,∀p∈t,p.1= -1\/(0<=p.1/\p.1<(n:Int))
structure Mon (A D d M:Nat) (m:Rat):Prop where
 dvd:A∣D
 d0:D≠0
 d1:D<256^d
 ga:cq D M m
 m1:M<256^d
 dl:d<=3000000000
section
variable {A N V n D d M:Nat} {L:List (List Part)} {m:Rat}
theorem o3.bL(h:o3 A N V)(a:D≠0):A*(D*N)≠0:=cp h.A0 (cp a h.Aq)
theorem o3.ap(h:o3 A N V)(a:D<256^d):A*(D*N)<256^(1+(d+200)):=ia h.bG (ia a h.qF)
theorem mR{x v:Nat}(a:x<256^v)(b:k<=65536):k*x<256^(v+3):=by have h:k<256^3:=Oz;rw[dk];exact ia h a
theorem lS.Co(h:lS A N V n L)(a:Mon A D d M m):uv L m:=by have hs:∀t∈L,cK A (8*V) (aW t):=λt b=>h.iH.aW b (h.tl t b);have hd:=a.dl;refine⟨aU h.len Oz,λt b=>(eE (hs t b) h.dG.A0 h.dG.bG (mR h.dG.aJ Oz)).mono Oz,λk _=>?_⟩;have g:(sums (L.take k)).length<=8:=by{unfold sums;rw[cm,cl];have:=h.len;omega};have h1:=cK.aA (D:=A) (V:=8*V) (sums (L.take k)) g (λx c=>by unfold sums at c;obtain⟨t,b,rfl⟩:=df.1 c;exact hs t (cD b));have h2:=a.ga.q.sub (h1.up a.dvd (bE _));have h3:M+8*(8*V)<256^(d+10):=by{have ap:=mR (mR h.dG.aJ (show 8<=65536 by omega)) (show 8<=65536 by omega);have e:(256:Nat)^(3+3+3)<=256^(d+9):=iI Oz;have f:M<256^(d+9):=aF a.m1 (iI Oz);exact x6 f (aF ap e)};exact(eE h2 a.d0 a.d1 h3).mono Oz
theorem lS.left(h:lS A N V n L)(a:Mon A D d M m):cq D M (bQ.split (sums L) m).2:=by obtain⟨h1,h2,h3,_⟩:=jG.left a.dvd L m h.iH a.ga.1 a.ga.2.1;exact⟨h1,h2,bj h3 a.ga.2.2⟩
theorem Mon.lt(a:Mon A D d M m):ao m 7000000000:=(eE a.ga.q a.d0 a.d1 a.m1).mono (by have:=a.dl;omega)
theorem lS.Cu(h:lS A N V n L)(a:Mon A D d M m):ao (bQ.split (sums L) m).2 40000000000:=(eE (h.left a).q a.d0 a.d1 a.m1).mono (by have:=a.dl;omega)
theorem lS.tw(h:lS A N V n L):∀t,t∈L->∀p,p∈t->ao p.2 40000000000:=λt b p a=>by obtain⟨h1,h2,h3⟩:=h.iH.part t b p a;exact(eE (cK.of h1 h2 h3) h.dG.A0 h.dG.bG h.dG.aJ).mono Oz
theorem lS.flat(h:lS A N V n L):L.flatten.length<=64:=Gl L h.tl h.len
theorem lS.qn(h:lS A N V n L)(a:Mon A D d M m){U:Nat}(C:U<256^8)(hs:jk (A*(D*N)) U s)(w:s.1.length=n)(x:n<=8):rO L m s/\jk (A*(D*N)) (U+64*V) (dV s (dI L m)):=by have u:=jG.dI a.dvd L m h.iH a.ga.1 a.ga.2.1;have o:(dI L m).length<=64:=aU (JT L m) h.flat;have hd:=a.dl;have g:=h.dG.bL a.d0;have i:=h.dG.ap a.d1;have b:∀f,f<+:dI L m->jk (A*(D*N)) (U+64*V) (dV s f):=λf k=>by{have h1:=Ba f s U (λq y=>u q (k.subset y)) hs;have h2:f.length*V<=64*V:=aQ V (aU k.length_le o);exact h1.up (aG _) Oz};have z:U+64*V<256^10:=by{have ap:=mR h.dG.aJ (show 64<=65536 by omega);omega};refine⟨⟨h.Co a,a.lt.mono Oz,λt l=>aU (h.tl t l) Oz,h.tw,⟨?_,Oz,λp e=>?_,λf k=>EX (b f k) g i z Oz⟩,h.Cu a,λt l=>?_⟩,b _ (c5 _)⟩;{intro p e;rw[w];exact tR (Q:=λc=>c= -1\/(0<=c/\c<(n:Int))) L m h.uV p e};{obtain⟨h1,h2,h3⟩:=u p e;exact(eE (cK.of h1 h2 h3) g i h.dG.aJ).mono Oz};obtain⟨h1,h2,h3,h4⟩:=jG.left a.dvd L m h.iH a.ga.1 a.ga.2.1;have B:=h4 t l;have j:=bn l;have r:aW t≠0:=Oj;refine⟨r,?_⟩;have v:=(eE (cK.of h1 h2 (bj h3 a.ga.2.2)) a.d0 a.d1 a.m1).div (eE (h.iH.aW j (h.tl t j)) h.dG.A0 h.dG.bG (mR h.dG.aJ (show 8<=65536 by omega))) r;exact v.mono Oz
theorem lS.ev(h:lS A N V n L)(k:Mon A D d M m){R W U e:Nat}{r:Rat}(l:cq R W r)(b:R≠0)(y:R<256^e)(u:W<256^5)(K:e<=1000)(J:U<256^8)(hs:jk (A*(R*N)) U s)(E:s.1.length=n)(F:n<=8):tp L m r s/\jk (A*(R*N)) (U+64*W) (dV s (eL L m r)):=by have w:∀p∈eL L m r,cq (A*(R*N)) W p.2:=λp w=>by{obtain⟨h1,h2,h3⟩:=jG.eL l.1 l.2.1 L m h.iH k.ga.2.1 p w;exact⟨h1,h2,bj h3 l.2.2⟩};have z:(eL L m r).length<=64:=aU (Ll r L m) h.flat;have i:=h.dG.bL b;have j:=h.dG.ap y;have a:∀g,g<+:eL L m r->jk (A*(R*N)) (U+64*W) (dV s g):=λg v=>by{have h1:=Ba g s U (λq G=>w q (v.subset G)) hs;have h2:g.length*W<=64*W:=aQ W (aU v.length_le z);exact h1.up (aG _) Oz};have H:U+64*W<256^10:=by{have ap:=mR u (show 64<=65536 by omega);omega};refine⟨⟨h.Co k,(eE l.q b y u).mono Oz,λt x=>aU (h.tl t x) Oz,h.tw,⟨?_,Oz,λp f=>(eE (w p f).q i j u).mono Oz,λg v=>EX (a g v) i j H Oz⟩,λt x=>?_⟩,a _ (c5 _)⟩;{intro p f;rw[E];exact Lk (Q:=λc=>c= -1\/(0<=c/\c<(n:Int))) r L m h.uV p f};obtain⟨h1,h2,h3,h4⟩:=jG.left k.dvd L m h.iH k.ga.1 k.ga.2.1;have I:=h4 t x;have o:=bn x;have B:aW t≠0:=Oj;refine⟨B,?_⟩;have C:=(eE l.q b y u).div (eE (h.iH.aW o (h.tl t o)) h.dG.A0 h.dG.bG (mR h.dG.aJ (show 8<=65536 by omega))) B;exact C.mono Oz
end
end nU
namespace uD
open Go.RowKit cL ec ef gV gW du nU
structure fT (A N V:Nat) (L:Lay):Prop where
 ok:kE L
 bg:lS A N V L.cnt L.bg
 bx:∀P∈L.bx,lS A N V L.cnt P.2
 np:L.bx.length<=2
 jv:∀P∈L.bx,P.1.length<=8
 mh:L.cnt<=8
section
variable {A N V D d M n:Nat} {L:Lay} {m:Rat}
theorem P9{v:List Rat}(h:∀x∈v,cq D V x)(i:Nat):cq D V (v.getD i 0):=by rw[cr];cases hs:v[i]?with|none=>exact cq.zero _ _|some y=>exact h y (bn hs)
theorem xt{v:List Rat}(h:∀x∈v,cq D V x):∀a:List Nat,cq D (a.length*V) (bF v a)|[]=>cq.zero _ _|i::a=>by have h1:=(P9 h i).add (xt h a);show cq D _ (v.getD i 0+bF v a);exact h1.up (aG _) (by rw[aT,b9];omega)
theorem MP:∀(b:List Nat) (v:List Rat),(∀x∈v,cq D V x)->∀x∈mS v b,cq D V x|[],_,h=>h|i::b,v,h=>MP b (v.set i 0) (λx a=>by rcases cw a with a|rfl;{exact h x a};exact cq.zero _ _)
theorem Et:∀(ps:List Pool) (v:List Rat),(∀x∈v,cq D V x)->∀x∈fS v ps,cq D V x|[],_,h=>h|p::ps,v,h=>Et ps (mS v p.1) (MP p.1 v h)
theorem J1{D2 j i:Nat}(mh:n<=8){v:List Rat}:∀(ps:List Pool) (U:Nat) (s:List Rat×Rat),(∀P∈ps,lS A N V n P.2/\Mon A D2 j i (bF v P.1))->jk (A*(D2*N)) U s->s.1.length=n->U+ps.length*(64*V)<256^8->(∀(k:Nat) (p:Pool),ps[k]?=cg p->rO p.2 (bF v p.1) (kx v (ps.take k) s))/\jk (A*(D2*N)) (U+ps.length*(64*V)) (kx v ps s)|[],U,s,_,hs,_,_=>⟨λk p h=>by simp at h,jk.up (s:=s) hs (aG _) Oz⟩|P::ps,U,s,b,hs,hn,e=>by obtain⟨c,m1⟩:=b P (aP ..);rw[aT,b9,ck]at e;obtain⟨l,m⟩:=c.qn m1 (U:=U) Oz hs hn mh;obtain⟨f,g⟩:=J1 mh (v:=v) ps (U+64*V) (dV s (dI P.2 (bF v P.1))) (λQ d=>b Q (aL _ d)) m (by rw[lg];exact hn) Oz;refine⟨λk p a=>?_,?_⟩;{cases k with|zero=>{rw[cy]at a;injection a with a;subst a;exact l}|succ k=>exact f k p (by rw[cz]at a;exact a)};exact jk.up g (aG _) (by rw[aT,b9,ck];omega)
theorem J2{D2 j i R W e:Nat}(mh:n<=8){v r:List Rat}(b:R≠0)(d:R<256^e)(f:W<256^5)(g:e<=1000):∀(ps:List Pool) (U:Nat) (s:List Rat×Rat),(∀P∈ps,lS A N V n P.2/\Mon A D2 j i (bF v P.1)/\cq R W (bF r P.1))->jk (A*(R*N)) U s->s.1.length=n->U+ps.length*(64*W)<256^8->(∀(k:Nat) (p:Pool),ps[k]?=cg p->tp p.2 (bF v p.1) (bF r p.1) (ky v r (ps.take k) s))/\jk (A*(R*N)) (U+ps.length*(64*W)) (ky v r ps s)|[],U,s,_,hs,_,_=>⟨λk p h=>by simp at h,jk.up (s:=s) hs (aG _) Oz⟩|P::ps,U,s,c,hs,hn,o=>by obtain⟨l,m1,bB⟩:=c P (aP ..);rw[aT,b9,ck]at o;obtain⟨u,w⟩:=l.ev m1 (U:=U) bB b d f g Oz hs hn mh;obtain⟨q,t⟩:=J2 mh (v:=v) (r:=r) b d f g ps (U+64*W) (dV s (eL P.2 (bF v P.1) (bF r P.1))) (λQ m=>c Q (aL _ m)) w (by rw[lg];exact hn) Oz;refine⟨λk p a=>?_,?_⟩;{cases k with|zero=>{rw[cy]at a;injection a with a;subst a;exact u}|succ k=>exact q k p (by rw[cz]at a;exact a)};exact jk.up t (aG _) (by rw[aT,b9,ck];omega)
theorem fT.v1(h:fT A N V L):V<256^3:=h.bg.dG.aJ
theorem fT.GL(h:fT A N V L)(a:Mon A D d M m):rO L.bg m (zeros L.cnt,0)/\∀x∈gv L.cnt L.bg m,cq (A*(D*N)) (64*V) x:=by obtain⟨h1,h2⟩:=h.bg.qn a (U:=0) Oz (EY _ _ _) (by show(c9 L.cnt (0:Rat)).length=L.cnt;exact cA) h.mh;exact⟨h1,λx b=>(h2.1 x b).up (aG _) Oz⟩
theorem fT.KW(h:fT A N V L)(a:Mon A D d M m):tp L.bg m 1 (zeros L.cnt,0)/\∀x∈dX L.cnt L.bg m,cq (A*(1*N)) 64 x:=by obtain⟨h1,h2⟩:=h.bg.ev a (R:=1) (W:=1) (U:=0) (e:=1) (r:=1) ⟨c8.one 1,Oy,Oy⟩ Oy Oy Oy Oy Oz (EY _ _ _) (by show(c9 L.cnt (0:Rat)).length=L.cnt;exact cA) h.mh;exact⟨h1,λx b=>(h2.1 x b).up (aG _) Oz⟩
theorem fT.Ix(h:fT A N V L):8*(64*V)<256^9:=mR (mR h.v1 (show 64<=65536 by omega)) (show 8<=65536 by omega)
theorem fT.wO(h:fT A N V L)(a:Mon A D d M m)(hd:d<=2000000000){P:Pool}(b:P∈L.bx):Mon A (A*(D*N)) (d+300) (8*(64*V)) (bF (gv L.cnt L.bg m) P.1):={dvd:=Nat.dvd_mul_right _ _,d0:=h.bg.dG.bL a.d0,d1:=aF (h.bg.dG.ap a.d1) (iI Oz),ga:=(xt (h.GL a).2 P.1).up (aG _) (aQ _ (h.jv P b)),m1:=aF h.Ix (iI Oz),dl:=by omega}
theorem fT.zr(h:fT A N V L)(b:Mon A D d M m){P:Pool}(a:P∈L.bx):cq (A*(1*N)) 512 (bF (dX L.cnt L.bg m) P.1):=(xt (h.KW b).2 P.1).up (aG _) (by have:=h.jv P a;omega)
theorem fT.dA(h:fT A N V L):A*(1*N)≠0:=h.bg.dG.bL Oy
theorem fT.bB(h:fT A N V L):A*(1*N)<256^202:=h.bg.dG.ap (D:=1) (d:=1) Oy
theorem FV(A D N:Nat):A*(D*N)∣A*((A*(D*N))*N):=⟨A*N,Oj⟩
theorem fT.del(h:fT A N V L)(e:Mon A D d M m)(hd:d<=2000000000):vI L.cnt L.bg L.bx m/\jk (A*((A*(D*N))*N)) (256*V) (kx (gv L.cnt L.bg m) L.bx (fS (gv L.cnt L.bg m) L.bx,0)):=by obtain⟨j,f⟩:=h.GL e;have b:=h.bg.dG.bL e.d0;have c:=h.bg.dG.ap e.d1;have o:=h.v1;have n:L.bx.length*(64*V)<=2*(64*V):=aQ _ h.np;obtain⟨p,r⟩:=J1 h.mh (v:=gv L.cnt L.bg m) L.bx (64*V) (fS (gv L.cnt L.bg m) L.bx,0) (λP a=>⟨h.bx P a,h.wO e hd a⟩) ⟨λx g=>(Et _ _ f x g).up (FV A D N) (bE _),cq.zero _ _⟩ (by rw[pH,oQ]) Oz;refine⟨⟨by have:=h.mh;omega,j,λP a i l=>h.ok.mem P a i l,λx g=>(eE (f x g).q b c (mR o Oz)).mono Oz,λP a k s=>?_,p⟩,jk.up r (aG _) Oz⟩;have h1:=xt f (P.1.take k);refine(eE h1.q b c (v:=9) (bq (aQ _ ?_) h.Ix)).mono Oz;rw[cl];have:=h.jv P a;omega
theorem fT.mN(h:fT A N V L)(b:Mon A D d M m)(hd:d<=2000000000):vO L.cnt L.bg L.bx m/\jk (A*((A*(1*N))*N)) 131072 (ky (gv L.cnt L.bg m) (dX L.cnt L.bg m) L.bx (fS (dX L.cnt L.bg m) L.bx,0)):=by obtain⟨d1,_⟩:=h.del b hd;obtain⟨bB,cn⟩:=h.KW b;have f:L.bx.length*(64*512)<=2*(64*512):=aQ _ h.np;obtain⟨g,i⟩:=J2 h.mh (v:=gv L.cnt L.bg m) (r:=dX L.cnt L.bg m) (R:=A*(1*N)) (W:=512) (e:=202) h.dA h.bB Oy Oy L.bx 64 (fS (dX L.cnt L.bg m) L.bx,0) (λP a=>⟨h.bx P a,h.wO b hd a,h.zr b a⟩) ⟨λx c=>(Et _ _ cn x c).up (FV A 1 N) (bE _),cq.zero _ _⟩ (by rw[pH,qw]) Oz;refine⟨⟨d1.len,d1.qn,bB,d1.mem,d1.one,λx c=>(eE (cn x c).q h.dA h.bB (v:=1) Oy).mono Oz,d1.xA,λP a k j=>?_,g⟩,jk.up i (aG _) Oz⟩;have h1:=xt cn (P.1.take k);refine(eE h1.q h.dA h.bB (v:=2) (bq (aQ _ (m:=8) ?_) Oy)).mono Oz;rw[cl];have:=h.jv P a;omega
theorem Ht{v r:List Rat}{z:Nat}:∀(ps:List Pool) (g:Rat),ao g z->(∀p∈ps,∀h,gap (sums p.2) (bF v p.1)=cg h->bF r p.1≠0->ao (h/bF r p.1) z)->ao (jF v r ps g) z|[],_,a,_=>a|p::ps,g,a,hp=>by show ao (jF v r ps (oN v r p g)) z;refine Ht ps _ ?_ (λq b=>hp q (aL _ b));unfold oN;cases e:gap (sums p.2) (bF v p.1)with|none=>exact a|some h=>show ao (if 0<bF r p.1 then lq g (h/bF r p.1)else g) z;split;{unfold lq;split;{exact a};exact hp p (aP ..) h e Oj};exact a
theorem Hs{v r:List Rat}:∀(ps:List Pool) (g:Rat),jF v r ps g=g\/∃p∈ps,∃h,gap (sums p.2) (bF v p.1)=cg h/\0<bF r p.1/\jF v r ps g=h/bF r p.1|[],_=>.inl rfl|p::ps,g=>by show jF v r ps (oN v r p g)=g\/∃q∈p::ps,∃h,gap (sums q.2) (bF v q.1)=cg h/\0<bF r q.1/\jF v r ps (oN v r p g)=h/bF r q.1;rcases Hs ps (oN v r p g)with e|⟨q,c,h,h1,h2,h3⟩;{rw[e];unfold oN;cases e2:gap (sums p.2) (bF v p.1)with|none=>exact .inl rfl|some h=>show(if 0<bF r p.1 then lq g (h/bF r p.1)else g)=g\/_;by_cases a:0<bF r p.1;{rw[Uy a];by_cases b:lq g (h/bF r p.1)=g;{exact .inl b};refine .inr ⟨p,aP ..,h,e2,a,?_⟩;show(if 0<bF r p.1 then lq g (h/bF r p.1)else g)=_;rw[Uy a];unfold lq at b|-;split;{rw[Uy ‹_›]at b;exact Uj rfl b};rfl};rw[Uz a];exact .inl rfl};exact .inr ⟨q,aL _ c,h,h1,h2,h3⟩
theorem fT.BN(h:fT A N V L)(f:Mon A D d M m)(hd:d<=2000000000){P:Pool}(a:P∈L.bx){q:Rat}(g:gap (sums P.2) (bF (gv L.cnt L.bg m) P.1)=cg q):c8 (A*(D*N)) q/\0<q/\ao q (d+310):=by have h2:=h.wO f hd a;obtain⟨c,e,t,b,i,_⟩:=jG.gap h2.dvd P.2 _ (h.bx P a).iH h2.ga.1 h2.ga.2.1 q g;have h3:=((h.bx P a).iH.aW b ((h.bx P a).tl t b)).2.2;exact⟨c,e,(eE (cK.of c (dg e) (bj i h3)) h2.d0 h2.d1 (v:=10) (aF (mR h.v1 Oz) (iI Oz))).mono Oz⟩
theorem fT.BM(h:fT A N V L)(a:Mon A D d M m){q:Rat}(c:gap (sums L.bg) m=cg q):c8 D q/\0<q/\q<=((8*V:Nat):Rat):=by obtain⟨e,f,t,b,g,_⟩:=jG.gap a.dvd L.bg _ h.bg.iH a.ga.1 a.ga.2.1 q c;exact⟨e,f,bj g (h.bg.iH.aW b (h.bg.tl t b)).2.2⟩
theorem fT.ah(h:fT A N V L)(b:Mon A D d M m)(hd:d<=2000000000):AJ L.cnt L.bg L.bx m:=by have c:∀P∈L.bx,∀q,gap (sums P.2) (bF (gv L.cnt L.bg m) P.1)=cg q->bF (dX L.cnt L.bg m) P.1≠0->ao (q/bF (dX L.cnt L.bg m) P.1) 40000000000:=λP a q e f=>((h.BN b hd a e).2.2.div (eE (h.zr b a).q h.dA h.bB (v:=2) Oy) f).mono Oz;refine⟨(h.mN b hd).1,h.bg.Cu b,λg i k _=>Ht _ _ ?_ (λp j=>c p (cD j)),λP a=>⟨(h.bx P a).Co (h.wO b hd a),(h.bx P a).Cu (h.wO b hd a)⟩,λP a q e=>⟨(h.BN b hd a e).2.2.mono Oz,(eE (h.zr b a).q h.dA h.bB (v:=2) Oy).mono Oz,c P a q e⟩⟩;obtain⟨l,n,o⟩:=h.BM b i;exact(eE (cK.of l (dg n) o) b.d0 b.d1 (mR h.v1 Oz)).mono Oz
def sX(A V:Nat)(L:Lay)(b c a:Nat)(m:Rat):Prop:=∃D,b∣D/\Mon A D (c+1000*pos L m) (a+8*V*64) m/\m<=((a+8*V*pos L m:Nat):Rat)
theorem Fa:∀(ps:List Pool) (k:Nat),(∀P∈ps,P.2.length<=k)->tv ps<=ps.length*k|[],_,_=>by simp[tv]|P::ps,k,h=>by have h1:=Fa ps k (λQ a=>h Q (aL _ a));have h2:=h P (aP ..);rw[aT,b9,ck];simp only[tv];omega
theorem fT.oX(h:fT A N V L)(m:Rat):pos L m<=bound L/\bound L<=24:=by refine⟨Dn L m,?_⟩;have h1:=Fa L.bx 8 (λP a=>(h.bx P a).len);have h2:=h.np;have h3:=h.bg.len;unfold bound;omega
theorem fT.Gv{B k n:Nat}(h:fT A N V L)(y:k<=1000000000)(j:n+8*V*64<256^k){g:Rat}(C:sX A V L B k n m)(hs:dy.step L m=cg g):sX A V L B k n (m+g):=by
 obtain⟨D,H,b,O⟩:=C;have w:=(h.oX m).1;have F:=(h.oX (m+g)).1;have K:=(h.oX m).2;have z:=step_pos hs;have l:=zO h.ok.toOk b.ga.2.1 hs;have u:g<=((8*V:Nat):Rat):=by{have a:=hs;unfold dy.step at a;cases e:gap (sums L.bg) m with|none=>{rw[e]at a;cases a}|some g0=>rw[e]at a;injection a with a;have h1:=(least_le m L L.bx g0).1;have h2:=(h.BM b e).2.2;rw[<-a];exact bj h1 h2};have d:m+g<=((n+8*V*pos L (m+g):Nat):Rat):=by{have h1:n+8*V*pos L m+8*V<=n+8*V*pos L (m+g):=by{have:8*V*(pos L m+1)<=8*V*pos L (m+g):=cG _ l;rw[Nat.mul_add,Nat.mul_one]at this;omega};have h2:=qk h1;rw[c7]at h2;grind};have f:m+g<=((n+8*V*64:Nat):Rat):=bj d (qk (by have:8*V*pos L (m+g)<=8*V*64:=cG _ Oz;omega));have o:0<=m+g:=by{have:=b.ga.2.1;grind}
 have key:∃c,D∣c/\c≠0/\c<256^(k+1000*pos L m+1000)/\c8 c g:=by{rw[<-step_eq h.ok m (λp w=>h.ok.mem p w)]at hs;unfold o1 at hs;cases e:gap (sums L.bg) m with|none=>{rw[e]at hs;cases hs}|some g0=>rw[e]at hs;injection hs with hs;rcases Hs (v:=gv L.cnt L.bg m) (r:=dX L.cnt L.bg m) L.bx g0 with e2|⟨P,t,q,I,Q,J⟩;{rw[e2]at hs;subst hs;exact⟨D,aG _,b.d0,aF b.d1 (iI Oz),(h.BM b e).1⟩};rw[J]at hs;subst hs;obtain⟨G,M,_⟩:=h.BN b Oz t I;have s:=h.zr b t;have i:bF (dX L.cnt L.bg m) P.1≠0:=Oj;have E:=(c8.CW s.1 h.dA s.q.2.1 s.q.2.2).1;refine⟨A*(D*N)*(bF (dX L.cnt L.bg m) P.1).num.natAbs,⟨A*N*(bF (dX L.cnt L.bg m) P.1).num.natAbs,Oj⟩,cp (h.bg.dG.bL b.d0) ?_,?_,G.div i⟩;{intro x;exact i (Rat.num_eq_zero.1 (Int.natAbs_eq_zero.1 x))};have h1:=h.bg.dG.ap b.d1;have h2:(bF (dX L.cnt L.bg m) P.1).num.natAbs<256^(2+202):=bq E (ia Oy h.bB);exact aF (ia h1 h2) (iI Oz)};obtain⟨c,c1,c2,c3,c4⟩:=key;refine⟨c,de H c1,⟨de b.dvd c1,c2,aF c3 (iI Oz),⟨(b.ga.1.up c1).add c4,o,f⟩,aF j (iI Oz),Oz⟩,d⟩
theorem fT.Gu{i n k:Nat}(h:fT A N V L)(b:n<=1000000000)(a:k+8*V*64<256^n){x:Rat}:∀(f:Nat) (m y:Rat),sX A V L i n k m->pB L x f m=cg y->sX A V L i n k y|0,_,_,_,e=>by{cases e}|f+1,m,y,hm,e=>by unfold pB at e;cases es:dy.step L m with|none=>{rw[es]at e;cases e}|some g=>rw[es]at e;have h1:=h.Gv b a hm es;dsimp only at e;split at e;{exact h.Gu b a f (m+g) y h1 e};injection e with e;rw[<-e];exact h1
theorem fT.Sm{B n k:Nat}(h:fT A N V L)(f:n<=1000000000)(d:k+8*V*64<256^n):vN L.cnt L.bg L.bx (sX A V L B n k) (λm=>bound L-pos L m):=by refine⟨λm a=>?_,λm a=>?_,λm g a hs=>?_⟩;{obtain⟨D,i,c,j⟩:=a;have:=h.oX m;exact h.ah c Oz};{obtain⟨D,i,c,j⟩:=a;exact c.lt.mono Oz};have b:=hs;rw[step_eq h.ok m (λp l=>h.ok.mem p l)]at b;refine⟨?_,h.Gv f d a b,?_⟩;{obtain⟨D,i,c,j⟩:=a;have:=h.oX m;have o:=(h.ah c Oz).least;unfold o1 at hs;cases e:gap (sums L.bg) m with|none=>{rw[e]at hs;cases hs}|some g0=>rw[e]at hs;injection hs with hs;have h1:=o g0 e L.bx.length (bE _);rw[c0,hs]at h1;exact h1};obtain⟨D,i,c,j⟩:=a;have h1:=zO h.ok.toOk c.ga.2.1 b;have h2:=(h.oX m).1;have h3:=(h.oX (m+g)).1;show bound L-pos L (m+g)<bound L-pos L m;omega
theorem fT.Qa{k n i:Nat}(b:i+8*V*64<256^n)(c:n<=1000000000)(a:Mon A k n i m)(d:pos L m<=24):sX A V L k n i m:=by refine⟨k,aG _,⟨a.dvd,a.d0,aF a.d1 (iI Oz),a.ga.up (aG _) Oz,aF b (iI Oz),Oz⟩,bj a.ga.2.2 (qk Oz)⟩
theorem fT.next{i n k:Nat}(h:fT A N V L)(b:n<=1000000000)(a:k+8*V*64<256^n)(e:Mon A i n k m):(∃G mu jE,vN L.cnt L.bg L.bx G mu/\G m/\mu m<jE/\oV L.cnt L.bg L.bx (du.kR L.cnt L.bg L.bx m) jE m=iU.next L m)/\∀y,iU.next L m=cg y->∃D,i∣D/\Mon A D (n+24000) (k+8*V*64) y:=by have d:=fT.Qa (L:=L) a b e (aU (h.oX m).1 (h.oX m).2);refine⟨⟨sX A V L i n k,λm=>bound L-pos L m,bound L+1,h.Sm b a,d,?_,?_⟩,λy g=>?_⟩;{show bound L-pos L m<bound L+1;omega};{exact Jf h.ok (λp f=>h.ok.mem p f) m (bound L+1) m};obtain⟨D,j,c,l⟩:=h.Gu b a (bound L+1) m y d g;have h1:=(h.oX y).1;have h2:=(h.oX y).2;exact⟨D,j,c.dvd,c.d0,aF c.d1 (iI Oz),c.ga,aF a (iI Oz),Oz⟩
end
end uD
namespace jK
open Go.RowKit bA bC bD bP cC da dc cQ cP bZ
theorem LR{n g c z:Nat}{p:List Value}{f:Nat->Rat}(hn:n<=100)(hz:z<=1000000000)(Y:∀i,i<n->ao (f i) z)(hs:∀k,k<=n->ao (sm k f) z)(w:World)(h:ai w g 32 ((au n f).flatMap aw++p)):Calls Tryz.prog 25 #[Value.slice (cg ⟨g,0,dn⟩) n c] w (kT (sm n f) w):=by
 have HF:=ae h;have a0:=cv (λk (P:k<n) W (v:aq.In (Below W.1.size W))=>dc.q_in (Bb (sm k f) (f k) v.val 1000000000 1000000000 ((hs k Oz).mono hz) ((Y k P).mono hz) Oz));have a4:=cv (λk (P:k<n) W v=>pe (af (f k)) (bs (nm (f k))) (ag (f k)) (f k) (lm _) W v (aU ((Y k P).mono hz).num Oz) (aU ((Y k P).mono hz).ag Oz));have a8:Hid (∀k,sm k f+f k=sm (k+1) f):=ae (λk=>rfl);have a7:Hid (sm 0 f=0):=ae rfl;obtain⟨C,aB,m,O,Q⟩:=bU w (bk false) (aH ⟨#[]⟩) (aH ⟨#[]⟩);obtain⟨aJ,aD,o,y,az⟩:=bU C (bk false) (aH ⟨#[]⟩) (aH ⟨#[]⟩);obtain⟨V2,b⟩:∃W2,((aJ.setCell ⟨C.1.size,0,dn⟩ (bk false)).setCell ⟨C.1.size,1,dn⟩ (aH ⟨#[]⟩)).setCell ⟨C.1.size,2,dn⟩ (aH ⟨#[]⟩)=W2:=⟨_,rfl⟩;have J:=m.o.keep y m.o.lt;have hB:=O.trans (y.mono (Nat.le_of_lt Q));have a5:Hid (aI V2 w.1.size (bk false) (aH ⟨#[]⟩) (aH ⟨#[]⟩)):=ae (by rw[<-b];exact J.ep Oz _ _ _);have r:Hid (aI V2 C.1.size (bk (af 0)) (aH (bs (nm 0))) (aH (ag 0))):=ae (by have h3:[bk (af 0),aH (bs (nm 0)),aH (ag 0)]=[bk false,aH ⟨#[]⟩,aH ⟨#[]⟩]:=bS.kP;injection h3 with z1 h2;injection h2 with z2 h4;injection h4 with z3 _;rw[z1,z2,z3,<-b];exact o.o.bT _ _ _);have a2:Hid (Below w.1.size w V2):=ae (by rw[<-b];exact cS hB Oz _ _ _);rw[<-a7.o]at r;obtain⟨d0,d1,T,g0,U,X⟩:=o.o;obtain⟨aS,ak⟩:∃a,C.1.size=a:=⟨_,rfl⟩;have N:=ae b
 rw[ak]at r N d0 d1 T g0 U X Q az;clear h hs Y O y hB b J m o;go_enter Tryz.func25,Tryz.ntmps25;go_wp2_with fail;rw[N.o];clear d0 d1 T g0 U X;go_loopw [9] (λvi wr=>∃k:Nat,k<=n/\vi=Value.int IntKind.i64 k/\Hid (Below w.1.size w wr)/\Hid (aI wr w.1.size (bk false) (aH ⟨#[]⟩) (aH ⟨#[]⟩))/\Hid (aI wr aS (bk (af (sm k f))) (aH (bs (nm (sm k f)))) (aH (ag (sm k f))))) (λvi _=>n-(intOf vi).toNat);(case atStart=>exact⟨0,Oz,rfl,a2,a5,r⟩)
 case round=>obtain⟨k,P,rfl,R,S,L⟩:=hrel;by_cases d:k<n;{have E:=cv (a0.o k d);have H:=cv (a4.o k d);have B:=a8.o k;obtain⟨q,A⟩:=Uq (f k);obtain⟨s,hs⟩:=Uq (sm k f);obtain⟨t,ht⟩:∃s,sm (k+1) f=s:=⟨_,rfl⟩;rw[A,hs,ht]at B;rw[A,hs,B]at E;rw[A]at H;rw[hs]at L;have ad:=ae ht;have e:=HF.o.below R.o;have y0:=dp bm (j:=0) e d (by rw[A];rfl);have y1:=dp bm (j:=1) e d (by rw[A];rfl);have y2:=dp bm (j:=2) e d (by rw[A];rfl);rw[Nat.add_zero]at y0;obtain⟨V,hV,HX,l,aE⟩:=bU wr (bk (af q)) (aH (bs (nm q))) (aH (ag q));have x:=ae (L.o.keep l L.o.lt);have K:=ae (S.o.keep l S.o.lt);have F:=ae (R.o.trans (l.mono R.o.size));clear A hs ht B e l;go_wp2_with fail;obtain⟨k0,k1,k2⟩:=HX.o.kin;obtain⟨l0,l1,eK⟩:=x.o.kin;have G:=cv (H.o V);have D:=cv (E.o V);refine eO.region (I:=Below V.1.size V) 4 (aq.start _ _) Ox Ox ?_;simp only[List.take_succ_cons,List.take_zero,List.drop_succ_cons,List.drop_zero];(repeat(go_big_quiet_step ((first|(go_at_call 42;with_reducible exact G.o _)|(go_at_call 41;with_reducible exact D.o _)))));refine wpQuiet_nil ?_;intro u;obtain⟨u,Z⟩:=u;dsimp only;have M:=ae (x.o.keep Z x.o.lt);have a6:=ae (K.o.keep Z K.o.lt);have a3:=ae (F.o.trans (Z.mono F.o.size));clear Z k0 k1 k2 l0 l1 eK y0 y1 y2 G D;obtain⟨d0,d1,T,g0,U,X⟩:=M.o;go_wp2_with fail;exact⟨⟨k+1,Oz,rfl,ae (cS a3.o Oz _ _ _),ae (a6.o.ep Oz _ _ _),ae (by rw[ad.o];exact M.o.bT _ _ _)⟩,by simp only[intOf];omega⟩};obtain rfl:n=k:=Oz;obtain⟨s,hs⟩:=Uq (sm n f);rw[hs]at L;have a9:=ae hs;clear hs;obtain⟨d0,d1,T,_⟩:=L.o;obtain⟨bL,ap,e2,g0,U,X⟩:=S.o;go_wp2_with fail;refine bodyPost_ret (gK rfl _ rfl (S.o.bT _ _ _)) rfl ?_;exact⟨by rw[a9.o],cS R.o Oz _ _ _⟩
end jK
