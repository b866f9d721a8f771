/- Lemmas that TopSolvent leans on, without conditions: TsI TsK TsJ TsL TsN HsE PFC PFB PGA PGB PfV. -/
import Derived.Test.YtpbgmpjnfndfjaaGreatDoorKBP
import Derived.Shelf.Strings.Builder1
import Derived.Shelf.Strings.Builder2
import Derived.WalkSmall
import Derived.Lib.ItoaLen
set_option maxHeartbeats 2000000
set_option maxRecDepth 100000
set_option linter.all false
namespace Go.Proofs.YtpbgmpjnfndfjaaGreatDoor
open List renaming getElem?_eq_some_iff->ad,getElem?_eq_getElem->ak,length_map->az,getElem?_map->aB,length_take->aF,length_append->aG,not_mem_nil->aH,mem_singleton->aP,set_append_right->aT,mem_of_getElem?->aU,getElem?_of_mem->a0,getElem?_set->a3,getElem?_eq_none->a4,mem_append->a6,length_set->a7,getElem?_range->a9,flatMap_cons->bf,take_of_length_le->bn,mem_map->bq,length_range->bE,append_assoc->b9,eq_nil_of_length_eq_zero->cg,nodup_nil->cl,getElem?_append_left->cm,mem_cons_of_mem->cw,length_reverse->cz,flatMap_append->cA,range->cB,mem_cons_self->cG,nodup_append->cR,ext_getElem?->cX,mem_reverse->cZ,getElem_mem->c0,map_map->c5
open Value renaming string->aD,slice->aL,bool->a5,int->cr
open Option renaming some->aE,map_eq_some_iff->cp,none->cx
open Nat renaming dvd_refl->aQ,le_refl->a2,add_sub_cancel_left->bk,min_eq_left->bt,zero_le->ck,sub_self->cv,mul_le_mul_right->cy,lt_of_lt_of_le->cM,lt_irrefl->c4,zero_add->c6
open Go renaming Value->aS,World->a8,Addr->c3,maxLen->c9
open Classical renaming choose_spec->bj,choose->c7
open IntKind renaming i64->ce
open aZ bA bC bD bP bZ bw cO cQ dL dS dZ dy eH eV eW fg gq jB kY kZ mF nU nt qJ rU tr
variable{B c i j z:Nat}{L:List (List aS)}{T:TypeId}{hd:Int}{l:List (Nat×Nat)}{x:Nat->Rat}{pad:List aS}
namespace tt
open Go.RowKit cH
def ou(x:List aS):List aS:=x
section
variable {α:Type} {sz:Nat} {ok tO:a8->α->List aS->Prop} {P P' S:Nat->Prop} {w w':a8} {A:Option c3} {l:List α}
def kl(sz:Nat)(ok:a8->α->List aS->Prop)(P:Nat->Prop)(w:a8)(A:Option c3)(l:List α):Prop:=l.length<=c9/\(0<l.length->∃b a,A=aE ⟨b,a,cx⟩/\b<w.1.size/\P b/\∀k x,l[k]?=aE x->∃c,ok w x c/\∀j v,c[j]?=aE v->w.cell? ⟨b,a+k*sz+j,cx⟩=aE v)
theorem kl.ks(h:kl sz ok P w A l)(d:∀x c,ok w x c->tO w' x c)(m:av S w w')(g:∀b,b<w.1.size->P b->¬S b/\P' b):kl sz tO P' w' A l:=⟨h.1,λn=>by obtain⟨b,f,e,a,i,hc⟩:=h.2 n;refine⟨b,f,e,cM a m.size,(g b a i).2,λk x p=>?_⟩;obtain⟨c,h1,h2⟩:=hc k x p;exact⟨c,d x c h1,λj v o=>(wE m a (g b a i).1).trans (h2 j v o)⟩⟩
theorem kl.at_(h:kl sz ok P w A l)(g:w.1.size<=B)(d:∀x a,ok w x a->tO w x a):iK sz tO B w A l:=⟨h.1,λi=>by obtain⟨b,f,e,c,m,hc⟩:=h.2 i;refine⟨b,f,e,cM c g,λk x j=>?_⟩;obtain⟨a,h1,h2⟩:=hc k x j;exact⟨a,d x a h1,h2⟩⟩
theorem kl.cells(h:kl sz ok P w A l)(n:∀x c,ok w x c->c.length=sz):∃L:List (List aS),L.length=l.length/\(∀c∈L,c.length=sz)/\(∀(k:Nat) x,l[k]?=aE x->∃c,L[k]?=aE c/\ok w x c)/\jy sz ou P w A L:=by by_cases q:0<l.length;{obtain⟨b,i,e,m,o,hc⟩:=h.2 q;have h1:∀k,∃c:List aS,k<l.length->∀x,l[k]?=aE x->ok w x c/\∀j v,c[j]?=aE v->w.cell? ⟨b,i+k*sz+j,cx⟩=aE v:=λk=>by{by_cases a:k<l.length;{obtain⟨c,h2,h3⟩:=hc k _ (ak a);exact⟨c,λ_ x d=>by rw[ak a]at d;injection d with d;subst d;exact⟨h2,h3⟩⟩};exact⟨[],λh=>Uj h a⟩};refine⟨(cB l.length).map (λk=>c7 (h1 k)),Ow,λc g=>?_,λk x d=>?_,by simpa using h.1,λ_=>⟨b,i,e,m,o,λk c a j v g=>?_⟩⟩;{obtain⟨k,a,rfl⟩:=bq.1 g;have a:=List.mem_range.1 a;exact n _ _ ((bj (h1 k)) a _ (ak a)).1};{have a:=(ad.1 d).1;exact⟨_,by rw[aB,a9 a];rfl,((bj (h1 k)) a x d).1⟩};have f:k<l.length:=by{have:=(ad.1 a).1;simpa using this};rw[aB,a9 f]at a;injection a with a;subst a;exact((bj (h1 k)) f _ (ak f)).2 j v g};have p:l=[]:=cg Oz;subst p;exact⟨[],rfl,λc g=>(aH g).elim,λk x d=>by simp at d,ck _,λh=>Uj h (c4 0)⟩
theorem OV(g:L.length=l.length)(d:∀(k:Nat) x,l[k]?=aE x->∃a,L[k]?=aE a/\ok w x a)(h:jy sz ou P w A L):kl sz ok P w A l:=⟨by rw[<-g];exact h.1,λm=>by obtain⟨b,f,e,c,i,hc⟩:=h.2 (by rw[g];exact m);refine⟨b,f,e,c,i,λk x o=>?_⟩;obtain⟨a,h1,h2⟩:=d k x o;exact⟨a,h2,λj v n=>hc k a h1 j v n⟩⟩
theorem kl.nil:kl sz ok P w A []:=⟨ck _,λh=>Uj h (c4 0)⟩
end
section
variable {P P' S:Nat->Prop} {w w':a8} {A:Option c3}
def xI(P:Nat->Prop)(w:a8)(d:Rat×List (Nat×Nat))(a:List aS):Prop:=∃A c,a=[a5 (af d.1),aD (bs (nm d.1)),aD (ag d.1),aL A d.2.length c]/\jy 2 jY P w A d.2
def mT(P:Nat->Prop):a8->Option c3->List (Rat×List (Nat×Nat))->Prop:=kl 4 (xI P) P
theorem xI.ks{d vs}(h:xI P w d vs)(e:av S w w')(a:∀b,b<w.1.size->P b->¬S b/\P' b):xI P' w' d vs:=by obtain⟨A,c,h1,h2⟩:=h;exact⟨A,c,h1,h2.ks e a⟩
theorem mT.ks{l}(h:mT P w A l)(c:av S w w')(a:∀b,b<w.1.size->P b->¬S b/\P' b):mT P' w' A l:=kl.ks h (λ_ _ h=>h.ks c a) c a
theorem mT.at_{l}(h:mT P w A l):gO w.1.size w A l:=kl.at_ h (a2 _) (λ_ _ ⟨A,c,h1,h2⟩=>⟨A,c,h1,h2.row⟩)
def rR(P:Nat->Prop):a8->Option c3->List (List iy)->Prop:=kl 1 (λw t a=>∃A c,a=[aL A t.length c]/\jy 5 J7 P w A t) P
def pI(P:Nat->Prop):a8->Option c3->List (List (List iy))->Prop:=kl 1 (λw a b=>∃A c,b=[aL A a.length c]/\rR P w A a) P
theorem rR.ks{l}(h:rR P w A l)(d:av S w w')(a:∀b,b<w.1.size->P b->¬S b/\P' b):rR P' w' A l:=kl.ks h (λ_ _ ⟨A,c,h1,h2⟩=>⟨A,c,h1,h2.ks d a⟩) d a
theorem pI.ks{l}(h:pI P w A l)(d:av S w w')(a:∀b,b<w.1.size->P b->¬S b/\P' b):pI P' w' A l:=kl.ks h (λ_ _ ⟨A,c,h1,h2⟩=>⟨A,c,h1,rR.ks h2 d a⟩) d a
theorem rR.at_{l}(h:rR P w A l):qK w.1.size w A l:=kl.at_ h (a2 _) (λ_ _ ⟨A,c,h1,h2⟩=>⟨A,c,h1,h2.row⟩)
theorem pI.at_{l}(h:pI P w A l):nk w.1.size w A l:=kl.at_ h (a2 _) (λ_ _ ⟨A,c,h1,h2⟩=>⟨A,c,h1,rR.at_ h2⟩)
end
theorem C8{α:Type}{w:a8}{base sz n c:Nat}{vals:α->List aS}{A:Option c3}{P:Nat->Prop}{l:List α}(hs:∀x∈l,(vals x).length=sz)(h:w.ownsRow base T sz (aL A n c) n (l.flatMap vals))(t:l.length=n)(D:n<=c9)(q:∀b,base<=b->P b):jy sz vals P w A l:=by refine⟨Oz,λu=>?_⟩;obtain⟨g,pad,e,r,i,s,_,_⟩:=mK h Oz;refine⟨g,0,e,i.lt,q g r,λk x d j v p=>?_⟩;have C:=(ad.1 p).1;obtain⟨pre,a,m,f⟩:∃pre a,l.flatMap vals=pre++(vals x++a)/\pre.length=k*sz:=by{clear i s h u t;induction l generalizing k with|nil=>simp at d|cons y l ih=>cases k with|zero=>{rw[List.getElem?_cons_zero]at d;injection d with d;subst d;exact⟨[],l.flatMap vals,by rw[bf];rfl,Ow⟩}|succ k=>rw[List.getElem?_cons_succ]at d;obtain⟨pre,a,h1,h2⟩:=ih (λz B=>hs z (cw _ B)) k d;refine⟨vals y++pre,a,by rw[bf,h1,b9],?_⟩;rw[aG,h2,hs y (cG ..),Nat.add_mul];omega};rw[m,b9,b9]at i;have o:=rX.Bi i j v (by rw[<-p]);rw[f]at o;rw[c6];exact o
def u7(sz:Nat)(a:List aS):List aS:=(a++List.replicate sz (a5 false)).take sz
theorem SA(sz:Nat)(a:List aS):(u7 sz a).length=sz:=by unfold u7;rw[aF,aG,List.length_replicate];omega
theorem JJ{sz:Nat}{p:List aS}(h:p.length=sz):u7 sz p=p:=by unfold u7;rw[<-h];exact List.take_left
theorem JK{sz:Nat}:∀{L:List (List aS)},(∀a∈L,a.length=sz)->L.flatMap (u7 sz)=L.flatMap ou|[],_=>rfl|a::L,h=>by rw[bf,bf,JJ (h a (cG ..)),JK (λv b=>h v (cw _ b))];rfl
theorem Tz{P:Nat->Prop}{w:a8}{A:Option c3}{sz:Nat}(l:0<sz)(f:∀a∈L,a.length=sz)(h:jy sz ou P w A L):Reads w w.1.size sz A L.length (L.flatMap ou):=by rw[<-JK f];refine TY (vals:=u7 sz) (SA sz) l ⟨h.1,λm=>?_⟩;obtain⟨b,d,e,c,_,hc⟩:=h.2 m;exact⟨b,d,e,c,λk a g j v i=>by rw[JJ (f a (aU g))]at i;exact hc k a g j v i⟩
end tt
namespace qL
open Go.RowKit
structure oH where
 k:Nat
 hd:Int
 l:List (Nat×Nat)
def sI(z k:Nat):Bool:=decide (z/2^(k% 16)% 2=1)
def ql(ds:List (Rat×List (Nat×Nat)))(z i j:Nat)(y:bY)(s:oH):oH:=if(i,j)∈ds.flatMap (·.2)\/4<=s.l.length then s else if sI z s.k=true/\(s.l.length=0\/y.holder=s.hd)then⟨s.k+1,y.holder,s.l++[(i,j)]⟩else⟨s.k+1,s.hd,s.l⟩
def kO (ds:List (Rat×List (Nat×Nat))) (z i:Nat) (cs:List bY) (s:oH):Nat->oH
 |0=>s
 |j+1=>match cs[j]?with
  |some y=>ql ds z i j y (kO ds z i cs s j)
  |none=>kO ds z i cs s j
def mI (es:List bh) (ds:List (Rat×List (Nat×Nat))) (z:Nat):Nat->oH
 |0=>⟨0,0,[]⟩
 |i+1=>match es[i]?with
  |some e=>kO ds z i e.cs (mI es ds z i) e.cs.length
  |none=>mI es ds z i
def mY(es:List bh)(ds:List (Rat×List (Nat×Nat)))(z0 z1:Nat):List (Nat×Nat):=if z1% 2=1 then(mI es ds z0 es.length).l.reverse else(mI es ds z0 es.length).l
theorem JD{ds:List (Rat×List (Nat×Nat))}{cs:List bY}{s:oH}{y:bY}(h:cs[j]?=aE y):kO ds z i cs s (j+1)=ql ds z i j y (kO ds z i cs s j):=by show(match cs[j]?with|some y=>ql ds z i j y (kO ds z i cs s j)|none=>kO ds z i cs s j)=_;rw[h]
theorem JF{es:List bh}{ds:List (Rat×List (Nat×Nat))}{e:bh}(h:es[i]?=aE e):mI es ds z (i+1)=kO ds z i e.cs (mI es ds z i) e.cs.length:=by show(match es[i]?with|some e=>kO ds z i e.cs (mI es ds z i) e.cs.length|none=>mI es ds z i)=_;rw[h]
theorem C5{ds:List (Rat×List (Nat×Nat))}{y:bY}{s:oH}(h:(i,j)∈ds.flatMap (·.2)\/4<=s.l.length):ql ds z i j y s=s:=Uy h
theorem C2{ds:List (Rat×List (Nat×Nat))}{y:bY}{s:oH}(h:¬((i,j)∈ds.flatMap (·.2)\/4<=s.l.length))(h2:¬(sI z s.k=true/\(s.l.length=0\/y.holder=s.hd))):ql ds z i j y s=⟨s.k+1,s.hd,s.l⟩:=by unfold ql;rw[Uz h,Uz h2]
theorem C4{ds:List (Rat×List (Nat×Nat))}{y:bY}{s:oH}(h:¬((i,j)∈ds.flatMap (·.2)\/4<=s.l.length))(h2:sI z s.k=true/\(s.l.length=0\/y.holder=s.hd)):ql ds z i j y s=⟨s.k+1,y.holder,s.l++[(i,j)]⟩:=by unfold ql;rw[Uz h,Uy h2]
structure oG (es:List bh) (ds:List (Rat×List (Nat×Nat))) (i j:Nat) (hd:Int) (l:List (Nat×Nat)):Prop where
  few:l.length<=4
  ok:∀x∈l,∃e y,es[x.1]?=aE e/\e.cs[x.2]?=aE y/\y.holder=hd
  nodup:l.Nodup
  old:∀x∈l,x.1<i\/x.1=i/\x.2<j
  new:∀x∈l,x∉ds.flatMap (·.2)
theorem oG.step{es:List bh}{ds:List (Rat×List (Nat×Nat))}(h:oG es ds i j hd l):oG es ds i (j+1) hd l:=⟨h.few,h.ok,h.nodup,λx a=>by have:=h.old x a;omega,h.new⟩
theorem oG.up{es:List bh}{ds:List (Rat×List (Nat×Nat))}(h:oG es ds i j hd l):oG es ds (i+1) 0 hd l:=⟨h.few,h.ok,h.nodup,λx a=>by have:=h.old x a;omega,h.new⟩
theorem oG.put{es:List bh}{ds:List (Rat×List (Nat×Nat))}{e:bh}{y:bY}(h:oG es ds i j hd l)(k:es[i]?=aE e)(o:e.cs[j]?=aE y)(m:l.length<4)(d:l.length=0\/y.holder=hd)(n:(i,j)∉ds.flatMap (·.2)):oG es ds i (j+1) y.holder (l++[(i,j)]):=by refine⟨by rw[aG];exact m,λx c=>?_,?_,λx c=>?_,λx c=>?_⟩;{rcases a6.1 c with c|c;{obtain⟨f,p,h1,h2,h3⟩:=h.ok x c;rcases d with d|d;{rw[cg d]at c;exact(aH c).elim};exact⟨f,p,h1,h2,by rw[d];exact h3⟩};rw[aP.1 c];exact⟨e,y,k,o,rfl⟩};{refine cR.2 ⟨h.nodup,List.nodup_cons.2 ⟨aH,cl⟩,λa ha b g e=>?_⟩;rw[aP.1 g]at e;have:=h.old a ha;rw[e]at this;simp only at this;omega};{rcases a6.1 c with c|c;{have:=h.old x c;omega};rw[aP.1 c];exact .inr ⟨rfl,Nat.lt_succ_self _⟩};rcases a6.1 c with c|c;{exact h.new x c};rw[aP.1 c];exact n
theorem JC{es:List bh}{ds:List (Rat×List (Nat×Nat))}{z i:Nat}{e:bh}(b:es[i]?=aE e){s:oH}(h:oG es ds i 0 s.hd s.l):∀j,oG es ds i j (kO ds z i e.cs s j).hd (kO ds z i e.cs s j).l|0=>h|j+1=>by have a:=JC (z:=z) b h j;cases hy:e.cs[j]?with|none=>{have ap:kO ds z i e.cs s (j+1)=kO ds z i e.cs s j:=by{show(match e.cs[j]?with|some y=>ql ds z i j y (kO ds z i e.cs s j)|none=>kO ds z i e.cs s j)=_;rw[hy]};rw[ap];exact a.step}|some y=>rw[JD hy];generalize kO ds z i e.cs s j=st at a|-;by_cases h1:(i,j)∈ds.flatMap (·.2)\/4<=st.l.length;{rw[C5 h1];exact a.step};by_cases h2:sI z st.k=true/\(st.l.length=0\/y.holder=st.hd);{rw[C4 h1 h2];exact a.put b hy Oz h2.2 (λh3=>h1 (.inl h3))};rw[C2 h1 h2];exact a.step
theorem JE{es:List bh}{ds:List (Rat×List (Nat×Nat))}{z:Nat}:∀i,oG es ds i 0 (mI es ds z i).hd (mI es ds z i).l|0=>⟨by show 0<=4;omega,λx h=>(aH h).elim,cl,λx h=>(aH h).elim,λx h=>(aH h).elim⟩|i+1=>by have a:=JE (es:=es) (ds:=ds) (z:=z) i;cases he:es[i]?with|none=>{have ap:mI es ds z (i+1)=mI es ds z i:=by{show(match es[i]?with|some e=>kO ds z i e.cs (mI es ds z i) e.cs.length|none=>mI es ds z i)=_;rw[he]};rw[ap];exact a.up}|some e=>rw[JF he];exact(JC he a e.cs.length).up
theorem Sv(es:List bh)(ds:List (Rat×List (Nat×Nat)))(z0 z1:Nat):(mY es ds z0 z1).length<=4/\(mY es ds z0 z1).Nodup/\(∃hd:Int,∀x∈mY es ds z0 z1,∃e y,es[x.1]?=aE e/\e.cs[x.2]?=aE y/\y.holder=hd)/\∀x∈mY es ds z0 z1,x∉ds.flatMap (·.2):=by have h:=JE (es:=es) (ds:=ds) (z:=z0) es.length;unfold mY;split;{exact⟨by rw[cz];exact h.few,List.pairwise_reverse.2 (h.nodup.imp (λh=>Ne.symm h)),⟨_,λx a=>h.ok x (cZ.1 a)⟩,λx a=>h.new x (cZ.1 a)⟩};exact⟨h.few,h.nodup,⟨_,h.ok⟩,h.new⟩
def pQ(l L:List (Nat×Nat))(i:Nat):Prop:=L.length=l.length/\∀t,t<l.length->L[t]?=if t<i\/l.length-i<=t then l[l.length-1-t]?else l[t]?
theorem pQ.zero(l:List (Nat×Nat)):pQ l l 0:=⟨rfl,λt a=>by rw[Uz Oz]⟩
theorem pQ.swap{L:List (Nat×Nat)}{a b:Nat×Nat}(h:pQ l L i)(g:i+j+1=l.length)(k:i<j)(ha:L[i]?=aE a)(f:L[j]?=aE b):pQ l ((L.set i b).set j a) (i+1):=by refine⟨by rw[a7,a7];exact h.1,λt m=>?_⟩;have n:=h.1;have h2:=h.2 t m;rw[a3,a7,a3];have d:=h.2 i Oz;have e:=h.2 j Oz;rw[Uz Oz]at d e;by_cases ap:j=t;{subst ap;rw[Uy rfl,Uy Oz,Uy Oz,<-ha,d];congr 1;omega};rw[Uz ap];by_cases c:i=t;{subst c;rw[Uy rfl,Uy Oz,Uy Oz,<-f,e];congr 1;omega};rw[Uz c,h2];by_cases h3:t<i\/l.length-i<=t;{rw[Uy h3,Uy Oz]};rw[Uz h3,Uz Oz]
theorem pQ.done{L:List (Nat×Nat)}(h:pQ l L i)(b:l.length<=2*i+1):L=l.reverse:=by refine cX (λt=>?_);by_cases a:t<l.length;{rw[h.2 t a,List.getElem?_reverse a];split;{rfl};congr 1;omega};rw[a4 (by rw[h.1];omega),a4 (by rw[cz];omega)]
end qL
namespace tu
open Go.RowKit cL bQ iF fm qL
def uT(size i z:Nat):Int:=if z%(size+1)=i\/size<=z%(size+1)then-1 else((z%(size+1):Nat):Int)
def kd(f:Nat->Rat)(b:Nat)(a:Nat->Nat->Nat)(k:Nat):List bh:=(cB k).map (λi=>⟨if i<b then f (a i 0)else 0,[],[]⟩)
def sq(f:Nat->Rat)(size:Nat)(z:Nat->Nat)(es:List bh):List bh:=match es[z 0% size]?with|some e=>if 6<=e.cs.length then es else es.set (z 0% size) ⟨e.cash,e.cs++[⟨uT size (z 0% size) (z 1),((z 2% 3:Nat):Int),f (z 3)⟩],e.dP⟩|none=>es
def qY(f:Nat->Rat)(size:Nat)(fl:Nat->Nat->Nat)(es:List bh):Nat->List bh|0=>es|k+1=>sq f size (fl k) (qY f size fl es k)
def kr(f:Nat->Rat)(es:List bh)(a:Nat->Nat->Nat):Nat->List (Rat×List (Nat×Nat))|0=>[]|k+1=>if(kr f es a k).length<3 then kr f es a k++[(f (a k 2),mY es (kr f es a k) (a k 0) (a k 1))]else kr f es a k
def qZ(f:Nat->Rat)(n b:Nat)(a:Nat->Nat->Nat)(fq:Nat)(fl:Nat->Nat->Nat):List bh:=qY f (1+n% 4) fl (kd f b a (1+n% 4)) fq
def wB(f:Nat->Rat)(es:List bh)(nd:Nat)(a:Nat->Nat->Nat):List (Rat×List (Nat×Nat)):=kr f es a nd
structure Ad (size i:Nat) (e:bh):Prop where
 dP:e.dP=[]
 len:e.cs.length<=6
 cash:cq 60 30 e.cash
 each:∀y∈e.cs,cq 60 30 y.eM/\(0<=y.iw/\y.iw<3)/\y.holder≠(i:Int)/\ -1<=y.holder/\y.holder<(size:Int)
structure rK (size:Nat) (es:List bh):Prop where
 len:es.length=size
 each:∀(i:Nat) (e:bh),es[i]?=aE e->Ad size i e
section
variable {f:Nat->Rat} {size:Nat} {es:List bh}
theorem Qd(c:∀x,cq 60 30 (f x))(h:Nat)(b:Nat->Nat->Nat)(k:Nat):rK k (kd f h b k):=by refine⟨by unfold kd;rw[az,bE],λi e a=>?_⟩;have d:i<k:=by{have:=(ad.1 a).1;unfold kd at this;rw[az,bE]at this;exact this};unfold kd at a;rw[aB,a9 d]at a;injection a with a;subst a;refine⟨rfl,ck _,?_,λy g=>by cases g⟩;dsimp only;split;{exact c _};exact cq.zero _ _
theorem Qf(k:∀x,cq 60 30 (f x))(z:Nat->Nat)(h:rK size es):rK size (sq f size z es):=by unfold sq;cases he:es[z 0% size]?with|none=>exact h|some e=>dsimp only;split;{exact h};rename_i g;have l:=(ad.1 he).1;have c:=h.each _ e he;refine⟨by rw[a7];exact h.len,λi j a=>?_⟩;rw[a3]at a;by_cases d:z 0% size=i;{rw[Uy d,Uy l]at a;injection a with a;subst a;subst d;refine⟨c.dP,by rw[aG];show e.cs.length+1<=6;omega,c.cash,λy b=>?_⟩;rcases a6.1 b with b|b;{exact c.each y b};rw[aP.1 b];refine⟨k _,⟨by dsimp only;omega,by dsimp only;omega⟩,?_⟩;dsimp only;unfold uT;split;{exact⟨Oz,Oz,Oz⟩};exact⟨Oz,Oz,Oz⟩};rw[Uz d]at a;exact h.each i j a
theorem Gz(a:∀x,cq 60 30 (f x))(fl:Nat->Nat->Nat)(h:rK size es):∀k,rK size (qY f size fl es k)|0=>h|k+1=>Qf a _ (Gz a fl h k)
theorem GH(b:∀x,cq 60 30 (f x))(n c:Nat)(a:Nat->Nat->Nat)(fq:Nat)(fl:Nat->Nat->Nat):rK (1+n% 4) (qZ f n c a fq fl):=Gz b fl (Qd b c a _) fq
structure xJ (es:List bh) (ds:List (Rat×List (Nat×Nat))):Prop where
  len:ds.length<=3
  each:∀d∈ds,cq 60 30 d.1/\d.2.length<=4/\∃hd:Int,∀x∈d.2,∃e y,es[x.1]?=aE e/\e.cs[x.2]?=aE y/\y.holder=hd
  nodup:(ds.flatMap (·.2)).Nodup
theorem BZ(i:∀x,cq 60 30 (f x))(c:Nat->Nat->Nat):∀k,xJ es (kr f es c k)|0=>⟨ck _,λd hd=>(aH hd).elim,cl⟩|k+1=>by have h:=BZ i c k;unfold kr;split;{rename_i l;obtain⟨bO,eo,fO,kt⟩:=Sv es (kr f es c k) (c k 0) (c k 1);refine⟨by rw[aG];exact l,λd hd=>?_,?_⟩;{rcases a6.1 hd with hd|hd;{exact h.each d hd};rw[aP.1 hd];exact⟨i _,bO,fO⟩};rw[cA];refine cR.2 ⟨h.nodup,?_,λa ha b j e=>?_⟩;{simpa using eo};have g:b∈mY es (kr f es c k) (c k 0) (c k 1):=by{simpa using j};subst e;exact kt a g ha};exact h
end
def pF(es:List bh):List bh:=es.map (λe=>⟨e.cash+ew e.cs,e.cs,e.dP⟩)
theorem Lv{es:List bh}{e:bh}(h:es[i]?=aE e):(pF es)[i]?=aE ⟨e.cash+ew e.cs,e.cs,e.dP⟩:=by unfold pF;rw[aB,h];rfl
theorem Lw{es:List bh}{e:bh}(h:(pF es)[i]?=aE e):∃bL,es[i]?=aE bL/\e=⟨bL.cash+ew bL.cs,bL.cs,bL.dP⟩:=by unfold pF at h;rw[aB]at h;obtain⟨bL,h1,h2⟩:=cp.1 h;exact⟨bL,h1,h2.symm⟩
theorem Mj{l:List bY}(c:l.length<=8)(h:∀y∈l,cq 60 30 y.eM):cq 60 240 (ew l):=by have h1:=cK.aA (D:=60) (V:=30) (n:=8) (l.map (·.eM)) (by rw[az];exact c) (λx a=>by obtain⟨y,b,rfl⟩:=bq.1 a;exact(h y b).q);exact⟨h1.1,oJ.pG _ (λx a=>by obtain⟨y,b,rfl⟩:=bq.1 a;exact(h y b).2.1),h1.2.2⟩
theorem UT{size:Nat}{es:List bh}{ds:List (Rat×List (Nat×Nat))}(h:rK size es)(hd:xJ es ds)(r:0<size)(h4:size<=4):pO (pF es) ds:=by have l:=h.len;have g:(pF es).length=size:=by{unfold pF;rw[az];exact l};refine⟨λe f=>?_,Oz,Oz,λi e f y b=>?_,by have:=hd.len;omega,λd m=>?_,hd.nodup⟩;{obtain⟨i,k⟩:=a0 f;obtain⟨bL,h1,rfl⟩:=Lw k;have a:=h.each i bL h1;have j:=a.len;refine⟨a.dP,by show bL.cs.length<=8;omega,λy b=>?_,?_⟩;{have:=a.each y b;exact⟨this.1.up (aQ _) Oy,Oz,Oz⟩};exact(a.cash.add (Mj Oz (λy b=>(a.each y b).1))).up (aQ _) Oy};{obtain⟨bL,h1,rfl⟩:=Lw f;have:=(h.each i bL h1).each y b;exact⟨this.2.2.1,this.2.2.2.1,by rw[g];exact this.2.2.2.2⟩};obtain⟨o,p,c,q⟩:=hd.each d m;refine⟨o.up (aQ _) Oy,p,c,λx n=>?_⟩;obtain⟨e,y,h1,h2,h3⟩:=q x n;exact⟨_,y,Lv h1,h2,h3⟩
def jV (es:List bh) (legs:List (Nat×Nat)) (k:Nat):Rat:=match legs[k]?with
 |some l=>match es[l.1]?with
  |some e=>match e.cs[l.2]?with
   |some y=>y.eM
   |none=>0
  |none=>0
 |none=>0
theorem Bd{es:List bh}{legs:List (Nat×Nat)}{k:Nat}{l:Nat×Nat}{e:bh}{y:bY}(h1:legs[k]?=aE l)(h2:es[l.1]?=aE e)(h3:e.cs[l.2]?=aE y):jV es legs k=y.eM:=by unfold jV;rw[h1];dsimp only;rw[h2];dsimp only;rw[h3]
theorem EZ{cs:List bY}{y:bY}(h:cs[c]?=aE y):jr (cs.map bY.d) c=y.eM:=by unfold jr;rw[aB,h];rfl
theorem Vy(l:List bY):sm (l.map bY.d).length (jr (l.map bY.d))=ew l:=by have h2:ew l=aA ((cB l.length).map (jr (l.map bY.d))):=by{unfold ew;congr 1;refine cX (λk=>?_);by_cases a:k<l.length;{rw[aB,aB,a9 a,ak a];exact congrArg aE (EZ (ak a)).symm};rw[a4 (by rw[az];omega),a4 (by rw[az,bE];omega)]};rw[h2,az];exact(zU _ _).symm
theorem solved{es:List bh}{ds:List (Rat×List (Nat×Nat))}(h:pO es ds)(hc:∀e∈es,ew e.cs<=e.cash)(F:o7.Inv (bd es ds) 1 x):(∀(i:Nat) (e:bh),es[i]?=aE e->sS es i<=x i)/\(∀(i c:Nat) (e:bh) (y:bY),es[i]?=aE e->e.cs[c]?=aE y->leg (bd es ds) i c=false->deliver ((bd es ds).lay i) (x i) c-nH (bd es ds) x i c=y.eM)/\∀d∈ds,sm d.2.length (di (au (bd es ds).n (fK (bd es ds) x)) d.2)=lq (sm d.2.length (jV es d.2)) d.1:=by
 have B:=h.Gw;have r:=Cc B;have j:∀{i c:Nat} {e:bh} {y:bY},es[i]?=aE e->e.cs[c]?=aE y->jr (kJ ⟨es.map bh.d,ds⟩ i).ei c=y.eM:=λa A=>by{rw[sg a];exact EZ A};have m:∀e∈es,sm e.d.ei.length (jr e.d.ei)=ew e.cs:=λe a=>by{exact Vy e.cs};obtain⟨J,D,K⟩:=UZ B (λbL p=>by obtain⟨e,a,rfl⟩:=bq.1 p;exact(h.dJ e a).dP) (λbL p=>by obtain⟨e,a,rfl⟩:=bq.1 p;rw[m e a];exact hc e a) F;have v:∀{i:Nat} {e:bh},es[i]?=aE e->i<(es.map bh.d).length:=λa=>by{rw[az];exact(ad.1 a).1};refine⟨λi e a=>?_,λi c e y a A w=>?_,λd hd=>?_⟩;{have h1:=J i (v a);rw[sg a,Kq (h.dJ e (aU a)).Gc,m e (aU a)]at h1;unfold sS;rw[a];exact h1};{rw[KN w];have h1:=D i c (v a);rw[j a A]at h1;have h2:deliver ((bd es ds).lay i) (x i) c=y.eM:=h1;rw[h2];grind}
 obtain⟨q,I⟩:=a0 hd;obtain⟨_,_,H,z⟩:=h.pY d hd;have s:∀k,k<d.2.length->∃l e y,d.2[k]?=aE l/\es[l.1]?=aE e/\e.cs[l.2]?=aE y/\l.1<(bd es ds).n/\l.2<((bd es ds).lay l.1).cnt:=λk g=>by{have C:=c0 g;obtain⟨e,y,h1,h2,_⟩:=z _ C;have h3:=r.legs d hd _ C;exact⟨_,e,y,ak g,h1,h2,h3.1,h3.2.1⟩};have E:sm d.2.length (jV es d.2)=aA (iF.ds (bd es ds) x d):=by{have h1:=vu (l:=iF.ds (bd es ds) x d) (f:=jV es d.2) d.2.length (λk g=>by obtain⟨l,e,y,h1,h2,h3,h4,u⟩:=s k g;rw[Bd h1 h2 h3];unfold iF.ds;rw[aB,h1];show aE (deliver ((bd es ds).lay l.1) (x l.1) l.2)=_;have t:=D l.1 l.2 (v h2);rw[j h2 h3]at t;exact congrArg aE t);rw[h1,bn (by rw[nB];exact a2 _)]};have G:sm d.2.length (di (au (bd es ds).n (fK (bd es ds) x)) d.2)=aA (iF.ds (bd es ds) x d)-aA (jQ d.1 (iF.ds (bd es ds) x d)):=by{have ap:au (bd es ds).n (fK (bd es ds) x)=kj (bd es ds) (λi c=>deliver ((bd es ds).lay i) (x i) c-nH (bd es ds) x i c):=rfl;rw[ap];have h1:∀k,k<d.2.length->di (kj (bd es ds) (λi c=>deliver ((bd es ds).lay i) (x i) c-nH (bd es ds) x i c)) d.2 k=di (jO (bd es ds) x) d.2 k-((jQ d.1 (iF.ds (bd es ds) x d))[k]?).getD 0:=λk g=>by{obtain⟨l,e,y,h1,h2,h3,h4,u⟩:=s k g;rw[sL h1 h4 u,sL h1 h4 u];have t:(jQ d.1 (iF.ds (bd es ds) x d))[k]?=aE (nH (bd es ds) x l.1 l.2):=TK r (x:=x) (i:=l.1) (c:=l.2) (q:=q) (k:=k) (b:=d) I h1;exact(congrArg (λo:Option Rat=>deliver ((bd es ds).lay l.1) (x l.1) l.2-o.getD 0) t).symm};rw[dv _ h1,rv];have h2:=vu (l:=iF.ds (bd es ds) x d) (f:=di (jO (bd es ds) x) d.2) d.2.length (λk g=>Di r hd g);have h3:=vu (l:=jQ d.1 (iF.ds (bd es ds) x d)) (f:=λk=>((jQ d.1 (iF.ds (bd es ds) x d))[k]?).getD 0) d.2.length (λk g=>by have w:k<(jQ d.1 (iF.ds (bd es ds) x d)).length:=by{rw[zw,nB];exact g};rw[ak w];rfl);rw[h2,h3,bn (by rw[nB];exact a2 _),bn (by rw[zw,nB];exact a2 _)]};rw[G,E,wD d.1 _ (h.pY d hd).1.2.1];generalize aA (iF.ds (bd es ds) x d)=S;show _=(if eC S d.1<=0 then S else d.1);unfold eC;by_cases h1:S<d.1;{rw[Uy (Rat.le_of_lt h1),Uy h1,Uy Oy]};by_cases h2:S=d.1;{rw[Uy (by rw[h2];exact Rat.le_refl),Uz h1,Uy h2,Uy Oy]};rw[Uz (λh3=>Oj),Uz h1,Uz h2,Uz Oy]
end tu
namespace xW
open Go.RowKit cT kH tt
structure dQ where
 e:bh
 hc:aS
 ha:aS
def dQ.vals(p:dQ):List aS:=[a5 (af p.e.cash),aD (bs (nm p.e.cash)),aD (ag p.e.cash),p.hc,p.ha]
theorem qb(p:dQ):p.vals.length=5:=rfl
structure o4 (κ:Nat->Nat) (cW w:a8) (dj bK n cE:Nat) (ll:aS) (l:List dQ) (pad:List aS):Prop where
 eX:sU κ cW w
 qc:fu κ 0 w dj 62 [aL (aE ⟨bK,0,cx⟩) n cE,ll]
 dJ:fu κ 1 w bK 45 (l.flatMap dQ.vals++pad)
 len:l.length=n
 n4:n<=4
 cls:∀(k:Nat) (p:dQ),l[k]?=aE p->fG κ (10+k) w cW.1.size 65 5 p.hc p.e.cs.length (p.e.cs.flatMap bY.vals)
 pU:∀(k:Nat) (p:dQ),l[k]?=aE p->∃A c,p.ha=aL A p.e.dP.length c/\pI (λb=>κ b=3) w A p.e.dP
section
variable {κ aX:Nat->Nat} {cW w w':a8} {dj bK n cE d:Nat} {ll:aS} {l:List dQ} {pad:List aS}
theorem vR{A:Option c3}{L:List (List (List iy))}(h:pI (λb=>κ b=c) w A L)(hs:aM d κ w aX w')(a:c≠d):pI (λb=>aX b=c) w' A L:=h.ks hs.ks (λb g e=>⟨λf=>a (e.symm.trans f),(hs.co b g).trans e⟩)
theorem o4.ah(h:o4 κ cW w dj bK n cE ll l pad)(hs:aM 999 κ w aX w'):o4 aX cW w' dj bK n cE ll l pad:=⟨h.eX.ah hs Oy,h.qc.ah hs Oy,h.dJ.ah hs Oy,h.len,h.n4,λk p a=>(h.cls k p a).ah hs (by have:=(ad.1 a).1;have:=h.len;have:=h.n4;omega),λk p a=>by obtain⟨A,c,h1,h2⟩:=h.pU k p a;exact⟨A,c,h1,vR h2 hs Oy⟩⟩
theorem PA{p:dQ}(v:aS)(h:ai w bK T (l.flatMap dQ.vals++pad))(c:l[i]?=aE p)(b:bh)(d:b.cash=p.e.cash):ai (w.setCell ⟨bK,i*5+3,cx⟩ v) bK T ((l.set i ⟨b,v,p.ha⟩).flatMap dQ.vals++pad):=by have f:=(ad.1 c).1;have h2:=h.set (i*5+3) v;have a:((l.take i).flatMap dQ.vals).length=i*5:=by{rw[eA qb,aF,bt Oz]};rw[yC l i _ c pad,aT _ _ Oz,a,bk]at h2;rw[<-yA qb l i _ f pad];have ap:(p.vals++((l.drop (i+1)).flatMap dQ.vals++pad)).set 3 v=(⟨b,v,p.ha⟩:dQ).vals++((l.drop (i+1)).flatMap dQ.vals++pad):=by{show[_,_,_,v,p.ha]++_=[_,_,_,v,p.ha]++_;rw[d]};rw[ap]at h2;exact h2
theorem o4.put{p:dQ}{v':aS}{W:a8}{y:bY}(h:o4 κ cW w dj bK n cE ll l pad)(f:l[i]?=aE p)(j:W.ownsRow cW.1.size 65 5 v' (p.e.cs.length+1) (p.e.cs.flatMap bY.vals++y.vals))(s:w.grownBy W p.hc.ownBlock)(r:v'.ownBlock=p.hc.ownBlock\/v'.ownBlock=aE w.1.size):o4 (eN κ w.1.size (10+i)) cW (W.setCell ⟨bK,i*5+3,cx⟩ v') dj bK n cE ll (l.set i ⟨⟨p.e.cash,p.e.cs++[y],p.e.dP⟩,v',p.ha⟩) pad:=by have g:=(ad.1 f).1;have t:=h.len;have o:=h.n4;have b:aM (10+i) κ w (eN κ w.1.size (10+i)) W:=aM.grown (h.cls i p f).2 s;have m:=h.dJ.ah b Oz;have d:aM 1 (eN κ w.1.size (10+i)) W (eN κ w.1.size (10+i)) (W.setCell ⟨bK,i*5+3,cx⟩ v'):=aM.set (p:=⟨bK,i*5+3,cx⟩) m.2 v';refine⟨(h.eX.ah b Oz).ah d Oy,(h.qc.ah b Oz).ah d Oy,⟨PA v' m.1 f _ rfl,m.2⟩,by rw[a7];exact t,o,λk q a=>?_,λk q a=>?_⟩;{rw[a3]at a;by_cases e:i=k;{subst e;rw[Uy rfl,Uy g]at a;injection a with a;subst a;have h1:=((h.cls i p f).push j r).ah d Oz;dsimp only;rw[aG,cA,List.flatMap_singleton];exact h1};rw[Uz e]at a;exact((h.cls k q a).ah b Oz).ah d Oz};rw[a3]at a;by_cases e:i=k;{subst e;rw[Uy rfl,Uy g]at a;injection a with a;subst a;obtain⟨A,c,h1,h2⟩:=h.pU i p f;exact⟨A,c,h1,vR (vR h2 b Oz) d Oy⟩};rw[Uz e]at a;obtain⟨A,c,h1,h2⟩:=h.pU k q a;exact⟨A,c,h1,vR (vR h2 b Oz) d Oy⟩
end
structure oh (P:Nat->Prop) (w:a8) (bK:Nat) (l:List dQ) (pad:List aS):Prop where
 dJ:ai w bK 45 (l.flatMap dQ.vals++pad)
 cls:∀p∈l,∃A c,p.hc=aL A p.e.cs.length c/\jy 5 bY.vals P w A p.e.cs
 pU:∀p∈l,∃A c,p.ha=aL A p.e.dP.length c/\pI P w A p.e.dP
section
variable {P P' S:Nat->Prop} {w w':a8} {bK:Nat} {l:List dQ} {pad:List aS}
theorem oh.ks(h:oh P w bK l pad)(a:av S w w')(f:¬S bK)(e:∀b,b<w.1.size->P b->¬S b/\P' b):oh P' w' bK l pad:=⟨a.aC h.dJ f,λp d=>by obtain⟨A,c,h1,h2⟩:=h.cls p d;exact⟨A,c,h1,h2.ks a e⟩,λp d=>by obtain⟨A,c,h1,h2⟩:=h.pU p d;exact⟨A,c,h1,h2.ks a e⟩⟩
theorem oh.l8(h:oh P w bK l pad)(o:l.length<=4):gb w.1.size w (aE ⟨bK,0,cx⟩) (l.map dQ.e):=by refine⟨by rw[az];exact Nat.le_trans o Oy,λ_=>⟨bK,0,rfl,h.dJ.lt,λk x f=>?_⟩⟩;rw[aB]at f;obtain⟨p,a,rfl⟩:=cp.1 f;have b:=aU a;obtain⟨A,c,h1,h2⟩:=h.cls p b;obtain⟨g,m,h3,h4⟩:=h.pU p b;refine⟨p.vals,⟨A,c,g,m,by unfold dQ.vals;rw[h1,h3],h2.row,pI.at_ h4⟩,λj v d=>?_⟩;have n:j<5:=(ad.1 d).1;rw[c6];refine h.dJ.cell (i:=k*5+j) ?_;have q:=(ad.1 a).1;rw[cm (by rw[eA qb];omega),eT qb l k p a j n];exact d
end
theorem o4.Qi{κ:Nat->Nat}{cW w:a8}{dj bK n cE:Nat}{ll:aS}{l:List dQ}{pad:List aS}(h:o4 κ cW w dj bK n cE ll l pad)(hc:∀p∈l,p.e.cs.length<=1000):oh (λb=>cW.1.size<=b/\b≠dj/\b≠bK) w bK l pad:=by have j:∀b,κ b≠1000->cW.1.size<=b:=λb i=>by{refine Nat.le_of_not_lt (λh2=>i (h.eX.2 b h2))};refine⟨h.dJ.1,λp r=>?_,λp r=>?_⟩;{obtain⟨k,o⟩:=a0 r;have B:=(ad.1 o).1;have D:=h.len;have C:=h.n4;obtain⟨q,d⟩:=h.cls k p o;obtain⟨A,c,v⟩:=aZ.fL q;rw[v]at q d;refine⟨A,c,v,?_⟩;have h1:=hc p r;have u:=C8 (P:=λb=>cW.1.size<=b) (λx _=>OA x) q rfl (by unfold c9;omega) (λb i=>i);refine⟨u.1,λm=>?_⟩;obtain⟨b,t,e,s,i,f⟩:=u.2 m;subst e;have z:κ b=10+k:=d b (by obtain⟨g,y,a,_,_,_,_,_⟩:=mK q m;injection a with a;injection a with a;subst a;rfl);exact⟨b,t,rfl,s,⟨i,λe=>by subst e;have:=h.qc.2;omega,λe=>by subst e;have:=h.dJ.2;omega⟩,f⟩};obtain⟨k,o⟩:=a0 r;obtain⟨A,c,h1,h2⟩:=h.pU k p o;exact⟨A,c,h1,h2.ks (av.refl (λ_=>False) _) (λb _ e=>⟨id,j b Oz,λa=>by subst a;have:=h.qc.2;omega,λa=>by subst a;have:=h.dJ.2;omega⟩)⟩
end xW
namespace EP
open Go.RowKit cu eQ bQ iF oK pR rW tu xW
def DV(p:dQ):dQ:=⟨⟨p.e.cash+ew p.e.cs,p.e.cs,p.e.dP⟩,p.hc,p.ha⟩
def oC(l:List dQ)(i:Nat):List dQ:=(l.take i).map DV++l.drop i
theorem UK(l:List dQ)(i:Nat):(oC l i).length=l.length:=by unfold oC;rw[aG,az,aF,List.length_drop];omega
theorem UJ{l:List dQ}{p:dQ}(h:l[i]?=aE p):(oC l i)[i]?=aE p:=by have a:=(ad.1 h).1;unfold oC;rw[List.getElem?_append_right (by rw[az,aF];omega),az,aF,bt Oz,cv,List.getElem?_drop,Nat.add_zero];exact h
theorem UL{l:List dQ}{p:dQ}(h:l[i]?=aE p):oC l (i+1)=(oC l i).set i (DV p):=by have a:=(ad.1 h).1;unfold oC;rw[List.take_add_one,h,aT _ _ (by rw[az,aF];omega),az,aF,bt Oz,cv,List.drop_eq_getElem_cons a,List.map_append];have ap:l[i]=p:=by{rw[ak a]at h;injection h};rw[ap];simp
theorem UI(l:List dQ):(oC l l.length).map dQ.e=pF (l.map dQ.e):=by unfold oC pF;rw[List.take_length,List.drop_length,List.append_nil,c5,c5];rfl
theorem Py{w:a8}{bK:Nat}{l:List dQ}{p:dQ}(q:Rat)(h:ai w bK T (l.flatMap dQ.vals++pad))(d:l[i]?=aE p)(a:dQ)(h1:a.e.cash=q)(h2:a.hc=p.hc)(h3:a.ha=p.ha):ai (((w.setCell ⟨bK,i*5,cx⟩ (a5 (af q))).setCell ⟨bK,i*5+1,cx⟩ (aD (bs (nm q)))).setCell ⟨bK,i*5+2,cx⟩ (aD (ag q))) bK T ((l.set i a).flatMap dQ.vals++pad):=by have f:=(ad.1 d).1;have c:=((h.set (i*5) (a5 (af q))).set (i*5+1) (aD (bs (nm q)))).set (i*5+2) (aD (ag q));have b:((l.take i).flatMap dQ.vals).length=i*5:=by{rw[eA qb,aF,bt Oz]};rw[yC l i _ d pad,aT _ _ Oz,aT _ _ Oz,aT _ _ Oz,b,cv,bk,bk]at c;rw[<-yA qb l i _ f pad];have ap:(((p.vals++((l.drop (i+1)).flatMap dQ.vals++pad)).set 0 (a5 (af q))).set 1 (aD (bs (nm q)))).set 2 (aD (ag q))=a.vals++((l.drop (i+1)).flatMap dQ.vals++pad):=by{show[_,_,_,p.hc,p.ha]++_=[_,_,_,a.hc,a.ha]++_;rw[h1,h2,h3]};rw[ap]at c;exact c
theorem oq{l:List dQ}{p:dQ}{v:aS}(a:l[i]?=aE p)(b:p.vals[j]?=aE v):(l.flatMap dQ.vals++pad)[i*5+j]?=aE v:=by have d:=(ad.1 a).1;have c:j<5:=(ad.1 b).1;rw[cm (by rw[eA qb];omega),eT qb l i p a j c];exact b
theorem Od{size:Nat}{e:bh}(h:Ad size i e)(j:Nat):ao (e.cash+ew (e.cs.take j)) 1000:=by have h1:=h.cash.q.add (Mj (l:=e.cs.take j) (by rw[aF];have:=h.len;omega) (λy a=>(h.each y (List.mem_of_mem_take a)).1)).q;exact(eE h1 Oy (d:=1) Oy (v:=2) Oy).mono Oy
theorem Nr{size:Nat}{e:bh}(h:Ad size i e){y:bY}(a:y∈e.cs):ao y.eM 1000:=(eE (h.each y a).1.q Oy (d:=1) Oy (v:=1) Oy).mono Oy
theorem Se{A N V C:Nat}{g:bM}{t:Rat}(h:dN A N V C g)(hs:jz A N V C g x t){q:Rat×List (Nat×Nat)}(v:q∈g.bH):∀k,k<=q.2.length->ao (sm k (di (au g.n (fK g x)) q.2)) 900000000:=λk E=>by obtain⟨D,dd,s,G,H,I,J,K,L,M⟩:=hs.pt h;have d:=s 0 h.n0;have h4:=h.l4 q v;have ap:au g.n (fK g x)=kj g (λi c=>deliver (g.lay i) (x i) c-nH g x i c):=rfl;have o:∀b∈g.bH,∀k,k<=b.2.length->cK (jX A N D) (1024*V) (sm k (di (jO g x) b.2)):=λb a k E=>by{have h1:=sQ (D:=jX A N D) (W:=256*V) (f:=di (jO g x) b.2) k (λj u=>h.tS s Oz a Oz);refine h1.q.up (aQ _) ?_;have h2:=h.l4 b a;have:=cy (256*V) (show k<=4 by omega);omega};have r:∀i c,cK (jX A N D) (2050*V) (nH g x i c):=λi c=>by{refine Ds (P:=cK (jX A N D) (2050*V)) (cK.zero _ _) (λb a j u=>?_) _ i c;have e:∀m,m<=b.2.length->cK (jX A N D) (1025*V) (kv b.1 (di (jO g x) b.2) m):=λm F=>by{unfold kv iu;split;{exact cK.zero _ _};split;{refine((o b a m F).sub ((h.whole b a).up (Bu A N D) (a2 V)).q).up (aQ _) Oz};exact cK.zero _ _};unfold mZ;exact((e (j+1) Oz).sub (e j Oz)).up (aQ _) Oz};rw[ap];have p:∀j,j<k->cK (jX A N D) (2306*V) (di (kj g (λi c=>deliver (g.lay i) (x i) c-nH g x i c)) q.2 j):=λj u=>by{obtain⟨l,h1,h2,h3⟩:=uX h.ok v (show j<q.2.length by omega);rw[sL h1 h2 h3];exact(((h.del s Oz h2).1 _ h3).q.sub (r l.1 l.2)).up (aQ _) Oz};have w:=Lr (D:=jX A N D) (W:=2306*V) k p;have y:k*(2306*V)<=9224*V:=by{have:=cy (2306*V) (show k<=4 by omega);omega};have z:=mR (k:=9224) h.dG.aJ Oy;have B:dd+402+(3+3)<=900000000:=Oz;exact(eE (w.up (aQ _) y) (uF h.dG d.d0) (uG h.dG d.d1) z).mono B
theorem Nn{size:Nat}{es:List bh}{ds:List (Rat×List (Nat×Nat))}(h:rK size es)(hd:xJ es ds){d:Rat×List (Nat×Nat)}(c:d∈ds):∀k,k<=d.2.length->ao (sm k (jV es d.2)) 1000:=λk i=>by obtain⟨_,h4,a,b⟩:=hd.each d c;have h1:=sQ (D:=60) (W:=30) (f:=jV es d.2) k (λj g=>by obtain⟨e,y,h1,h2,_⟩:=b _ (c0 (show j<d.2.length by omega));rw[Bd (ak Oz) h1 h2];exact((h.each _ e h1).each y (aU h2)).1);exact(eE (h1.up (W:=120) (aQ _) Oz).q Oy (d:=1) Oy (v:=1) Oy).mono Oy
theorem PH{es:List bh}{ds:List (Rat×List (Nat×Nat))}{cE cD n nd:Nat}{AE AD:Option c3}(h:pO es ds)(s:es.length=n)(j:ds.length=nd)(w:a8)(m:B<=w.1.size)(p:gb B w AE es)(o:gO B w AD ds):Calls Tryz.prog 18 #[Value.agg #[aL AE n cE,aL AD nd cD],cr ce i,cr ce c] w (vL ds i c w):=by have t:=h.n4;refine TL s j Oz (by have:=h.d4;omega) (λe a=>by have:=(h.dJ e a).len;omega) (λe a=>?_) (λi e a y f=>h.hold i e a y f) (λd hd=>?_) h.nodup w m p o;{intro w' A C z l g u _;have b:=h.dJ e a;have ha:=b.dP;have D:=b.len;obtain⟨i,r⟩:=a0 a;rw[ha];exact Tt b.cash.2.1 ((eE b.cash.q Oy (d:=1) Oy (v:=2) Oy).mono Oy) Oz (λy f=>by have h1:=b.each y f;have h2:=h1.1.2.1;have h3:=h.hold i e r y f;exact⟨⟨h3.2.1,Oz⟩,h1.2.1,Oz,Oj,(eE h1.1.q Oy (d:=1) Oy (v:=1) Oy).mono Oy⟩) w' (u.Ek g)};obtain⟨k,E,x⟩:=h.pY d hd;exact⟨k.2.1,(eE k.q Oy (d:=1) Oy (v:=1) Oy).mono Oy,Oz,x⟩
end EP
namespace Ax
open Go.RowKit cN bX bW cC
theorem Tr(a b:Nat)(w:a8)(ha:a<=1000000)(C:b<=1000000)(B:b≠0):Calls Tryz.prog 36 #[cr ce (a:Int),cr ce (b:Int)] w (ig (mk false a b) w):=by have j:=Lib.hid (λw=>TN (a:Int) (b:Int) w ⟨Oz,Oz⟩ ⟨Oz,Oz⟩);have n:mg (decide ((a:Int)<0)!=decide ((b:Int)<0)) (a:Int).natAbs (b:Int).natAbs=(mk false a b,true):=by{rw[Uw Oz,Uw Oz];unfold mg;rw[Uz Oz];rfl};rw[n]at j;unfold tg at j;unfold ig;generalize mk false a b=q at*;simp only[jt]at j;rw[jt];obtain⟨u,r,o,g,i⟩:=bU w (a5 false) (aD ⟨#[]⟩) (aD ⟨#[]⟩);have k:=ae g;clear n g;go_enter Tryz.func36,Tryz.ntmps36;go_wp2_with fail;refine(j.o _).mono ?_;rintro e t ⟨rfl,c⟩;obtain⟨v,s,p,h,m⟩:=bU t (a5 (af q)) (aD (bs (nm q))) (aD (ag q));have d:=c.trans (h.mono c.size);have f:=ae (o.o.keep d i);have l:=ae (k.o.trans (d.mono (Nat.le_of_lt i)));obtain⟨D,m1,E,_⟩:=p.o;obtain⟨x,c1,c2,y,z,A⟩:=f.o;clear d c h m;go_wp2_with fail;refine bodyPost_ret (gK rfl _ rfl (f.o.bT _ _ _)) rfl ?_;exact⟨rfl,cS l.o (a2 _) _ _ _⟩
end Ax
