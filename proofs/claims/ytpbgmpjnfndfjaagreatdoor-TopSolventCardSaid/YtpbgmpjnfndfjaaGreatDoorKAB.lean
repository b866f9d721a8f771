/- Lemmas that TopSolvent leans on, without conditions: TPO TpG TpH. -/
import Derived.Test.YtpbgmpjnfndfjaaGreatDoorKAA
set_option linter.all false
namespace Go.Proofs.YtpbgmpjnfndfjaaGreatDoor
open List renaming mem_cons_of_mem->ad,mem_cons_self->ak,map_cons->az,getD_eq_getElem?_getD->aB,range->aD,mem_map->aE,zipWith->aF,map_nil->aG,mem_cons->aH,getElem?_cons_succ->aP,zipWith_cons_cons->aQ,length_cons->aS,take_succ_cons->aT,mem_of_getElem?->aU,map_append->a0,getElem?_eq_some_iff->a3,drop_eq_getElem_cons->a4,getElem?_eq_getElem->a5,zipWith_nil_left->a6,mem_singleton->a7,getElem?_map->a8,flatten_cons->a9,any_eq_true->bf,nodup_cons->bj,mem_append->bk,take_zero->bn
open Rat renaming le_refl->aL
open Bool renaming true->a2
open bQ cO dy il
variable{rest x:Nat->Rat}{i k n:Nat}{m:Rat}{l:Nat×Nat}
namespace dZ
open bR iU
structure lD where
 holder:Int
 iw:Nat
 eM:Rat
structure iy where
 claim:Int
 nw:Bool
 cap:Rat
structure qB where
 cash:Rat
 ei:List lD
 dP:List (List (List iy))
def iX(r:Nat):Nat->List lD->List Part|_,[]=>[]|i,c::cs=>if c.iw=r then((i:Int),c.eM)::iX r (i+1) cs else iX r (i+1) cs
def ie(cs:List lD):List (List Part):=(aD 8).map (λr=>iX r 0 cs)
def jr(cs:List lD)(i:Nat):Rat:=match cs[i]?with|some c=>c.eM|none=>0
def uU(a:List (List iy))(i:Nat):Bool:=a.any (λt=>t.any (λp=>decide (p.claim=(i:Int))))
def qh(n:Nat)(a:List (List iy)):List Nat:=(aD n).filter (uU a)
def room(rest:Nat->Rat)(p:iy):Rat:=if p.claim= -1 then p.cap else if p.nw then(if rest p.claim.toNat<p.cap then rest p.claim.toNat else p.cap)else rest p.claim.toNat
def after(rest:Nat->Rat)(p:iy):Nat->Rat:=if p.claim= -1 then rest elseλi=>if i=p.claim.toNat then rest i-room rest p else rest i
def lA:(Nat->Rat)->List iy->List Part×(Nat->Rat)|rest,[]=>([],rest)|rest,p::ps=>((p.claim,room rest p)::(lA (after rest p) ps).1,(lA (after rest p) ps).2)
def lQ:(Nat->Rat)->List (List iy)->List (List Part)×(Nat->Rat)|rest,[]=>([],rest)|rest,t::ts=>((lA rest t).1::(lQ (lA rest t).2 ts).1,(lQ (lA rest t).2 ts).2)
def Cn(cs:List lD)(a:List (List iy)):List (List Part):=(lQ (jr cs) a).1++[(qh cs.length a).map (λ(i:Nat)=>((i:Int),(lQ (jr cs) a).2 i))]
def fJ(e:qB):Lay:=⟨e.ei.length,ie e.ei,e.dP.map (λa=>(qh e.ei.length a,Cn e.ei a))⟩
structure vJ (e:qB):Prop where
 cash:0<=e.cash
 eM:∀c∈e.ei,0<=c.eM
 iw:∀c∈e.ei,c.iw<8
 part:∀a∈e.dP,∀t∈a,∀p∈t,(p.claim= -1/\p.nw=a2)\/(0<=p.claim/\p.claim<e.ei.length)
 cap:∀a∈e.dP,∀t∈a,∀p∈t,p.nw=a2->0<=p.cap
 once:e.dP.Pairwise (λa b=>∀i,i<e.ei.length->uU a i=a2->uU b i=false)
theorem tU(r:Nat):∀(cs:List lD) (i:Nat),∀p∈iX r i cs,(i:Int)<=p.1/\p.1<i+cs.length/\∃c∈cs,p.2=c.eM|[],_,p,hp=>by simp[iX]at hp|c::cs,i,p,hp=>by simp only[iX]at hp;split at hp;{rcases aH.1 hp with rfl|hp;{simp only[aS];exact⟨Int.le_refl _,Oz,c,ak ..,rfl⟩};obtain⟨h1,h2,d,hd,h3⟩:=tU r cs (i+1) p hp;simp only[aS];exact⟨Oz,Oz,d,ad _ hd,h3⟩};obtain⟨h1,h2,d,hd,h3⟩:=tU r cs (i+1) p hp;simp only[aS];exact⟨Oz,Oz,d,ad _ hd,h3⟩
theorem Km (r:Nat):∀(cs:List lD) (i k:Nat),got ((i+k:Nat):Int) (iX r i cs)=match cs[k]?with
    |some c=>if c.iw=r then c.eM else 0
    |none=>0
  |[],_,_=>by simp[iX,qX]
  |c::cs,i,0=>by
    simp only[iX,List.getElem?_cons_zero,Nat.add_zero]
    have b:got (i:Int) (iX r (i+1) cs)=0:=wA _ _ (λp d=>by have:=(tU r cs (i+1) p d).1;omega)
    split
    · rw[pn,Uy rfl,b];grind
    · exact b
  |c::cs,i,k+1=>by
    have a:=Km r cs (i+1) k
    rw[show i+1+k=i+(k+1) by omega]at a
    simp only[iX,aP]
    split
    · rw[pn,Uz (by show¬(i:Int)=((i+(k+1):Nat):Int);omega),a];grind
    · exact a
theorem zU(f:Nat->Rat):∀n,aA ((aD n).map f)=sm n f|0=>rfl|n+1=>by rw[List.range_succ,a0,ud,zU f n];simp only[az,aG,aA,sm];grind
theorem Gx(c:Int):∀(L:List (List Part)),got c L.flatten=aA (L.map (got c))|[]=>rfl|t::L=>by rw[a9,yF,Gx c L];rfl
theorem Kn{cs:List lD}(a:∀c∈cs,c.iw<8)(k:Nat):got (k:Int) (ie cs).flatten=jr cs k:=by rw[Gx];unfold ie;rw[List.map_map,zU];have:∀r,(got (k:Int)∘λr=>iX r 0 cs) r=match cs[k]?with|some c=>if c.iw=r then c.eM else 0|none=>0:=λr=>by{have:=Km r cs 0 k;rw[Nat.zero_add]at this;exact this};rw[dv 8 (λr _=>this r)];unfold jr;cases h:cs[k]?with|none=>exact jf 8|some c=>exact nJ 8 c.iw c.eM (a c (aU h))
theorem Tk{cs:List lD}(ha:∀c∈cs,0<=c.eM):Pos (ie cs):=by intro t b p a;obtain⟨r,_,rfl⟩:=aE.1 b;obtain⟨_,_,c,hc,e⟩:=tU r cs 0 p a;rw[e];exact ha c hc
theorem KQ{p:iy}(a:∀i,0<=rest i)(hc:p.nw=a2->0<=p.cap)(h1:p.claim= -1->p.nw=a2):0<=room rest p:=by have:=a p.claim.toNat;unfold room;split;{exact hc (h1 ‹_›)};split;{have:=hc ‹_›;split<;>grind};exact this
theorem room_le{p:iy}(h:p.claim≠-1):room rest p<=rest p.claim.toNat:=by unfold room;rw[Uz h];split;{split<;>grind};exact aL
theorem EW{p:iy}(a:∀i,0<=rest i):∀i,0<=after rest p i:=by intro i;unfold after;split;{exact a i};rename_i h;show 0<=(if i=p.claim.toNat then rest i-room rest p else rest i);split;{rename_i e;have:=room_le (rest:=rest) h;rw[e];grind};exact a i
theorem Ma:∀(t:List iy) (rest:Nat->Rat),∀q∈(lA rest t).1,∃p∈t,q.1=p.claim|[],_,q,a=>by simp[lA]at a|p::ps,rest,q,a=>by simp only[lA]at a;rcases aH.1 a with rfl|a;{exact⟨p,ak ..,rfl⟩};obtain⟨c,b,e⟩:=Ma ps _ q a;exact⟨c,ad _ b,e⟩
theorem Ej:∀(t:List iy) (rest:Nat->Rat),(∀i,0<=rest i)->(∀p∈t,p.nw=a2->0<=p.cap)->(∀p∈t,p.claim= -1->p.nw=a2)->(∀q∈(lA rest t).1,0<=q.2)/\∀i,0<=(lA rest t).2 i|[],rest,b,_,_=>⟨λq a=>by simp[lA]at a,b⟩|p::ps,rest,b,h1,h2=>by obtain⟨c,d⟩:=Ej ps (after rest p) (EW b) (λq a=>h1 q (ad _ a)) (λq a=>h2 q (ad _ a));refine⟨λq a=>?_,d⟩;simp only[lA]at a;rcases aH.1 a with rfl|a;{exact KQ b (h1 p (ak ..)) (h2 p (ak ..))};exact c q a
theorem Ml(f:Nat->Rat)(k:Nat)(v:Rat):∀(l:List Nat),l.Nodup->k∈l->total (λi=>if i=k then f i-v else f i) l=total f l-v|[],_,h=>by{cases h}|i::l,hn,h=>by have a:=(bj.1 hn).1;simp only[total];by_cases e:i=k;{subst e;rw[Uy rfl,sR (g:=λj=>if j=i then f j-v else f j) (h:=f) l (λj c=>Uz (λb=>a (by rw[<-b];exact c)))];grind};rcases aH.1 h with rfl|h;{exact Uj rfl e};rw[Uz e,Ml f k v l (bj.1 hn).2 h];grind
theorem Mc(l:List Nat)(b:l.Nodup):∀(t:List iy) (rest:Nat->Rat),(∀i,0<=rest i)->(∀p∈t,p.nw=a2->0<=p.cap)->(∀p∈t,p.claim= -1->p.nw=a2)->(∀p∈t,p.claim≠-1->p.claim.toNat∈l)->total rest l<=aW (lA rest t).1+total (lA rest t).2 l|[],rest,_,_,_,_=>by{simp only[lA,aW,aG,aA];grind}|p::ps,rest,c,h1,h2,h3=>by have d:=Mc l b ps (after rest p) (EW c) (λq a=>h1 q (ad _ a)) (λq a=>h2 q (ad _ a)) (λq a=>h3 q (ad _ a));have f:=KQ c (h1 p (ak ..)) (h2 p (ak ..));simp only[lA];rw[rD];by_cases e:p.claim= -1;{have:after rest p=rest:=by{unfold after;rw[Uy e]};rw[this]at d|-;grind};have h4:=h3 p (ak ..) e;have:total (after rest p) l=total rest l-room rest p:=by{unfold after;rw[Uz e];exact Ml rest _ _ l b h4};rw[this]at d;grind
theorem Md:∀(a:List (List iy)) (rest:Nat->Rat),∀u∈(lQ rest a).1,∀q∈u,∃t∈a,∃p∈t,q.1=p.claim|[],_,u,hu=>by simp[lQ]at hu|t::a,rest,u,hu=>by intro q d;simp only[lQ]at hu;rcases aH.1 hu with rfl|hu;{obtain⟨p,b,e⟩:=Ma t rest q d;exact⟨t,ak ..,p,b,e⟩};obtain⟨f,c,p,b,e⟩:=Md a _ u hu q d;exact⟨f,ad _ c,p,b,e⟩
theorem Me:∀(b:List (List iy)) (rest:Nat->Rat),(∀i,0<=rest i)->(∀t∈b,∀p∈t,p.nw=a2->0<=p.cap)->(∀t∈b,∀p∈t,p.claim= -1->p.nw=a2)->(∀u∈(lQ rest b).1,∀q∈u,0<=q.2)/\∀i,0<=(lQ rest b).2 i|[],rest,d,_,_=>⟨λu a=>by simp[lQ]at a,d⟩|t::b,rest,d,h1,h2=>by obtain⟨e,f⟩:=Ej t rest d (h1 t (ak ..)) (h2 t (ak ..));obtain⟨g,h⟩:=Me b (lA rest t).2 f (λq c=>h1 q (ad _ c)) (λq c=>h2 q (ad _ c));refine⟨λu a=>?_,h⟩;simp only[lQ]at a;rcases aH.1 a with rfl|a;{exact e};exact g u a
theorem Mf(l:List Nat)(c:l.Nodup):∀(a:List (List iy)) (rest:Nat->Rat),(∀i,0<=rest i)->(∀t∈a,∀p∈t,p.nw=a2->0<=p.cap)->(∀t∈a,∀p∈t,p.claim= -1->p.nw=a2)->(∀t∈a,∀p∈t,p.claim≠-1->p.claim.toNat∈l)->total rest l<=aA (sums (lQ rest a).1)+total (lQ rest a).2 l|[],rest,_,_,_,_=>by{simp only[lQ,sums,aG,aA];grind}|t::a,rest,d,h1,h2,h3=>by obtain⟨h,f⟩:=Ej t rest d (h1 t (ak ..)) (h2 t (ak ..));have j:=Mc l c t rest d (h1 t (ak ..)) (h2 t (ak ..)) (h3 t (ak ..));have g:=Mf l c a (lA rest t).2 f (λq b=>h1 q (ad _ b)) (λq b=>h2 q (ad _ b)) (λq b=>h3 q (ad _ b));simp only[lQ,sums,az,aA];have e:aA (sums (lQ (lA rest t).2 a).1)=aA (List.map aW (lQ (lA rest t).2 a).1):=rfl;grind
theorem II(n:Nat)(a:List (List iy)):(qh n a).Nodup:=List.nodup_range.filter _
theorem wM{a:List (List iy)}:i∈qh n a↔i<n/\uU a i=a2:=by unfold qh;rw[List.mem_filter,List.mem_range]
theorem Ql{a:List (List iy)}{t:List iy}{p:iy}(c:t∈a)(b:p∈t)(e:p.claim=(i:Int)):uU a i=a2:=by unfold uU;rw[bf];exact⟨t,c,by rw[bf];exact⟨p,b,Ux e⟩⟩
theorem Ns{cs:List lD}(ha:∀c∈cs,0<=c.eM)(i:Nat):0<=jr cs i:=by unfold jr;cases h:cs[i]?with|none=>exact aL|some c=>exact ha c (aU h)
theorem Mt(f:Nat->Rat):∀(l:List Nat),aW (l.map (λ(i:Nat)=>((i:Int),f i)))=total f l|[]=>rfl|i::l=>by rw[az,rD,Mt f l];rfl
theorem Vg(a b:List (List Part)):sums (a++b)=sums a++sums b:=by unfold sums;rw[a0]
theorem Cq{e:qB}(h:vJ e):kE (fJ e):=by
 have hc:∀a∈e.dP,∀t∈a,∀p∈t,p.claim= -1->p.nw=a2:=λa ha t c p d q=>by{rcases h.part a ha t c p d with h1|h1;{exact h1.2};omega};have u:∀a∈e.dP,∀t∈a,∀p∈t,p.claim≠-1->p.claim.toNat∈qh e.ei.length a:=λa ha t c p d q=>by{rcases h.part a ha t c p d with h1|h1;{exact Uj h1.1 q};exact wM.2 ⟨Oz,Ql c d Oz⟩};have j:=Ns h.eM;refine{pos:=Tk h.eM,ppos:=?_,rin:=?_,pin:=?_,nodup:=?_,mem:=?_,disj:=?_,cover:=?_};{intro P f;obtain⟨a,ha,rfl⟩:=aE.1 f;obtain⟨v,w⟩:=Me a (jr e.ei) j (h.cap a ha) (hc a ha);intro t c p d;show 0<=p.2;rcases bk.1 c with c|c;{exact v t c p d};rw[a7.1 c]at d;obtain⟨i,_,rfl⟩:=aE.1 d;exact w i};{intro t c p d;obtain⟨r,_,rfl⟩:=aE.1 c;obtain⟨h1,h2,_⟩:=tU r e.ei 0 p d;show 0<=p.1/\p.1<(e.ei.length:Int);omega};{intro P f;obtain⟨a,ha,rfl⟩:=aE.1 f;intro t c p d;show p.1= -1\/(0<=p.1/\p.1<(e.ei.length:Int));rcases bk.1 c with c|c;{obtain⟨y,n,x,m,o⟩:=Md a _ t c p d;rcases h.part a ha y n x m with h1|h1;{exact .inl (by rw[o];exact h1.1)};exact .inr (by rw[o];exact h1)};rw[a7.1 c]at d;obtain⟨i,g,rfl⟩:=aE.1 d;have:=(wM.1 g).1;exact .inr ⟨by show(0:Int)<=(i:Int);omega,by show(i:Int)<_;omega⟩};{intro P f;obtain⟨a,ha,rfl⟩:=aE.1 f;exact II _ _};{intro P f i g;obtain⟨a,ha,rfl⟩:=aE.1 f;exact(wM.1 g).1};{show(e.dP.map _).Pairwise _;rw[List.pairwise_map];refine h.once.imp (λ{a b} k i g l=>?_);obtain⟨h1,h2⟩:=wM.1 g;have:=k i h1 h2;rw[(wM.1 l).2]at this;cases this}
 intro P f;obtain⟨a,ha,rfl⟩:=aE.1 f;show total (λi=>got (i:Int) (ie e.ei).flatten) (qh e.ei.length a)<=aA (sums (Cn e.ei a));rw[sR (h:=jr e.ei) _ (λi _=>Kn h.iw i)];have:=Mf (qh e.ei.length a) (II _ _) a (jr e.ei) j (h.cap a ha) (hc a ha) (u a ha);unfold Cn;rw[Vg,ud];have s:aA (sums [(qh e.ei.length a).map (λ(i:Nat)=>((i:Int),(lQ (jr e.ei) a).2 i))])=total (lQ (jr e.ei) a).2 (qh e.ei.length a):=by{simp only[sums,az,aG,aA,Mt];grind};rw[s];exact this
end dZ
namespace ff
open bR iU dZ
def lh(s:List Rat×Rat)(c:Int)(q:Rat):List Rat×Rat:=if c= -1 then(s.1,s.2+q)else(s.1.set c.toNat (s.1.getD c.toNat 0+q),s.2)
def dV(s:List Rat×Rat)(l:List Part):List Rat×Rat:=l.foldl (λs p=>lh s p.1 p.2) s
def In(n:Nat)(l:List Part):Prop:=∀p∈l,p.1= -1\/(0<=p.1/\p.1<(n:Int))
theorem EV(s:List Rat×Rat)(c:Int)(q:Rat):(lh s c q).1.length=s.1.length:=by unfold lh;split;{rfl};simp
theorem ET(s:List Rat×Rat):dV s []=s:=rfl
theorem A8(s:List Rat×Rat)(p:Part)(l:List Part):dV s (p::l)=dV (lh s p.1 p.2) l:=rfl
theorem A1(s:List Rat×Rat)(a b:List Part):dV s (a++b)=dV (dV s a) b:=by unfold dV;rw[List.foldl_append]
theorem EU(s:List Rat×Rat)(l:List Part)(p:Part):dV s (l++[p])=lh (dV s l) p.1 p.2:=by rw[A1];rfl
theorem lg(l:List Part):∀(s:List Rat×Rat),(dV s l).1.length=s.1.length:=by induction l with|nil=>{intro s;rfl}|cons p l ih=>intro s;rw[A8,ih,EV]
theorem M9(s:List Rat×Rat)(c:Int)(q:Rat)(hc:c= -1\/0<=c)(k:Nat)(a:k<s.1.length):(lh s c q).1.getD k 0=s.1.getD k 0+if c=(k:Int)then q else 0:=by unfold lh;by_cases h:c= -1;{rw[Uy h,Uz Oz];grind};rw[Uz h];obtain⟨i,rfl⟩:=Int.eq_ofNat_of_zero_le (show 0<=c by omega);simp only[Int.toNat_natCast];by_cases e:i=k;{subst e;rw[Uy rfl];simp[aB,a]};rw[Uz Oz];simp[aB,e];grind
theorem Nb(s:List Rat×Rat)(c:Int)(q:Rat):(lh s c q).2=s.2+if c= -1 then q else 0:=by unfold lh;split;{rfl};show s.2=s.2+0;grind
theorem xZ(l:List Part)(b:In n l):∀(s:List Rat×Rat),s.1.length=n->∀k,k<n->(dV s l).1.getD k 0=s.1.getD k 0+got k l:=by induction l with|nil=>{intro s hs k a;rw[ET,qX];grind}|cons p l ih=>intro s hs k a;have d:=b p (ak ..);rw[A8,ih (λq c=>b q (ad _ c)) _ (by rw[EV,hs]) k a,M9 s p.1 p.2 Oz k Oz,pn];grind
theorem x5(l:List Part):∀(s:List Rat×Rat),(dV s l).2=s.2+got (-1) l:=by induction l with|nil=>{intro s;rw[ET,qX];grind}|cons p l ih=>intro s;rw[A8,ih,Nb,pn];grind
def zeros(n:Nat):List Rat:=List.replicate n 0
theorem MS(n k:Nat):(zeros n).getD k 0=0:=by unfold zeros;rw[aB,List.getElem?_replicate];split<;>rfl
theorem wj{a b:List Rat}(h:a.length=b.length)(e:∀k,k<a.length->a.getD k 0=b.getD k 0):a=b:=by refine List.ext_getElem h (λk h1 h2=>?_);have:=e k h1;rwa[aB,aB,a5 h1,a5 h2]at this
theorem pC(n:Nat)(f:Nat->Rat)(k:Nat)(a:k<n):((aD n).map f).getD k 0=f k:=by rw[aB,a8,List.getElem?_range a];rfl
theorem JR{L:List (List Part)}(h:∀t∈L,In n t)(m:Rat):In n (dI L m):=tR (Q:=λc=>c= -1\/(0<=c/\c<(n:Int))) L m h
theorem DT{n:Nat}:∀{L:List (List Part)},(∀t∈L,In n t)->∀(m r:Rat),In n (eL L m r)|[],_,_,_=>λp a=>by simp[eL]at a|t::L,h,m,r=>by intro p a;simp only[eL]at a;split at a;{obtain⟨q,b,rfl⟩:=aE.1 a;exact h t (ak ..) q b};exact DT (λu c=>h u (ad _ c)) _ _ p a
theorem Ko{L:Lay}(h:kE L):∀t∈L.bg,In L.cnt t:=λt b p a=>.inr (h.rin t b p a)
theorem JV{L:Lay}(h:kE L){P:List Nat×List (List Part)}(a:P∈L.bx):∀t∈P.2,In L.cnt t:=λt c p b=>h.pin P a t c p b
theorem GD{L:Lay}(h:kE L)(m:Rat):dV (zeros L.cnt,0) (dI L.bg m)=((aD L.cnt).map (dK L m),0):=by have d:=JR (Ko h) m;refine Prod.ext (wj (by rw[lg];simp[zeros]) (λk b=>?_)) ?_;{have a:k<L.cnt:=by{rw[lg]at b;simpa[zeros]using b};rw[xZ _ d _ (by simp[zeros]) k a,MS,pC _ _ k a];unfold dK;grind};rw[x5,wA (-1) _ (tR (Q:=λc=>c≠-1) L.bg m (λt f p e=>by have:=h.rin t f p e;omega))];show(0:Rat)+0=0;grind
theorem Tp{L:Lay}(h:kE L)(m:Rat):dV (zeros L.cnt,0) (eL L.bg m 1)=((aD L.cnt).map (rate L m),0):=by have e:=DT (Ko h) m 1;refine Prod.ext (wj (by rw[lg];simp[zeros]) (λk d=>?_)) ?_;{have b:k<L.cnt:=by{rw[lg]at d;simpa[zeros]using d};rw[xZ _ e _ (by simp[zeros]) k b,MS,pC _ _ k b];unfold rate;grind};have f:∀(X:List (List Part)),(∀t∈X,∀p∈t,p.1≠-1)->∀m r,∀p∈eL X m r,p.1≠-1:=by{intro X;induction X with|nil=>{intro _ m r p a;simp[eL]at a}|cons t X ih=>intro c m r p a;simp only[eL]at a;split at a;{obtain⟨q,g,rfl⟩:=aE.1 a;exact c t (ak ..) q g};exact ih (λu j=>c u (ad _ j)) _ _ p a};rw[x5,wA (-1) _ (f L.bg (λt i p a=>by have:=h.rin t i p a;omega) m 1)];show(0:Rat)+0=0;grind
def taken(L:Lay)(v:List Rat):List Rat:=(aD v.length).map (λc=>if tF L c then 0 else v.getD c 0)
def qo(x:Rat)(L:Lay):List (List Nat×List (List Part))->List Rat×Rat->List Rat×Rat|[],s=>s|p::ps,s=>qo x L ps (dV s (dI p.2 (total (dK L x) p.1)))
def qp(x:Rat)(L:Lay):List (List Nat×List (List Part))->List Rat×Rat->List Rat×Rat|[],s=>s|p::ps,s=>qp x L ps (dV s (eL p.2 (total (dK L x) p.1) (total (rate L x) p.1)))
theorem JW{L:Lay}(h:kE L)(x:Rat):∀(ps:List (List Nat×List (List Part))),(∀p∈ps,p∈L.bx)->∀(s:List Rat×Rat),s.1.length=L.cnt->(qo x L ps s).1.length=L.cnt/\(∀k,k<L.cnt->(qo x L ps s).1.getD k 0=s.1.getD k 0+jb x L k ps)/\(qo x L ps s).2=s.2+jb x L (-1) ps|[],_,s,hs=>⟨hs,λk _=>by simp only[qo,jb];grind,by simp only[qo,jb];grind⟩|p::ps,hp,s,hs=>by have b:=JR (JV h (hp p (ak ..))) (total (dK L x) p.1);obtain⟨h1,h2,h3⟩:=JW h x ps (λq c=>hp q (ad _ c)) (dV s (dI p.2 (total (dK L x) p.1))) (by rw[lg,hs]);simp only[qo,jb];refine⟨h1,λk a=>?_,?_⟩;{rw[h2 k a,xZ _ b s hs k a];grind};rw[h3,x5];grind
theorem JZ{L:Lay}(h:kE L)(x:Rat):∀(ps:List (List Nat×List (List Part))),(∀p∈ps,p∈L.bx)->∀(s:List Rat×Rat),s.1.length=L.cnt->(qp x L ps s).1.length=L.cnt/\(∀k,k<L.cnt->(qp x L ps s).1.getD k 0=s.1.getD k 0+nI x L k ps)/\(qp x L ps s).2=s.2+nI x L (-1) ps|[],_,s,hs=>⟨hs,λk _=>by simp only[qp,nI];grind,by simp only[qp,nI];grind⟩|p::ps,hp,s,hs=>by have b:=DT (JV h (hp p (ak ..))) (total (dK L x) p.1) (total (rate L x) p.1);obtain⟨h1,h2,h3⟩:=JZ h x ps (λq c=>hp q (ad _ c)) (dV s (eL p.2 (total (dK L x) p.1) (total (rate L x) p.1))) (by rw[lg,hs]);simp only[qp,nI];refine⟨h1,λk a=>?_,?_⟩;{rw[h2 k a,xZ _ b s hs k a];grind};rw[h3,x5];grind
theorem O1{L:Lay}(h:kE L)(x:Rat):qo x L L.bx (taken L ((aD L.cnt).map (dK L x)),0)=((aD L.cnt).map (deliver L x),reserved L x):=by have b:(taken L ((aD L.cnt).map (dK L x))).length=L.cnt:=by{simp[taken]};obtain⟨h1,h2,h3⟩:=JW h x L.bx (λ_ h=>h) (taken L ((aD L.cnt).map (dK L x)),0) b;refine Prod.ext (wj (by rw[h1];simp) (λk a=>?_)) ?_;{rw[h1]at a;rw[h2 k a,pC _ _ k a];unfold taken;rw[pC _ _ k (by simpa using a),pC _ _ k a];rfl};rw[h3];show(0:Rat)+jb x L (-1) L.bx=reserved L x;unfold reserved;grind
theorem UH{L:Lay}(h:kE L)(x:Rat):qp x L L.bx (taken L ((aD L.cnt).map (rate L x)),0)=((aD L.cnt).map (ev L x),n8 L x):=by have b:(taken L ((aD L.cnt).map (rate L x))).length=L.cnt:=by{simp[taken]};obtain⟨h1,h2,h3⟩:=JZ h x L.bx (λ_ h=>h) (taken L ((aD L.cnt).map (rate L x)),0) b;refine Prod.ext (wj (by rw[h1];simp) (λk a=>?_)) ?_;{rw[h1]at a;rw[h2 k a,pC _ _ k a];unfold taken;rw[pC _ _ k (by simpa using a),pC _ _ k a];rfl};rw[h3];show(0:Rat)+nI x L (-1) L.bx=n8 L x;unfold n8;grind
end ff
namespace jq
open bR iU dZ ff
def ly(t:List Part)(q:Rat):List Part:=t.map (λp=>(p.1,p.2*q))
theorem De:∀(L:List (List Part)) (m:Rat),dI L m=(L.take (split (sums L) m).1).flatten++(match L[(split (sums L) m).1]?with|some t=>ly t ((split (sums L) m).2/aW t)|none=>[])|[],m=>rfl|t::L,m=>by have a:=De L (m-aW t);simp only[dI,sums,az,split];by_cases h:m<aW t;{simp only[Uy h];rfl};simp only[Uz h,aT,a9,aP,List.append_assoc];rw[a];rfl
theorem Lm(r:Rat):∀(L:List (List Part)) (m:Rat),eL L m r=(match L[(split (sums L) m).1]?with|some t=>ly t (r/aW t)|none=>[])|[],m=>rfl|t::L,m=>by have a:=Lm r L (m-aW t);simp only[eL,sums,az,split];by_cases h:m<aW t;{simp only[Uy h];rfl};simp only[Uz h,aP];rw[a];rfl
theorem Gp:∀(L:List (List Part)) (m:Rat),gap (sums L) m=(match L[(split (sums L) m).1]?with|some t=>some (aW t-(split (sums L) m).2)|none=>none)|[],m=>rfl|t::L,m=>by have a:=Gp L (m-aW t);simp only[sums,az,split,gap]at a|-;by_cases h:m<aW t;{simp only[Uy h];rfl};simp only[Uz h,aP];rw[a]
theorem zJ:∀(L:List (List Part)) (m:Rat) (k:Nat),k<=(split (sums L) m).1->split (sums L) m=(k+(split (sums (L.drop k)) (m-aA (sums (L.take k)))).1,(split (sums (L.drop k)) (m-aA (sums (L.take k)))).2)|L,m,0,_=>by{simp only[List.drop_zero,bn,sums,aG,aA];rw[show m-0=m by grind,Nat.zero_add]}|[],m,k+1,h=>by simp[sums,split]at h|t::L,m,k+1,h=>by simp only[sums,az,split]at h|-;by_cases a:m<aW t;{rw[Uy a]at h;simp at h};rw[Uz a]at h;have b:=zJ L (m-aW t) k (by simp only[sums];omega);simp only[sums]at b;rw[Uz a];simp only[List.drop_succ_cons,aT,az,aA];rw[b,show m-(aW t+aA ((L.take k).map aW))=m-aW t-aA ((L.take k).map aW) by grind];simp only;congr 1;omega
theorem Vh{L:List (List Part)}{t:List Part}(h:L[k]?=some t):aA (sums (L.take (k+1)))=aA (sums (L.take k))+aW t:=by rw[List.take_add_one,h];unfold sums;rw[a0,ud];simp only[Option.toList_some,az,aG,aA];grind
theorem U3{L:List (List Part)}{t:List Part}(c:L[k]?=some t)(b:k<=(split (sums L) m).1)(a:m-aA (sums (L.take k))<aW t):split (sums L) m=(k,m-aA (sums (L.take k))):=by rw[zJ L m k b];obtain⟨h1,rfl⟩:=a3.1 c;rw[a4 h1];simp only[sums,az,split];simp only[sums]at a;rw[Uy a];rfl
theorem U2{L:List (List Part)}{t:List Part}(c:L[k]?=some t)(b:k<=(split (sums L) m).1)(a:¬m-aA (sums (L.take k))<aW t):k+1<=(split (sums L) m).1:=by rw[zJ L m k b];obtain⟨h1,rfl⟩:=a3.1 c;rw[a4 h1];simp only[sums,az,split];simp only[sums]at a;rw[Uz a];simp only;omega
theorem U1{L:List (List Part)}(a:L.length<=(split (sums L) m).1):split (sums L) m=(L.length,m-aA (sums L)):=by have:=zJ L m L.length a;rw[List.drop_length,List.take_length]at this;rw[this];rfl
end jq
namespace kZ
def over(W T Q:Rat):Rat:=if W<=T then Q else 0
def iu(r:Rat):Rat:=if 0<=r then r else 0
def ng(W:Rat):Rat->Rat->List Rat->List Rat|_,_,[]=>[]|S,b,d::ds=>(iu (S+d-W)-b)::ng W (S+d) (iu (S+d-W)) ds
def jQ(W:Rat)(ds:List Rat):List Rat:=ng W 0 0 ds
def jP(W:Rat):Rat->Rat->Rat->List Rat->List Rat->List Rat|S,R,b,d::ds,r::rs=>((over W (S+d) (R+r))-b)::jP W (S+d) (R+r) (over W (S+d) (R+r)) ds rs|_,_,_,_,_=>[]
def ji(W:Rat)(ds a:List Rat):List Rat:=jP W 0 0 0 ds a
theorem KF(W:Rat):∀(ds:List Rat) (S b:Rat),(ng W S b ds).length=ds.length|[],_,_=>rfl|d::ds,S,b=>by simp only[ng,aS,KF W ds]
theorem Ks(W:Rat):∀(ds a:List Rat) (S R b:Rat),ds.length=a.length->(jP W S R b ds a).length=ds.length|[],[],_,_,_,_=>rfl|[],_::_,_,_,_,h=>by simp at h|_::_,[],_,_,_,h=>by simp at h|d::ds,r::a,S,R,b,h=>by simp only[jP,aS,Ks W ds a _ _ _ (by simpa using h)]
theorem SZ{r s:Rat}(h:r<=s):iu r<=iu s:=by unfold iu;split<;>split<;>grind
theorem KI(W:Rat):∀(ds:List Rat) (S b:Rat),b=iu (S-W)->aA (ng W S b ds)=iu (S+aA ds-W)-b|[],S,b,hb=>by{simp only[ng,aA];rw[hb,show S+0-W=S-W by grind];grind}|d::ds,S,b,hb=>by simp only[ng,aA,KI W ds (S+d) _ rfl];rw[show S+d+aA ds-W=S+(d+aA ds)-W by grind];grind
theorem KH(W:Rat):∀(ds:List Rat) (S:Rat),(∀d∈ds,0<=d)->∀x∈ng W S (iu (S-W)) ds,0<=x|[],_,_,x,hx=>by simp[ng]at hx|d::ds,S,h,x,hx=>by have hd:=h d (ak ..);simp only[ng]at hx;rcases aH.1 hx with rfl|hx;{have:=SZ (show S-W<=S+d-W by grind);grind};exact KH W ds (S+d) (λq a=>h q (ad _ a)) x hx
theorem wD(W:Rat)(ds:List Rat)(a:0<=W):aA ds-aA (jQ W ds)=if aA ds<=W then aA ds else W:=by have h:=KI W ds 0 0 (by unfold iu;split<;>grind);unfold jQ;rw[h];unfold iu;split<;>split<;>grind
theorem KG(W h:Rat)(hh:0<=h):∀(ds a:List Rat) (S R:Rat),0<=R->ds.length=a.length->(∀r∈a,0<=r)->(∀k,k<=ds.length->S+aA (ds.take k)<W->S+aA (ds.take k)+h*(R+aA (a.take k))<=W)->ng W (S+h*R) (iu (S+h*R-W)) (aF (λd r=>d+h*r) ds a)=aF (λx y=>x+h*y) (ng W S (iu (S-W)) ds) (jP W S R (over W (S) (R)) ds a)|[],[],S,R,_,_,_,_=>rfl|[],_::_,_,_,_,hl,_,_=>by simp at hl|_::_,[],_,_,_,hl,_,_=>by simp at hl|d::ds,r::a,S,R,m,hl,j,b=>by have o:=j r (ak ..);have e:=b 0 Oz;have f:=b 1 Ow;simp only[bn,aA,aT]at e f;rw[show S+0=S by grind,show R+0=R by grind]at e;rw[show S+(d+0)=S+d by grind,show R+(r+0)=R+r by grind]at f;have p:=KG W h hh ds a (S+d) (R+r) Oj (by simpa using hl) (λq i=>j q (ad _ i)) (λk n c=>by have:=b (k+1) (by simp;omega);simp only[aT,aA]at this;rw[show S+(d+aA (ds.take k))=S+d+aA (ds.take k) by grind,show R+(r+aA (a.take k))=R+r+aA (a.take k) by grind]at this;exact this c);simp only[aQ,ng,jP];have ap:S+h*R+(d+h*r)=S+d+h*(R+r):=Oj;rw[ap,p];have key:∀T Q:Rat,0<=Q->(T<W->T+h*Q<=W)->iu (T+h*Q-W)=iu (T-W)+h*(over W (T) (Q)):=by{intro T Q l hc;have i:0<=h*Q:=Rat.mul_nonneg hh l;unfold iu over;by_cases g:W<=T;{rw[Uy g,Uy Oj,Uy Oj];grind};have:=hc Oj;rw[Uz g,Uz (by grind:¬0<=T-W)];split<;>grind};rw[key S R m e,key (S+d) (R+r) Oj f];congr 1;grind
theorem TD(W h:Rat)(j:0<=W)(hh:0<=h)(ds a:List Rat)(g:ds.length=a.length)(i:∀r∈a,0<=r)(f:∀k,k<=ds.length->aA (ds.take k)<W->aA (ds.take k)+h*aA (a.take k)<=W):jQ W (aF (λd r=>d+h*r) ds a)=aF (λx y=>x+h*y) (jQ W ds) (ji W ds a):=by have:=KG W h hh ds a 0 0 aL g i (λk c b=>by rw[show(0:Rat)+aA (ds.take k)=aA (ds.take k) by grind]at b|-;rw[show(0:Rat)+aA (a.take k)=aA (a.take k) by grind];exact f k c b);have bL:iu (0-W)=0:=by{unfold iu;split<;>grind};have ap:(0:Rat)+h*0=0:=Oj;have e:over W 0 0=0:=by{unfold over;split<;>rfl};rw[ap,bL,e]at this;exact this
theorem Kr(W:Rat):∀(ds f a:List Rat) (S R Q b c:Rat),ds.length=f.length->ds.length=a.length->jP W S (R+Q) (b+c) ds (aF (·+·) f a)=aF (·+·) (jP W S R b ds f) (jP W S Q c ds a)|[],[],[],_,_,_,_,_,_,_=>rfl|[],_::_,_,_,_,_,_,_,h,_=>by simp at h|[],[],_::_,_,_,_,_,_,_,h=>by simp at h|_::_,[],_,_,_,_,_,_,h,_=>by simp at h|_::_,_::_,[],_,_,_,_,_,_,h=>by simp at h|d::ds,r::f,q::a,S,R,Q,b,c,h1,h2=>by have g:=Kr W ds f a (S+d) (R+r) (Q+q) (over W (S+d) (R+r)) (over W (S+d) (Q+q)) (by simpa using h1) (by simpa using h2);simp only[aQ,jP];rw[show R+Q+(r+q)=R+r+(Q+q) by grind];have e:(over W (S+d) (R+r+(Q+q)))=(over W (S+d) (R+r))+(over W (S+d) (Q+q)):=by{unfold over;split<;>grind};rw[e,g];congr 1;grind
theorem Dz(W h:Rat):∀(ds a:List Rat) (S R b:Rat),jP W S (h*R) (h*b) ds (a.map (h*·))=(jP W S R b ds a).map (h*·)|[],_,_,_,_=>by simp only[jP,aG]|_::_,[],_,_,_=>by simp only[aG,jP]|d::ds,r::a,S,R,b=>by have c:=Dz W h ds a (S+d) (R+r) (over W (S+d) (R+r));simp only[az,jP];rw[show h*R+h*r=h*(R+r) by grind];have e:(over W (S+d) (h*(R+r)))=h*(over W (S+d) (R+r)):=by{unfold over;split<;>grind};rw[e,c];congr 1;grind
theorem Kt(W:Rat):∀(ds a:List Rat) (S R:Rat),0<=R->(∀d∈ds,0<=d)->(∀r∈a,0<=r)->∀x∈jP W S R (over W (S) (R)) ds a,0<=x|[],_,_,_,_,_,_,x,hx=>by simp[jP]at hx|_::_,[],_,_,_,_,_,x,hx=>by simp[jP]at hx|d::ds,r::a,S,R,g,hd,c,x,hx=>by have e:=hd d (ak ..);have f:=c r (ak ..);simp only[jP]at hx;rcases aH.1 hx with rfl|hx;{unfold over;split<;>split<;>grind};exact Kt W ds a (S+d) (R+r) Oj (λq b=>hd q (ad _ b)) (λq b=>c q (ad _ b)) x hx
theorem Ku(W:Rat):∀(ds a:List Rat) (S R b:Rat),ds.length=a.length->b=over W S R->aA (jP W S R b ds a)=over W (S+aA ds) (R+aA a)-b|[],[],S,R,b,_,hb=>by{subst hb;simp only[jP,aA];rw[show S+0=S by grind,show R+0=R by grind];grind}|[],_::_,_,_,_,h,_=>by simp at h|_::_,[],_,_,_,h,_=>by simp at h|d::ds,r::a,S,R,b,h,hb=>by have c:=Ku W ds a (S+d) (R+r) _ (by simpa using h) rfl;simp only[jP,aA];rw[c,show S+(d+aA ds)=S+d+aA ds by grind,show R+(r+aA a)=R+r+aA a by grind];grind
end kZ
namespace iF
open kZ
structure bM where
 n:Nat
 lay:Nat->Lay
 cash:Nat->Rat
 holder:Nat->Nat->Int
 bH:List (Rat×List (Nat×Nat))
def leg(g:bM)(i c:Nat):Bool:=g.bH.any (λd=>d.2.contains (i,c))
def dl(g:bM)(x:Nat->Rat)(l:Nat×Nat):Rat:=deliver (g.lay l.1) (x l.1) l.2
def sl(g:bM)(x:Nat->Rat)(l:Nat×Nat):Rat:=ev (g.lay l.1) (x l.1) l.2
def ds(g:bM)(x:Nat->Rat)(d:Rat×List (Nat×Nat)):List Rat:=d.2.map (dl g x)
def at_(j:Nat):List (Nat×Nat)->List Rat->Rat|l::ls,r::rs=>(if l.1=j then r else 0)+at_ j ls rs|_,_=>0
def kK(g:bM):List (Nat×Nat)->Int|[]=>-1|l::_=>g.holder l.1 l.2
def keep(g:bM)(j:Nat)(ls:List (Nat×Nat))(a r:List Rat):Rat:=at_ j ls r+(if kK g ls=(j:Int)then aA a-aA r else 0)
def qa(g:bM)(x:Nat->Rat)(j:Nat)(d:Rat×List (Nat×Nat)):Rat:=keep g j d.2 (ds g x d) (jQ d.1 (ds g x d))
def dU{α:Type}(f:α->Rat):List α->Rat|[]=>0|d::l=>f d+dU f l
def plain(g:bM)(j i c:Nat):Bool:=decide (g.holder i c=(j:Int))&& !leg g i c
def passed(g:bM)(x:Nat->Rat)(j:Nat):Rat:=sm g.n (λi=>sm (g.lay i).cnt (λc=>if plain g j i c then deliver (g.lay i) (x i) c else 0))+dU (qa g x j) g.bH
def own(g:bM)(x:Nat->Rat)(i:Nat)(ls:List (Nat×Nat)):List Rat:=ls.map (λl=>if l.1=i then sl g x l else 0)
def lO(g:bM)(x:Nat->Rat)(j i:Nat)(d:Rat×List (Nat×Nat)):Rat:=keep g j d.2 (own g x i d.2) (ji d.1 (ds g x d) (own g x i d.2))
def ke(g:bM)(x:Nat->Rat)(j i:Nat):Rat:=sm (g.lay i).cnt (λc=>if plain g j i c then ev (g.lay i) (x i) c else 0)+dU (lO g x j i) g.bH
structure eU (g:bM):Prop where
  lay:∀i,i<g.n->kE (g.lay i)
  whole:∀d∈g.bH,0<=d.1
  legs:∀d∈g.bH,∀l∈d.2,l.1<g.n/\l.2<(g.lay l.1).cnt/\g.holder l.1 l.2=kK g d.2
  nodup:(g.bH.flatMap (·.2)).Nodup
  holder:∀i c,i<g.n->c<(g.lay i).cnt-> -1<=g.holder i c/\g.holder i c<g.n
theorem xp{α:Type}{f h:α->Rat}:∀(l:List α),(∀d∈l,f d=h d)->dU f l=dU h l|[],_=>rfl|d::l,e=>by simp only[dU,e d (ak ..),xp l (λq a=>e q (ad _ a))]
theorem LM{α:Type}{f h:α->Rat}:∀(l:List α),(∀d∈l,f d<=h d)->dU f l<=dU h l|[],_=>aL|d::l,e=>by have h1:=e d (ak ..);have h2:=LM l (λq a=>e q (ad _ a));simp only[dU];grind
theorem LJ{α:Type}(f h:α->Rat):∀(l:List α),dU (λd=>f d+h d) l=dU f l+dU h l|[]=>by{simp only[dU];grind}|d::l=>by simp only[dU,LJ f h l];grind
theorem LO{α:Type}(f h:α->Rat):∀(l:List α),dU (λd=>f d-h d) l=dU f l-dU h l|[]=>by{simp only[dU];grind}|d::l=>by simp only[dU,LO f h l];grind
theorem Eb{α:Type}(k:Rat)(f:α->Rat):∀(l:List α),dU (λd=>k*f d) l=k*dU f l|[]=>by{simp only[dU];grind}|d::l=>by simp only[dU,Eb k f l];grind
theorem zS{α:Type}{f:α->Rat}(l:List α)(h:∀d∈l,0<=f d):0<=dU f l:=by induction l with|nil=>exact aL|cons d l ih=>have h1:=h d (ak ..);have h2:=ih (λq a=>h q (ad _ a));simp only[dU];grind
theorem zT{α:Type}(n:Nat)(f:Nat->α->Rat):∀(l:List α),sm n (λj=>dU (f j) l)=dU (λd=>sm n (λj=>f j d)) l|[]=>by{simp only[dU];exact jf n}|d::l=>by simp only[dU];rw[lz,zT n f l]
theorem E3(j:Nat):∀(ls:List (Nat×Nat)) (a b:List Rat),a.length=b.length->at_ j ls (aF (·+·) a b)=at_ j ls a+at_ j ls b|[],_,_,_=>by{simp only[at_];grind}|l::ls,[],[],_=>by{simp only[a6,at_];grind}|l::ls,[],_::_,h=>by simp at h|l::ls,_::_,[],h=>by simp at h|l::ls,x::a,y::b,h=>by simp only[aQ,at_,E3 j ls a b (by simpa using h)];split<;>grind
theorem E5(j:Nat)(k:Rat):∀(ls:List (Nat×Nat)) (a:List Rat),at_ j ls (a.map (k*·))=k*at_ j ls a|[],_=>by{simp only[at_];grind}|l::ls,[]=>by{simp only[aG,at_];grind}|l::ls,x::a=>by simp only[az,at_,E5 j k ls a];split<;>grind
theorem Ed:∀(a b:List Rat),a.length=b.length->aA (aF (·+·) a b)=aA a+aA b|[],[],_=>by{simp only[a6,aA];grind}|[],_::_,h=>by simp at h|_::_,[],h=>by simp at h|x::a,y::b,h=>by simp only[aQ,aA,Ed a b (by simpa using h)];grind
theorem Ec(k:Rat):∀(a:List Rat),aA (a.map (k*·))=k*aA a|[]=>by{simp only[aG,aA];grind}|x::a=>by simp only[az,aA,Ec k a];grind
theorem E4(n:Nat):∀(ls:List (Nat×Nat)) (a:List Rat),ls.length=a.length->(∀l∈ls,l.1<n)->sm n (λj=>at_ j ls a)=aA a|[],[],_,_=>by{simp only[at_,aA];exact jf n}|[],_::_,h,_=>by simp at h|_::_,[],h,_=>by simp at h|l::ls,x::a,h,hl=>by simp only[at_,aA];rw[lz,E4 n ls a (by simpa using h) (λq b=>hl q (ad _ b)),nJ n l.1 x (hl l (ak ..))]
theorem Hb(g:bM)(j:Nat)(ls:List (Nat×Nat))(a b r s:List Rat)(h1:a.length=b.length)(h2:r.length=s.length):keep g j ls (aF (·+·) a b) (aF (·+·) r s)=keep g j ls a r+keep g j ls b s:=by unfold keep;rw[E3 j ls r s h2,Ed a b h1,Ed r s h2];split<;>grind
theorem Ck(g:bM)(j:Nat)(ls:List (Nat×Nat))(k:Rat)(a r:List Rat):keep g j ls (a.map (k*·)) (r.map (k*·))=k*keep g j ls a r:=by unfold keep;rw[E5,Ec,Ec];split<;>grind
theorem Hc(g:bM)(ls:List (Nat×Nat))(a r:List Rat)(h:ls.length=r.length)(e:∀l∈ls,l.1<g.n)(hh:kK g ls<g.n)(d: -1<=kK g ls):sm g.n (λj=>keep g j ls a r)=aA r+(if 0<=kK g ls then aA a-aA r else 0):=by unfold keep;rw[lz,E4 g.n ls r h e];congr 1;by_cases b:0<=kK g ls;{obtain⟨i,f⟩:=Int.eq_ofNat_of_zero_le b;rw[Uy b];refine Eq.trans (dv g.n (λc _=>?_)) (nJ g.n i (aA a-aA r) Oz);by_cases hc:i=c;{rw[Uy Oz,Uy hc]};rw[Uz Oz,Uz hc]};rw[Uz b,dv (g:=λ_=>0) g.n (λc _=>by rw[Uz Oz]),jf]
theorem nB(g:bM)(x:Nat->Rat)(d:Rat×List (Nat×Nat)):(ds g x d).length=d.2.length:=by simp[ds]
theorem y7(g:bM)(x:Nat->Rat)(i:Nat)(ls:List (Nat×Nat)):(own g x i ls).length=ls.length:=by simp[own]
theorem Pe{g:bM}(b:eU g)(c:∀i,i<g.n->0<=x i)(a:l.1<g.n):0<=dl g x l:=uN (b.lay _ a).toOk (c _ a) _
theorem DR{g:bM}(b:eU g)(c:∀i,i<g.n->0<=x i)(a:l.1<g.n):0<=sl g x l:=DS (b.lay _ a).toOk (c _ a) _
theorem wa{g:bM}(a:eU g)(e:∀i,i<g.n->0<=x i){d:Rat×List (Nat×Nat)}(hd:d∈g.bH):∀q∈ds g x d,0<=q:=by intro q c;obtain⟨l,b,rfl⟩:=aE.1 c;exact Pe a e (a.legs d hd l b).1
theorem Pj{g:bM}(h:eU g){y:Nat->Rat}(j:∀i,i<g.n->0<=x i)(f:∀i,i<g.n->x i<=y i){d:Rat×List (Nat×Nat)}(hd:d∈g.bH)(k:Nat)(u v:Rat)(a:(ds g x d)[k]?=some u)(b:(ds g y d)[k]?=some v):u<=v:=by unfold ds at a b;rw[a8]at a b;cases c:d.2[k]?with|none=>{rw[c]at a;cases a}|some l=>rw[c]at a b;injection a with a;injection b with b;subst a;subst b;have e:=(h.legs d hd l (aU c)).1;exact OZ (h.lay _ e).toOk (j _ e) (f _ e) _
theorem LQ:∀(a b:List Rat),a.length=b.length->(∀(k:Nat) (x y:Rat),a[k]?=some x->b[k]?=some y->x<=y)->aA a<=aA b|[],[],_,_=>aL|[],_::_,h,_=>by simp at h|_::_,[],h,_=>by simp at h|x::a,y::b,h,c=>by have h1:=c 0 x y rfl rfl;have h2:=LQ a b (by simpa using h) (λk u v d e=>c (k+1) u v (by simpa using d) (by simpa using e));simp only[aA];grind
theorem SY{W:Rat}(a:0<=W):iu (0-W)=0:=by unfold iu;split<;>grind
theorem zw(W:Rat)(a:List Rat):(jQ W a).length=a.length:=KF W a 0 0
theorem zu(W:Rat)(a b:List Rat)(h:a.length=b.length):(ji W a b).length=a.length:=Ks W a b 0 0 0 h
theorem y9{g:bM}(b:eU g)(e:∀i,i<g.n->0<=x i)(j:Nat):0<=passed g x j:=by have h1:0<=sm g.n (λi=>sm (g.lay i).cnt (λc=>if plain g j i c then deliver (g.lay i) (x i) c else 0)):=ob g.n (λi h=>ob _ (λc _=>by have:=uN (b.lay i h).toOk (e i h) c;split<;>grind));have h2:0<=dU (qa g x j) g.bH:=zS _ (λd hd=>by have f:=b.whole d hd;have o:=wD d.1 (ds g x d) f;have h4:0<=aA (ds g x d):=by{have:∀(l:List Rat),(∀s∈l,0<=s)->0<=aA l:=by{intro l;induction l with|nil=>{intro _;exact aL}|cons x l ih=>intro k;have h1:=k x (ak ..);have h2:=ih (λs hs=>k s (ad _ hs));simp only[aA];grind};exact this _ (wa b e hd)};have h3:0<=at_ j d.2 (jQ d.1 (ds g x d)):=by{have m:=KH d.1 (ds g x d) 0 (wa b e hd);rw[SY f]at m;have:∀(ls:List (Nat×Nat)) (a:List Rat),(∀q∈a,0<=q)->0<=at_ j ls a:=by{intro ls;induction ls with|nil=>{intro a _;simp only[at_];exact aL}|cons l ls ih=>intro a ha;cases a with|nil=>{simp only[at_];exact aL}|cons q a=>have h1:=ha q (ak ..);have h2:=ih a (λs hs=>ha s (ad _ hs));simp only[at_];split<;>grind};exact this _ _ m};unfold qa keep;split;{rw[o];split<;>grind};grind);unfold passed;grind
end iF
