/- Lemmas that TopSolvent leans on, without conditions: TPA. -/
import Derived.Test.YtpbgmpjnfndfjaaGreatDoorKZ
set_option linter.all false
namespace Go.Proofs.YtpbgmpjnfndfjaaGreatDoor
open List renaming mem_cons_of_mem->ad,mem_cons_self->ak,map_cons->aD,map_nil->aF,getElem?_cons_zero->aH,getElem?_cons_succ->aT,mem_map->aU,pairwise_cons->a5,length_cons->a6,nodup_cons->a7,mem_append->a8,map_append->a9,length_map->bf,mem_range->bj,mem_cons->bk
open Rat renaming mul_nonneg->az,le_of_lt->aB,le_refl->aE,div_mul_cancel->aG,div_def->aL,mul_le_mul_of_nonneg_left->aQ,le_trans->a0,mul_le_mul_of_nonneg_right->a2,one_mul->a3,inv_pos->a4,mul_zero->bn
open Option renaming some->aP,none->bq
open Option.some renaming injEq->aS
variable{f:Nat->Rat}{n:Nat}{M:Nat->Nat->Rat}{g h m x y:Rat}
namespace cO
def sm:Nat->(Nat->Rat)->Rat|0,_=>0|n+1,f=>sm n f+f n
theorem dv{f g:Nat->Rat}:∀(n:Nat),(∀i,i<n->f i=g i)->sm n f=sm n g|0,_=>rfl|n+1,h=>by have h1:=dv n (λi a=>h i Oz);have h2:=h n Oz;simp only[sm,h1,h2]
theorem jf(n:Nat):sm n (λ_=>0)=0:=by induction n with|zero=>rfl|succ n ih=>simp only[sm,ih];grind
theorem lz(f g:Nat->Rat)(n:Nat):sm n (λi=>f i+g i)=sm n f+sm n g:=by induction n with|zero=>{simp only[sm];grind}|succ n ih=>simp only[sm,ih];grind
theorem rv(f g:Nat->Rat)(n:Nat):sm n (λi=>f i-g i)=sm n f-sm n g:=by induction n with|zero=>{simp only[sm];grind}|succ n ih=>simp only[sm,ih];grind
theorem oZ(c:Rat)(f:Nat->Rat)(n:Nat):sm n (λi=>c*f i)=c*sm n f:=by induction n with|zero=>{simp only[sm];grind}|succ n ih=>simp only[sm,ih];grind
theorem zH(c:Rat)(f:Nat->Rat)(n:Nat):sm n (λi=>f i*c)=sm n f*c:=by induction n with|zero=>{simp only[sm];grind}|succ n ih=>simp only[sm,ih];grind
theorem tZ{f g:Nat->Rat}:∀(n:Nat),(∀i,i<n->f i<=g i)->sm n f<=sm n g|0,_=>by{simp only[sm];grind}|n+1,h=>by have h1:=tZ n (λi a=>h i Oz);have h2:=h n Oz;simp only[sm];grind
theorem ob(n:Nat)(h:∀i,i<n->0<=f i):0<=sm n f:=by have:=tZ (f:=λ_=>0) n h;rwa[jf]at this
theorem DW(f:Nat->Nat->Rat)(m n:Nat):sm m (λi=>sm n (λj=>f i j))=sm n (λj=>sm m (λi=>f i j)):=by induction m with|zero=>{simp only[sm];rw[jf]}|succ m ih=>simp only[sm,ih];rw[<-lz]
theorem zG{f g:Nat->Rat}:∀(n:Nat),(∀i,i<n->f i<=g i)->sm n g<=sm n f->∀i,i<n->f i=g i|0,_,_,i,a=>Oz|n+1,h,he,i,a=>by have h1:=tZ n (λi a=>h i Oz);have h2:=h n Oz;simp only[sm]at he;by_cases b:i=n;{subst b;grind};exact zG n (λi a=>h i Oz) Oj i Oz
theorem zI(n:Nat)(h:∀i,i<n->0<=f i)(a:sm n f<=0):∀i,i<n->f i=0:=by intro i b;have:=zG (f:=λ_=>0) n h (by rw[jf];exact a) i b;exact this.symm
theorem UN{i:Nat}(h:∀i,i<n->0<=f i)(c:i<n):f i<=sm n f:=by induction n with|zero=>omega|succ n ih=>simp only[sm];by_cases a:i=n;{subst a;have:=ob i (λk b=>h k Oz);grind};have:=ih (λk b=>h k Oz) Oz;have:=h n Oz;grind
structure o5 (n:Nat) (M:Nat->Nat->Rat):Prop where
 iV:∀j i,j<n->i<n->0<=M j i
 col:∀i,i<n->sm n (λj=>M j i)<=1
structure uB (n:Nat) (M:Nat->Nat->Rat) (S:Nat->Prop):Prop where
 o:∀j i,j<n->i<n->S i->¬S j->M j i=0
 leak:∀i,i<n->S i->sm n (λj=>M j i)=1
def Open(n:Nat)(M:Nat->Nat->Rat):Prop:=∀S:Nat->Prop,uB n M S->∀i,i<n->¬S i
theorem Ld(m:o5 n M){y:Nat->Rat}(l:∀i,i<n->0<=y i)(q:∀j,j<n->y j<=sm n (λi=>M j i*y i)):uB n M (λi=>y i≠0)/\∀j,j<n->y j=sm n (λi=>M j i*y i):=by have e:sm n (λj=>sm n (λi=>M j i*y i))=sm n (λi=>sm n (λj=>M j i)*y i):=by{rw[DW];exact dv n (λi b=>zH (y i) (λj=>M j i) n)};have hc:∀i,i<n->sm n (λj=>M j i)*y i<=y i:=λi b=>by{have h1:=m.col i b;have h2:=l i b;have:=a2 h1 h2;rwa[a3]at this};have h1:sm n y<=sm n (λj=>sm n (λi=>M j i*y i)):=tZ n q;have h2:sm n (λi=>sm n (λj=>M j i)*y i)<=sm n y:=tZ n hc;have o:=zG n q (by rw[e];exact h2);have b:=zG n hc (by rw[<-e];exact h1);refine⟨⟨λj i c a d g=>?_,λi a d=>?_⟩,o⟩;{have s:y j=0:=Classical.not_not.1 g;have hs:=o j c;rw[s]at hs;have:=zI n (f:=λi=>M j i*y i) (λk p=>az (m.iV j k c p) (l k p)) (by rw[<-hs];exact aE) i a;rcases Rat.mul_eq_zero.1 this with h|h;{exact h};exact Uj h d};have:=b i a;have r:y i≠0:=d;grind
theorem CZ(d:o5 n M)(g:Open n M){v c:Nat->Rat}(hc:∀i,i<n->0<=c i)(l:∀j,j<n->v j=sm n (λi=>M j i*v i)+c j):∀j,j<n->0<=v j:=by have h:=Ld d (y:=λi=>if v i<0 then-v i else 0) (λi b=>by show 0<=(if v i<0 then-v i else 0);split<;>grind) (λj a=>by have k:sm n (λi=>M j i*(-(if v i<0 then-v i else 0)))<=sm n (λi=>M j i*v i):=tZ n (λi b=>by have h1:=d.iV j i a b;have h2:(-(if v i<0 then-v i else 0))<=v i:=by{split<;>grind};exact aQ h2 h1);have o:sm n (λi=>M j i*(-(if v i<0 then-v i else 0)))= -sm n (λi=>M j i*(if v i<0 then-v i else 0)):=by{have:=oZ (-1) (λi=>M j i*(if v i<0 then-v i else 0)) n;have f:sm n (λi=>M j i*(-(if v i<0 then-v i else 0)))=sm n (λi=>(-1)*(M j i*(if v i<0 then-v i else 0))):=dv n (λi _=>Oj);rw[f,this];grind};have m:0<=sm n (λi=>M j i*(if v i<0 then-v i else 0)):=ob n (λi b=>az (d.iV j i a b) (by split<;>grind));have h1:=l j a;have h2:=hc j a;show(if v j<0 then-v j else 0)<=_;split<;>grind);intro j a;have:=g _ h.1 j a;have h2:(if v j<0 then-v j else 0)=0:=Classical.not_not.1 this;by_cases e:v j<0;{rw[Uy e]at h2;grind};grind
theorem Sp(b:o5 n M)(d:Open n M){z:Nat->Rat}(f:∀j,j<n->z j=sm n (λi=>M j i*z i)):∀j,j<n->z j=0:=by have h1:=CZ b d (c:=λ_=>0) (v:=z) (λ_ _=>Oj) (λj a=>by have:=f j a;grind);have h2:=CZ b d (c:=λ_=>0) (v:=λi=>-z i) (λ_ _=>Oj) (λj a=>by have:=f j a;have e:=oZ (-1) (λi=>M j i*z i) n;have g:sm n (λi=>M j i* -z i)=sm n (λi=>(-1)*(M j i*z i)):=dv n (λi _=>Oj);rw[g,e];grind);intro j a;have:=h1 j a;have:=h2 j a;grind
end cO
namespace bQ
def takes:List Rat->Rat->List Rat|[],_=>[]|s::S,m=>(if m<s then m else s)::takes S (if m<s then 0 else m-s)
def split:List Rat->Rat->Nat×Rat|[],m=>(0,m)|s::S,m=>if m<s then(0,m)else((split S (m-s)).1+1,(split S (m-s)).2)
def pD:List Rat->Rat->List Rat|[],_=>[]|s::S,m=>if m<s then 1::S.map (λ_=>0)else 0::pD S (m-s)
def gap:List Rat->Rat->Option Rat|[],_=>bq|s::S,m=>if m<s then aP (s-m)else gap S (m-s)
def aA:List Rat->Rat|[]=>0|s::S=>s+aA S
theorem ud(a b:List Rat):aA (a++b)=aA a+aA b:=by induction a with|nil=>{simp only[List.nil_append,aA];grind}|cons x a ih=>simp only[List.cons_append,aA,ih];grind
theorem xr:∀(S:List Rat) (m:Rat),(takes S m).length=S.length|[],_=>rfl|s::S,m=>by simp only[takes,a6,xr S]
theorem KA:∀(S:List Rat) (m:Rat),(pD S m).length=S.length|[],_=>rfl|s::S,m=>by simp only[pD];split;{simp};simp only[a6,KA S]
theorem DZ:∀(S:List Rat) (m:Rat),(split S m).1<=S.length|[],_=>by simp[split]|s::S,m=>by have:=DZ S (m-s);simp only[split];split<;>simp<;>omega
theorem zY:∀(S:List Rat),(∀s∈S,0<=s)->takes S 0=S.map (λ_=>0)|[],_=>rfl|s::S,h=>by have hs:=h s (ak ..);have b:=zY S (λt c=>h t (ad _ c));simp only[takes,aD];by_cases a:(0:Rat)<s;{rw[Uy a,Uy a,b]};have:s=0:=Oj;subst this;rw[Uz a,Uz a,show(0:Rat)-0=0 by grind,b]
theorem L6:∀(S:List Rat) (m e:Rat),(∀s∈S,0<=s)->0<=m->m<=e->∀(k:Nat) (t d:Rat),(takes S m)[k]?=aP t->(takes S e)[k]?=aP d->t<=d|[],_,_,_,_,_,k,t,d,c,_=>by simp[takes]at c|a::S,m,e,h,hm,f,k,t,d,c,b=>by have ha:=h a (ak ..);simp only[takes]at c b;cases k with|zero=>{simp only[aH,aS]at c b;split at c<;>split at b<;>grind}|succ k=>simp only[aT]at c b;exact L6 S _ _ (λt c=>h t (ad _ c)) (by split<;>grind) (by split<;>split<;>grind) k t d c b
theorem L5:∀(S:List Rat) (m h:Rat),(∀s∈S,0<=s)->0<=m->0<=h->(∀g,gap S m=aP g->h<=g)->∀(k:Nat) (t r:Rat),(takes S m)[k]?=aP t->(pD S m)[k]?=aP r->(takes S (m+h))[k]?=aP (t+h*r)|[],_,_,_,_,_,_,k,t,r,b,_=>by simp[takes]at b|a::S,m,h,hS,hm,hh,f,k,t,r,b,c=>by have ha:=hS a (ak ..);have d:∀t∈S,0<=t:=λt b=>hS t (ad _ b);simp only[takes,pD,gap]at b c f|-;by_cases i:m<a;{simp only[Uy i]at b c f;have n:=f _ rfl;cases k with|zero=>{simp only[aH,aS]at b c|-;subst b;subst c;clear hS d f;split<;>grind}|succ k=>simp only[aT]at b c|-;rw[zY S d]at b;have e:(if m+h<a then 0 else m+h-a)=0:=by{split<;>grind};rw[e,zY S d,b];rw[List.getElem?_map]at c;cases l:S[k]?with|none=>{rw[l]at c;cases c}|some s=>rw[l]at c;have j:(0:Rat)=r:=by{simpa using c};subst j;congr 1;grind};simp only[Uz i]at b c f;have h2:¬m+h<a:=Oj;simp only[Uz h2];cases k with|zero=>{simp only[aH,aS]at b c|-;grind}|succ k=>simp only[aT]at b c|-;have:=L5 S (m-a) h d Oj hh f k t r b c;rw[show m+h-a=m-a+h by grind];exact this
theorem wz:∀(S:List Rat) (m g:Rat),gap S m=aP g->0<g|[],_,_,h=>by{cases h}|a::S,m,g,h=>by simp only[gap]at h;split at h;{injection h with h;grind};exact wz S _ g h
theorem BP:∀(S:List Rat) (m g b:Rat),(∀s∈S,0<=s)->gap S m=aP g->m+g<=b->(split S m).1<(split S b).1|[],_,_,_,_,h,_=>by{cases h}|a::S,m,g,b,hS,h,hm=>by simp only[gap]at h;simp only[split];split at h;{rename_i d;injection h with h;rw[Uy d,Uz Oj];simp};rename_i c;have:=wz S _ g h;rw[Uz c,Uz Oj];have:=BP S (m-a) g (b-a) (λt e=>hS t (ad _ e)) h Oj;simp only;omega
theorem xm:∀(S:List Rat) (m b:Rat),m<=b->(split S m).1<=(split S b).1|[],_,_,_=>Nat.le_refl _|a::S,m,b,hm=>by simp only[split];by_cases h:m<a;{rw[Uy h];simp};rw[Uz h,Uz Oj];have:=xm S (m-a) (b-a) Oj;simp only;omega
end bQ
namespace bR
open bQ
abbrev Part:=Int×Rat
def aW(t:List Part):Rat:=aA (t.map (·.2))
def got(c:Int)(l:List Part):Rat:=aA (l.map (λp=>if p.1=c then p.2 else 0))
theorem qX(c:Int):got c []=0:=rfl
theorem yF(c:Int)(a b:List Part):got c (a++b)=got c a+got c b:=by unfold got;rw[a9,ud]
theorem pn(c:Int)(p:Part)(l:List Part):got c (p::l)=(if p.1=c then p.2 else 0)+got c l:=rfl
theorem rD(p:Part)(l:List Part):aW (p::l)=p.2+aW l:=rfl
theorem VD(a b:List Part):aW (a++b)=aW a+aW b:=by unfold aW;rw[a9,ud]
def dI:List (List Part)->Rat->List Part|[],_=>[]|t::L,m=>if m<aW t then t.map (λp=>(p.1,p.2*(m/aW t)))else t++dI L (m-aW t)
def eL:List (List Part)->Rat->Rat->List Part|[],_,_=>[]|t::L,m,r=>if m<aW t then t.map (λp=>(p.1,p.2*(r/aW t)))else eL L (m-aW t) r
def sums(L:List (List Part)):List Rat:=L.map aW
def dot:List Rat->List Rat->Rat|a::l,b::m=>a*b+dot l m|_,_=>0
def share(c:Int)(L:List (List Part)):List Rat:=L.map (λt=>got c t/aW t)
def Pos(L:List (List Part)):Prop:=∀t∈L,∀p∈t,0<=p.2
theorem rE{t:List Part}(h:∀p∈t,0<=p.2):0<=aW t:=by induction t with|nil=>{simp only[aW,aF,aA];grind}|cons p t ih=>rw[rD];have h1:=h p (ak ..);have h2:=ih (λq a=>h q (ad _ a));grind
theorem sk{t:List Part}(c:Int)(h:∀p∈t,0<=p.2):0<=got c t:=by induction t with|nil=>{rw[qX];grind}|cons p t ih=>rw[pn];have h1:=h p (ak ..);have h2:=ih (λq a=>h q (ad _ a));split<;>grind
theorem Qb{t:List Part}(c:Int)(h:∀p∈t,0<=p.2):got c t<=aW t:=by induction t with|nil=>{rw[qX];simp only[aW,aF,aA];grind}|cons p t ih=>rw[pn,rD];have h1:=h p (ak ..);have h2:=ih (λq a=>h q (ad _ a));split<;>grind
theorem BX(c:Int)(k:Rat)(t:List Part):got c (t.map (λp=>(p.1,p.2*k)))=got c t*k:=by induction t with|nil=>{rw[aF,qX];grind}|cons p t ih=>rw[aD,pn,pn,ih];simp only;split<;>grind
theorem rA{L:List (List Part)}(h:Pos L):∀s∈sums L,0<=s:=by intro s hs;obtain⟨t,a,rfl⟩:=aU.1 hs;exact rE (h t a)
theorem yp:∀(l:List Rat) {α:Type} (m:List α),dot l (m.map (λ_=>0))=0|[],_,_=>by simp only[dot]|a::l,_,[]=>by simp only[aF,dot]|a::l,_,x::m=>by simp only[aD,dot,yp l m];grind
theorem wV(c:Int):∀(L:List (List Part)) (m:Rat),Pos L->got c (dI L m)=dot (share c L) (takes (sums L) m)|[],m,_=>rfl|t::L,m,h=>by have b:=λp g=>h t (ak ..) p g;have f:Pos L:=λu i=>h u (ad _ i);have hs:=rE b;have k:=sk c b;have l:=Qb c b;simp only[dI,share,sums,aD,takes,dot];by_cases a:m<aW t;{rw[Uy a,Uy a,Uy a,BX];have j:dot (L.map (λt=>got c t/aW t)) (takes (L.map aW) 0)=0:=by{rw[zY (L.map aW) (rA f)];exact yp _ _};rw[j,aL,aL];grind};rw[Uz a,Uz a,Uz a,yF,wV c L _ f];have e:got c t/aW t*aW t=got c t:=by{by_cases d:aW t=0;{have:got c t=0:=Oj;rw[this,d,bn]};exact aG d};rw[e];rfl
theorem xl(c:Int)(r:Rat):∀(L:List (List Part)) (m:Rat),Pos L->got c (eL L m r)=r*dot (share c L) (pD (sums L) m)|[],m,_=>by{simp only[eL,qX,share,aF,dot];grind}|t::L,m,h=>by have b:Pos L:=λu d=>h u (ad _ d);simp only[eL,share,sums,aD,pD];by_cases a:m<aW t;{rw[Uy a,Uy a,BX];simp only[dot];have e:dot (L.map (λt=>got c t/aW t)) ((L.map aW).map (λ_=>0))=0:=yp _ _;rw[e,aL,aL];grind};rw[Uz a,Uz a,xl c r L _ b];simp only[dot];have:dot (share c L) (pD (sums L) (m-aW t))=dot (L.map (λt=>got c t/aW t)) (pD (L.map aW) (m-aW t)):=rfl;rw[this];grind
theorem Ut{c:Int}{L:List (List Part)}(h:Pos L):∀a∈share c L,0<=a:=by intro a ha;obtain⟨t,b,rfl⟩:=aU.1 ha;have h1:=sk c (h t b);have h2:=rE (h t b);rw[aL];exact az h1 (by by_cases d:aW t=0;{rw[d,Rat.inv_zero];exact aE};exact aB (a4.2 Oj))
theorem FM:∀(l a b:List Rat),(∀x∈l,0<=x)->a.length=b.length->(∀(k:Nat) (x y:Rat),a[k]?=aP x->b[k]?=aP y->x<=y)->dot l a<=dot l b|[],a,b,_,_,_=>by{simp only[dot];grind}|x::l,[],[],_,_,_=>by{simp only[dot];grind}|x::l,[],_::_,_,h,_=>by simp at h|x::l,_::_,[],_,h,_=>by simp at h|x::l,a::as,b::bs,hl,he,h=>by simp only[dot];have h1:=h 0 a b rfl rfl;have h2:=FM l as bs (λy e=>hl y (ad _ e)) (by simpa using he) (λk u v c d=>h (k+1) u v (by simpa using c) (by simpa using d));have h3:=aQ h1 (hl x (ak ..));grind
theorem FL(h:Rat):∀(l a r b:List Rat),l.length=a.length->l.length=r.length->l.length=b.length->(∀(k:Nat) (x y:Rat),a[k]?=aP x->r[k]?=aP y->b[k]?=aP (x+h*y))->dot l b=dot l a+h*dot l r|[],_,_,_,_,_,_,_=>by{simp only[dot];grind}|x::l,[],_,_,h,_,_,_=>by simp at h|x::l,_::_,[],_,_,h,_,_=>by simp at h|x::l,_::_,_::_,[],_,_,h,_=>by simp at h|x::l,a::as,r::rs,b::bs,h1,h2,h3,c=>by simp only[dot];have h4:=c 0 a r rfl rfl;simp only[aH,aS]at h4;have d:=FL h l as rs bs (by simpa using h1) (by simpa using h2) (by simpa using h3) (λk u v e f=>by have:=c (k+1) u v (by simpa using e) (by simpa using f);simpa using this);rw[d,h4];grind
theorem JM(c:Int){L:List (List Part)}(a:Pos L){q:Rat}(b:0<=m)(h:m<=q):got c (dI L m)<=got c (dI L q):=by rw[wV c L m a,wV c L q a];exact FM _ _ _ (Ut a) (by rw[xr,xr]) (L6 _ _ _ (rA a) b h)
theorem JL(c:Int){L:List (List Part)}(a:Pos L)(b:0<=m)(hh:0<=h)(d:∀g,gap (sums L) m=aP g->h<=g):got c (dI L (m+h))=got c (dI L m)+h*got c (eL L m 1):=by rw[wV c L m a,wV c L _ a,xl c 1 L m a,a3];have ap:(share c L).length=(sums L).length:=by{simp[share,sums]};exact FL h _ _ _ _ (by rw[xr,ap]) (by rw[KA,ap]) (by rw[xr,ap]) (L5 _ _ _ (rA a) b hh d)
theorem UG(c:Int){L:List (List Part)}(a:Pos L)(m r:Rat):got c (eL L m r)=r*got c (eL L m 1):=by rw[xl c r L m a,xl c 1 L m a,a3]
theorem Dc:∀(L:List (List Part)) (m:Rat),Pos L->0<=m->aW (dI L m)=if m<aA (sums L)then m else aA (sums L)|[],m,_,hm=>by{simp only[dI,sums,aF,aA,aW];grind}|t::L,m,h,hm=>by have g:=λp f=>h t (ak ..) p f;have b:Pos L:=λu i=>h u (ad _ i);have hs:=rE g;have d:∀(l:List Rat),(∀s∈l,0<=s)->0<=aA l:=by{intro l;induction l with|nil=>{intro _;simp only[aA];grind}|cons x l ih=>intro c;have h1:=c x (ak ..);have h2:=ih (λs hs=>c s (ad _ hs));simp only[aA];grind};have h1:=d _ (rA b);simp only[dI,sums,aD,aA];by_cases a:m<aW t;{rw[Uy a];have e:aW (t.map (λp=>(p.1,p.2*(m/aW t))))=aW t*(m/aW t):=by{have:∀(l:List Part) (k:Rat),aW (l.map (λp=>(p.1,p.2*k)))=aW l*k:=by{intro l k;induction l with|nil=>{simp only[aF,aW,aA];grind}|cons p l ih=>rw[aD,rD,rD,ih];grind};exact this t _};rw[e,Uy (by have:aA (sums L)=aA (L.map aW):=rfl;grind),Rat.mul_comm,aG Oj]};rw[Uz a,VD,Dc L _ b Oj];have:aA (sums L)=aA (L.map aW):=rfl;grind
end bR
namespace dy
open cO bQ bR
structure Lay where
 cnt:Nat
 bg:List (List Part)
 bx:List (List Nat×List (List Part))
def dK(L:Lay)(x:Rat)(c:Nat):Rat:=got c (dI L.bg x)
def rate(L:Lay)(x:Rat)(c:Nat):Rat:=got c (eL L.bg x 1)
def total(g:Nat->Rat):List Nat->Rat|[]=>0|i::l=>g i+total g l
def tF(L:Lay)(c:Nat):Bool:=L.bx.any (λp=>p.1.contains c)
def jb(x:Rat)(L:Lay)(c:Int):List (List Nat×List (List Part))->Rat|[]=>0|p::ps=>got c (dI p.2 (total (dK L x) p.1))+jb x L c ps
def nI(x:Rat)(L:Lay)(c:Int):List (List Nat×List (List Part))->Rat|[]=>0|p::ps=>got c (eL p.2 (total (dK L x) p.1) (total (rate L x) p.1))+nI x L c ps
def deliver(L:Lay)(x:Rat)(c:Nat):Rat:=(if tF L c then 0 else dK L x c)+jb x L c L.bx
def ev(L:Lay)(x:Rat)(c:Nat):Rat:=(if tF L c then 0 else rate L x c)+nI x L c L.bx
def reserved(L:Lay)(x:Rat):Rat:=jb x L (-1) L.bx
def n8(L:Lay)(x:Rat):Rat:=nI x L (-1) L.bx
def pV(x:Rat)(L:Lay)(p:List Nat×List (List Part))(g:Rat):Rat:=match gap (sums p.2) (total (dK L x) p.1)with|some h=>if 0<total (rate L x) p.1 then(if h/total (rate L x) p.1<g then h/total (rate L x) p.1 else g)else g|none=>g
def least(x:Rat)(L:Lay):List (List Nat×List (List Part))->Rat->Rat|[],g=>g|p::ps,g=>least x L ps (pV x L p g)
def step(L:Lay)(x:Rat):Option Rat:=match gap (sums L.bg) x with|none=>bq|some g=>aP (least x L L.bx g)
structure Ok (L:Lay):Prop where
 pos:Pos L.bg
 ppos:∀p∈L.bx,Pos p.2
theorem sR{g h:Nat->Rat}:∀(l:List Nat),(∀i∈l,g i=h i)->total g l=total h l|[],_=>rfl|i::l,e=>by simp only[total,e i (ak ..),sR l (λj a=>e j (ad _ a))]
theorem Em(g r:Nat->Rat)(h:Rat):∀(l:List Nat),total (λi=>g i+h*r i) l=total g l+h*total r l|[]=>by{simp only[total];grind}|i::l=>by simp only[total,Em g r h l];grind
theorem xy{g h:Nat->Rat}:∀(l:List Nat),(∀i∈l,g i<=h i)->total g l<=total h l|[],_=>by{simp only[total];grind}|i::l,e=>by have h1:=e i (ak ..);have h2:=xy l (λj a=>e j (ad _ a));simp only[total];grind
theorem Mn{g:Nat->Rat}(l:List Nat)(h:∀i∈l,0<=g i):0<=total g l:=by induction l with|nil=>{simp only[total];grind}|cons i l ih=>have h1:=h i (ak ..);have h2:=ih (λj a=>h j (ad _ a));simp only[total];grind
theorem Dd:∀{L:List (List Part)} {m:Rat},Pos L->0<=m->∀p∈dI L m,0<=p.2|[],_,_,_,p,hp=>by simp[dI]at hp|t::L,m,h,hm,p,hp=>by have a:=h t (ak ..);have hs:=rE a;simp only[dI]at hp;split at hp;{rename_i b;obtain⟨q,c,rfl⟩:=aU.1 hp;have h1:=a q c;show 0<=q.2*(m/aW t);refine az h1 ?_;rw[aL];exact az hm (aB (a4.2 Oj))};rcases a8.1 hp with hp|hp;{exact a p hp};exact Dd (λu d=>h u (ad _ d)) Oj p hp
theorem DU:∀{L:List (List Part)} {m r:Rat},Pos L->0<=m->0<=r->∀p∈eL L m r,0<=p.2|[],_,_,_,_,_,p,hp=>by simp[eL]at hp|t::L,m,r,h,hm,a,p,hp=>by have b:=h t (ak ..);have hs:=rE b;simp only[eL]at hp;split at hp;{rename_i c;obtain⟨q,d,rfl⟩:=aU.1 hp;have h1:=b q d;show 0<=q.2*(r/aW t);refine az h1 ?_;rw[aL];exact az a (aB (a4.2 Oj))};exact DU (λu e=>h u (ad _ e)) Oj a p hp
theorem GB{L:Lay}(a:Ok L)(b:0<=x)(c:Nat):0<=dK L x c:=sk _ (Dd a.pos b)
theorem Kz{L:Lay}(a:Ok L)(b:0<=x)(c:Nat):0<=rate L x c:=sk _ (DU a.pos b Oy)
theorem yH{L:Lay}(a:Ok L)(b:0<=x)(h:x<=y)(c:Nat):dK L x c<=dK L y c:=JM _ a.pos b h
theorem xw{L:Lay}(a:Ok L)(b:0<=x)(l:List Nat):0<=total (dK L x) l:=Mn l (λi _=>GB a b i)
theorem Mp{L:Lay}(a:Ok L)(b:0<=x)(l:List Nat):0<=total (rate L x) l:=Mn l (λi _=>Kz a b i)
theorem wv{L:Lay}(a:Ok L){x:Rat}(b:0<=x)(c:Int):∀(ps:List (List Nat×List (List Part))),(∀p∈ps,p∈L.bx)->0<=jb x L c ps|[],_=>by{simp only[jb];grind}|p::ps,h=>by have h1:=sk c (Dd (a.ppos p (h p (ak ..))) (xw a b p.1));have h2:=wv a b c ps (λq d=>h q (ad _ d));simp only[jb];grind
theorem Lh{L:Lay}(a:Ok L){x:Rat}(b:0<=x)(c:Int):∀(ps:List (List Nat×List (List Part))),(∀p∈ps,p∈L.bx)->0<=nI x L c ps|[],_=>by{simp only[nI];grind}|p::ps,h=>by have h1:=sk c (DU (a.ppos p (h p (ak ..))) (xw a b p.1) (Mp a b p.1));have h2:=Lh a b c ps (λq d=>h q (ad _ d));simp only[nI];grind
theorem BL{L:Lay}(b:Ok L){x y:Rat}(d:0<=x)(a:x<=y)(c:Int):∀(ps:List (List Nat×List (List Part))),(∀p∈ps,p∈L.bx)->jb x L c ps<=jb y L c ps|[],_=>by{simp only[jb];grind}|p::ps,h=>by have h1:=JM c (b.ppos p (h p (ak ..))) (xw b d p.1) (xy p.1 (λi _=>yH b d a i));have h2:=BL b d a c ps (λq e=>h q (ad _ e));simp only[jb];grind
theorem uN{L:Lay}(a:Ok L)(b:0<=x)(c:Nat):0<=deliver L x c:=by have h1:=wv a b c L.bx (λ_ h=>h);have h2:=GB a b c;unfold deliver;split<;>grind
theorem DS{L:Lay}(a:Ok L)(b:0<=x)(c:Nat):0<=ev L x c:=by have h1:=Lh a b c L.bx (λ_ h=>h);have h2:=Kz a b c;unfold ev;split<;>grind
theorem OZ{L:Lay}(b:Ok L)(d:0<=x)(a:x<=y)(c:Nat):deliver L x c<=deliver L y c:=by have h1:=BL b d a c L.bx (λ_ h=>h);have h2:=yH b d a c;unfold deliver;split<;>grind
theorem TE{L:Lay}(b:Ok L)(c:0<=x)(a:x<=y):reserved L x<=reserved L y:=BL b c a (-1) L.bx (λ_ h=>h)
theorem least_le(x:Rat)(L:Lay):∀(ps:List (List Nat×List (List Part))) (g:Rat),least x L ps g<=g/\∀p∈ps,∀h,gap (sums p.2) (total (dK L x) p.1)=aP h->0<total (rate L x) p.1->least x L ps g<=h/total (rate L x) p.1|[],g=>⟨by simp only[least];grind,λp d=>by cases d⟩|p::ps,g=>by simp only[least];obtain⟨h1,h2⟩:=least_le x L ps (pV x L p g);refine⟨?_,λq b h a c=>?_⟩;{refine a0 h1 ?_;unfold pV;split;{split;{split<;>grind};grind};grind};rcases bk.1 b with rfl|b;{refine a0 h1 ?_;unfold pV;rw[a];simp only[c,if_true];split<;>grind};exact h2 q b h a c
theorem Hu(x:Rat)(L:Lay):∀(ps:List (List Nat×List (List Part))) (g:Rat),0<g->0<least x L ps g|[],g,h=>h|p::ps,g,h=>by simp only[least];refine Hu x L ps _ ?_;unfold pV;split;{rename_i k a;have:=wz _ _ _ a;split;{rename_i b;split;{rw[aL];exact Rat.mul_pos this (a4.2 b)};exact h};exact h};exact h
theorem step_pos{L:Lay}(h:step L x=aP g):0<g:=by unfold step at h;split at h;{cases h};rename_i k a;injection h with h;rw[<-h];exact Hu x L _ _ (wz _ _ _ a)
theorem Ca{L:Lay}(a:Ok L)(d:0<=x)(hh:0<=h)(hs:∀g,step L x=aP g->h<=g)(c:Nat):dK L (x+h) c=dK L x c+h*rate L x c:=by refine JL _ a.pos d hh (λg b=>?_);have:=hs (least x L L.bx g) (by unfold step;rw[b]);exact a0 this (least_le x L L.bx g).1
theorem Jm:∀(S:List Rat) (m:Rat),gap S m=bq->pD S m=S.map (λ_=>0)|[],_,_=>rfl|s::S,m,h=>by simp only[gap,pD,aD]at h|-;split;{rename_i a;rw[Uy a]at h;cases h};rename_i a;rw[Uz a]at h;rw[Jm S _ h]
theorem Sj{L:Lay}(a:Ok L)(h:gap (sums L.bg) x=bq)(c:Nat):rate L x c=0:=by unfold rate;rw[xl _ 1 _ _ a.pos,Jm _ _ h,yp];grind
theorem Vz(l:List Nat):total (λ_=>0) l=0:=by induction l with|nil=>rfl|cons i l ih=>simp only[total,ih];grind
theorem Dk{L:Lay}(a:Ok L){x h:Rat}(f:0<=x)(hh:0<=h)(hs:∀g,step L x=aP g->h<=g)(c:Int):∀(ps:List (List Nat×List (List Part))),(∀p∈ps,p∈L.bx)->jb (x+h) L c ps=jb x L c ps+h*nI x L c ps|[],_=>by{simp only[jb,nI];grind}|p::ps,hp=>by have n:=hp p (ak ..);have l:=a.ppos p n;have t:=Dk a f hh hs c ps (λq s=>hp q (ad _ s));have e:total (dK L (x+h)) p.1=total (dK L x) p.1+h*total (rate L x) p.1:=by{rw[<-Em];exact sR p.1 (λi _=>Ca a f hh hs i)};have o:=Mp a f p.1;have r:=xw a f p.1;simp only[jb,nI,t,e];rw[UG c l _ (total (rate L x) p.1)];have key:got c (dI p.2 (total (dK L x) p.1+h*total (rate L x) p.1))=got c (dI p.2 (total (dK L x) p.1))+(h*total (rate L x) p.1)*got c (eL p.2 (total (dK L x) p.1) 1):=by{refine JL c l r (az hh o) (λk m=>?_);by_cases j:total (rate L x) p.1=0;{rw[j,bn];exact aB (wz _ _ _ m)};have d:0<total (rate L x) p.1:=Oj;cases b:gap (sums L.bg) x with|none=>{exfalso;apply j;rw[sR p.1 (λi _=>Sj a b i)];exact Vz _}|some g=>have h1:=hs (least x L L.bx g) (by unfold step;rw[b]);have h2:=(least_le x L L.bx g).2 p n k m d;have h3:h<=k/total (rate L x) p.1:=a0 h1 h2;have h4:=a2 h3 o;rwa[aG j]at h4};rw[key];grind
theorem yj{L:Lay}(a:Ok L)(b:0<=x)(hh:0<=h)(hs:∀g,step L x=aP g->h<=g)(c:Nat):deliver L (x+h) c=deliver L x c+h*ev L x c:=by have h1:=Dk a b hh hs c L.bx (λ_ h=>h);have h2:=Ca a b hh hs c;unfold deliver ev;rw[h1,h2];split<;>grind
theorem DH{L:Lay}(a:Ok L)(b:0<=x)(hh:0<=h)(hs:∀g,step L x=aP g->h<=g):reserved L (x+h)=reserved L x+h*n8 L x:=Dk a b hh hs (-1) L.bx (λ_ h=>h)
end dy
namespace iU
open cO bQ bR dy
def qu(x:Rat)(L:Lay):List (List Nat×List (List Part))->Nat|[]=>0|p::ps=>(split (sums p.2) (total (dK L x) p.1)).1+qu x L ps
def pos(L:Lay)(x:Rat):Nat:=(split (sums L.bg) x).1+qu x L L.bx
def tv:List (List Nat×List (List Part))->Nat|[]=>0|p::ps=>p.2.length+tv ps
def bound(L:Lay):Nat:=L.bg.length+tv L.bx
theorem J3(x:Rat)(L:Lay):∀ps,qu x L ps<=tv ps|[]=>Nat.le_refl _|p::ps=>by have h1:=DZ (sums p.2) (total (dK L x) p.1);have h2:=J3 x L ps;simp only[sums,bf]at h1;simp only[qu,tv,sums];omega
theorem Dn(L:Lay)(x:Rat):pos L x<=bound L:=by have h1:=DZ (sums L.bg) x;have h2:=J3 x L L.bx;simp only[sums,bf]at h1;simp only[pos,bound,sums];omega
theorem zg{L:Lay}(b:Ok L){x y:Rat}(c:0<=x)(a:x<=y):∀ps,qu x L ps<=qu y L ps|[]=>Nat.le_refl _|p::ps=>by have h1:=xm (sums p.2) _ _ (xy p.1 (λi _=>yH b c a i));have h2:=zg b c a ps;simp only[qu];omega
theorem Dp{L:Lay}(b:Ok L)(c:0<=x)(a:x<=y):pos L x<=pos L y:=by have h1:=xm (sums L.bg) _ _ a;have h2:=zg b c a L.bx;unfold pos;omega
theorem Hq(x:Rat)(L:Lay):∀(ps:List (List Nat×List (List Part))) (g:Rat),least x L ps g=g\/∃p∈ps,∃h,gap (sums p.2) (total (dK L x) p.1)=aP h/\0<total (rate L x) p.1/\least x L ps g=h/total (rate L x) p.1|[],g=>.inl rfl|p::ps,g=>by simp only[least];rcases Hq x L ps (pV x L p g)with e|⟨q,a,h,h1,h2,h3⟩;{rw[e];unfold pV;split;{rename_i h hh;split;{rename_i b;split;{exact .inr ⟨p,ak ..,h,hh,b,rfl⟩};exact .inl rfl};exact .inl rfl};exact .inl rfl};exact .inr ⟨q,ad _ a,h,h1,h2,h3⟩
theorem J4{L:Lay}(b:Ok L){x y:Rat}(d:0<=x)(a:x<=y){p:List Nat×List (List Part)}(c:(split (sums p.2) (total (dK L x) p.1)).1<(split (sums p.2) (total (dK L y) p.1)).1):∀ps,p∈ps->qu x L ps<qu y L ps|[],h=>by{cases h}|q::ps,h=>by have h1:=xm (sums q.2) _ _ (xy q.1 (λi _=>yH b d a i));have h2:=zg b d a ps;simp only[qu];rcases bk.1 h with rfl|h;{omega};have:=J4 b d a c ps h;omega
theorem zO{L:Lay}(b:Ok L)(j:0<=x)(h:step L x=aP g):pos L x<pos L (x+g):=by have n:=step_pos h;have hs:∀d,step L x=aP d->g<=d:=λd f=>by{rw[h]at f;injection f with e;rw[e];exact aE};have a:x<=x+g:=Oj;have s:=xm (sums L.bg) _ _ a;have r:=zg b j a L.bx;have f:=h;unfold step at h;split at h;{cases h};rename_i k o;injection h with h;rcases Hq x L L.bx k with e|⟨p,c,q,h1,h2,h3⟩;{have:(split (sums L.bg) x).1<(split (sums L.bg) (x+g)).1:=BP _ _ _ _ (rA b.pos) o (by rw[<-h,e];exact aE);unfold pos;omega};have m:total (dK L (x+g)) p.1=total (dK L x) p.1+g*total (rate L x) p.1:=by{rw[<-Em];exact sR p.1 (λi _=>Ca b j (aB n) hs i)};have l:g*total (rate L x) p.1=q:=by{rw[<-h,h3];exact aG Oj};have:(split (sums p.2) (total (dK L x) p.1)).1<(split (sums p.2) (total (dK L (x+g)) p.1)).1:=by{rw[m,l];exact BP _ _ _ _ (rA (b.ppos p c)) h1 aE};have:=J4 b j a this L.bx c;unfold pos;omega
def same(L:Lay)(x y:Rat):Bool:=decide (n8 L x=n8 L y)&&(List.range L.cnt).all (λc=>decide (ev L x c=ev L y c))
theorem zB{L:Lay}:same L x y=true↔n8 L x=n8 L y/\∀c,c<L.cnt->ev L x c=ev L y c:=by unfold same;rw[Bool.and_eq_true,decide_eq_true_eq,List.all_eq_true];exact and_congr Iff.rfl ⟨λh c hc=>of_decide_eq_true (h c (bj.2 hc)),λh c hc=>Ux (h c (bj.1 hc))⟩
def pB (L:Lay) (x:Rat):Nat->Rat->Option Rat
 |0,_=>bq
 |n+1,m=>match step L m with
  |none=>bq
  |some g=>if same L x (m+g)then pB L x n (m+g)else aP (m+g)
def next(L:Lay)(x:Rat):Option Rat:=pB L x (bound L+1) x
theorem yX{L:Lay}(d:Ok L){x:Rat}:∀(n:Nat) (m y:Rat),0<=m->same L x m=true->pB L x n m=aP y->m<y/\pos L m<pos L y/\∀h,0<=h->m+h<=y->reserved L (m+h)=reserved L m+h*n8 L x/\∀c,c<L.cnt->deliver L (m+h) c=deliver L m c+h*ev L x c|0,_,_,_,_,h=>by{cases h}|n+1,m,y,hm,hs,h=>by simp only[pB]at h;split at h;{cases h};rename_i g i;have s:=step_pos i;have r:=zO d hm i;obtain⟨u,v⟩:=zB.1 hs;have a:∀h,0<=h->h<=g->reserved L (m+h)=reserved L m+h*n8 L x/\∀c,c<L.cnt->deliver L (m+h) c=deliver L m c+h*ev L x c:=λh q h1=>by{have b:∀f,step L m=aP f->h<=f:=λf e=>by{rw[i]at e;injection e with e;rw[<-e];exact h1};refine⟨by rw[u];exact DH d hm q b,λc hc=>?_⟩;rw[v c hc];exact yj d hm q b c};split at h;{rename_i p;obtain⟨h1,h2,h3⟩:=yX d n (m+g) y Oj p h;refine⟨Oj,Oz,λk j o=>?_⟩;by_cases l:k<=g;{exact a k j l};obtain⟨t,eK⟩:=a g (aB s) aE;obtain⟨bB,cn⟩:=h3 (k-g) Oj Oj;rw[show m+g+(k-g)=m+k by grind]at bB cn;refine⟨by rw[bB,t];grind,λc hc=>?_⟩;rw[cn c hc,eK c hc];grind};injection h with h;subst h;exact⟨Oj,r,λk j o=>a k j Oj⟩
theorem Je{L:Lay}(d:Ok L){x:Rat}:∀(n:Nat) (m:Rat),0<=m->bound L<pos L m+n->same L x m=true->pB L x n m=bq->∀h,0<=h->reserved L (m+h)=reserved L m+h*n8 L x/\∀c,c<L.cnt->deliver L (m+h) c=deliver L m c+h*ev L x c|0,m,_,hb,_,_=>by{have:=Dn L m;omega}|n+1,m,hm,hb,hs,h=>by simp only[pB]at h;obtain⟨q,r⟩:=zB.1 hs;split at h;{rename_i f;intro k j;have a:∀b,step L m=aP b->k<=b:=λb e=>by{rw[f]at e;cases e};refine⟨by rw[q];exact DH d hm j a,λc hc=>?_⟩;rw[r c hc];exact yj d hm j a c};rename_i g f;have s:=step_pos f;have u:=zO d hm f;have i:∀h,0<=h->h<=g->reserved L (m+h)=reserved L m+h*n8 L x/\∀c,c<L.cnt->deliver L (m+h) c=deliver L m c+h*ev L x c:=λh p h1=>by{have a:∀b,step L m=aP b->h<=b:=λb e=>by{rw[f]at e;injection e with e;rw[<-e];exact h1};refine⟨by rw[q];exact DH d hm p a,λc hc=>?_⟩;rw[r c hc];exact yj d hm p a c};split at h;{rename_i o;have h3:=Je d n (m+g) Oj Oz o h;intro k j;by_cases l:k<=g;{exact i k j l};obtain⟨t,eK⟩:=i g (aB s) aE;obtain⟨bB,cn⟩:=h3 (k-g) Oj;rw[show m+g+(k-g)=m+k by grind]at bB cn;refine⟨by rw[bB,t];grind,λc hc=>?_⟩;rw[cn c hc,eK c hc];grind};cases h
theorem zC(L:Lay)(x:Rat):same L x x=true:=zB.2 ⟨rfl,λ_ _=>rfl⟩
theorem Jg{L:Lay}(a:Ok L)(b:0<=x)(hh:0<=h)(d:∀y,next L x=aP y->x+h<=y):reserved L (x+h)=reserved L x+h*n8 L x/\∀c,c<L.cnt->deliver L (x+h) c=deliver L x c+h*ev L x c:=by cases e:next L x with|none=>exact Je a _ x b Oz (zC L x) e h hh|some y=>exact(yX a _ x y b (zC L x) e).2.2 h hh (d y e)
theorem CT{L:Lay}(a:Ok L)(b:0<=x)(h:next L x=aP y):x<y/\pos L x<pos L y:=⟨(yX a _ x y b (zC L x) h).1,(yX a _ x y b (zC L x) h).2.1⟩
end iU
namespace il
open cO bQ bR dy iU
structure kE (L:Lay):Prop extends Ok L where
 rin:∀t∈L.bg,∀p∈t,0<=p.1/\p.1<L.cnt
 pin:∀P∈L.bx,∀t∈P.2,∀p∈t,p.1= -1\/(0<=p.1/\p.1<L.cnt)
 nodup:∀P∈L.bx,P.1.Nodup
 mem:∀P∈L.bx,∀i∈P.1,i<L.cnt
 disj:L.bx.Pairwise (λP Q=>∀i∈P.1,i∉Q.1)
 cover:∀P∈L.bx,total (λi=>got i L.bg.flatten) P.1<=aA (sums P.2)
theorem nJ(n:Nat)(i:Nat)(v:Rat)(a:i<n):sm n (λc=>if i=c then v else 0)=v:=by induction n with|zero=>omega|succ n ih=>simp only[sm];by_cases h:i=n;{subst h;rw[dv (g:=λ_=>0) i (λc hc=>by rw[Uz Oz]),jf];simp only[if_true];grind};rw[ih Oz,Uz h];grind
theorem BW(n:Nat):∀(l:List Part),(∀p∈l,p.1= -1\/(0<=p.1/\p.1<n))->sm n (λc=>got c l)+got (-1) l=aW l|[],_=>by{rw[dv (g:=λ_=>0) n (λc _=>qX _),jf,qX];simp only[aW,aF,aA];grind}|p::l,h=>by have d:=BW n l (λq b=>h q (ad _ b));have a:=h p (ak ..);rw[rD,pn,<-d];have e:sm n (λc=>got (c:Int) (p::l))=sm n (λc=>if p.1=(c:Int)then p.2 else 0)+sm n (λc=>got (c:Int) l):=by{rw[<-lz];exact dv n (λc _=>pn _ _ _)};rw[e];rcases a with a|⟨h1,h2⟩;{rw[dv (g:=λ_=>0) n (λc _=>by rw[Uz Oz]),jf,Uy a];grind};obtain⟨i,f⟩:=Int.eq_ofNat_of_zero_le h1;rw[dv (g:=λc=>if i=c then p.2 else 0) n (λc _=>by by_cases hc:i=c;{rw[Uy Oz,Uy hc]};rw[Uz Oz,Uz hc]),nJ n i p.2 Oz,Uz Oz];grind
theorem wA(c:Int):∀(l:List Part),(∀p∈l,p.1≠c)->got c l=0|[],_=>rfl|p::l,h=>by rw[pn,Uz (h p (ak ..)),wA c l (λq a=>h q (ad _ a))];grind
theorem tR{Q:Int->Prop}:∀(L:List (List Part)) (m:Rat),(∀t∈L,∀p∈t,Q p.1)->∀p∈dI L m,Q p.1|[],_,_,p,hp=>by simp[dI]at hp|t::L,m,h,p,hp=>by simp only[dI]at hp;split at hp;{obtain⟨q,a,rfl⟩:=aU.1 hp;exact h t (ak ..) q a};rcases a8.1 hp with hp|hp;{exact h t (ak ..) p hp};exact tR L _ (λu b=>h u (ad _ b)) p hp
theorem Gy(c:Int):∀(L:List (List Part)) (m:Rat),Pos L->0<=m->got c (dI L m)<=got c L.flatten|[],m,_,_=>by{simp only[dI,List.flatten_nil];exact aE}|t::L,m,h,hm=>by have f:=h t (ak ..);have e:Pos L:=λu d=>h u (ad _ d);have hs:=rE f;have j:=sk c f;have i:0<=got c L.flatten:=sk c (λp k=>by obtain⟨u,d,b⟩:=List.mem_flatten.1 k;exact e u d p b);simp only[dI,List.flatten_cons];rw[yF];split;{rename_i a;rw[BX];have l:m/aW t<=1:=by{have g:0<aW t:=Oj;have h1:m/aW t*aW t<=1*aW t:=by{rw[aG Oj,a3];exact aB a};exact Rat.le_of_mul_le_mul_right h1 g};have:=aQ l j;grind};rw[yF];have:=Gy c L (m-aW t) e Oj;grind
theorem Mq(n:Nat)(g:Nat->Rat):∀(l:List Nat),l.Nodup->(∀i∈l,i<n)->total g l=sm n (λc=>if l.contains c then g c else 0)|[],_,_=>by{rw[dv (g:=λ_=>0) n (λc _=>Ow),jf];rfl}|i::l,hn,hl=>by have f:=Mq n g l (a7.1 hn).2 (λj d=>hl j (ad _ d));have b:=hl i (ak ..);have a:=(a7.1 hn).1;simp only[total];rw[f,<-nJ n i (g i) b,<-lz];exact dv n (λc _=>by by_cases hc:i=c;{subst hc;have:l.contains i=false:=by{simpa using a};rw[Uy rfl,this];simp;grind};have:(i::l).contains c=l.contains c:=by{rw[List.contains_cons];have:(c==i)=false:=by{simpa usingλe=>hc e.symm};rw[this,Bool.false_or]};rw[Uz hc,this];grind)
theorem J0{L:Lay}(a:kE L){x:Rat}(j:0<=x):∀(ps:List (List Nat×List (List Part))),(∀p∈ps,p∈L.bx)->ps.Pairwise (λP Q=>∀i∈P.1,i∉Q.1)->sm L.cnt (λc=>jb x L c ps)+jb x L (-1) ps=sm L.cnt (λc=>if ps.any (λp=>p.1.contains c)then dK L x c else 0)|[],_,_=>by{have k:sm L.cnt (λc=>jb x L c [])=0:=jf _;have l:sm L.cnt (λc=>if([]:List (List Nat×List (List Part))).any (λp=>p.1.contains c)then dK L x c else 0)=0:=by{rw[dv (g:=λ_=>0) L.cnt (λc _=>Ow),jf]};rw[k,l];simp only[jb];grind}|p::ps,hm,hd=>by have b:=hm p (ak ..);have s:=J0 a j ps (λq d=>hm q (ad _ d)) (a5.1 hd).2;have f:=(a5.1 hd).1;have n:=xw a.toOk j p.1;have h1:=BW L.cnt (dI p.2 (total (dK L x) p.1)) (tR (Q:=λc=>c= -1\/(0<=c/\c<L.cnt)) p.2 _ (λt o q d=>a.pin p b t o q d));have h2:=Dc p.2 (total (dK L x) p.1) (a.ppos p b) n;have h3:total (dK L x) p.1<=aA (sums p.2):=a0 (xy p.1 (λi _=>Gy i L.bg x a.pos j)) (a.cover p b);have h4:aW (dI p.2 (total (dK L x) p.1))=total (dK L x) p.1:=by{rw[h2];split<;>grind};have r:=Mq L.cnt (dK L x) p.1 (a.nodup p b) (a.mem p b);have ap:sm L.cnt (λc=>jb x L c (p::ps))=sm L.cnt (λc=>got c (dI p.2 (total (dK L x) p.1)))+sm L.cnt (λc=>jb x L c ps):=by{rw[<-lz];rfl};have m:sm L.cnt (λc=>if(p::ps).any (λp=>p.1.contains c)then dK L x c else 0)=sm L.cnt (λc=>if p.1.contains c then dK L x c else 0)+sm L.cnt (λc=>if ps.any (λp=>p.1.contains c)then dK L x c else 0):=by{rw[<-lz];exact dv L.cnt (λc _=>by rw[List.any_cons];by_cases hc:p.1.contains c=true;{have:ps.any (λp=>p.1.contains c)=false:=by{rw[List.any_eq_false];intro q d h;exact f q d c (by simpa using hc) (by simpa using h)};rw[hc,this];simp;grind};have e:p.1.contains c=false:=by{simpa using hc};rw[e,Bool.false_or];simp;grind)};rw[ap,m];simp only[jb];grind
theorem uM{L:Lay}(a:kE L)(f:0<=x):sm L.cnt (deliver L x)+reserved L x=if x<aA (sums L.bg)then x else aA (sums L.bg):=by have h1:=J0 a f L.bx (λ_ h=>h) a.disj;have h2:=BW L.cnt (dI L.bg x) (tR (Q:=λc=>c= -1\/(0<=c/\c<L.cnt)) L.bg x (λt d p b=>.inr (a.rin t d p b)));have h3:=wA (-1) (dI L.bg x) (tR (Q:=λc=>c≠-1) L.bg x (λt d p b=>by have:=a.rin t d p b;omega));rw[h3,Dc L.bg x a.pos f]at h2;have e:sm L.cnt (deliver L x)=sm L.cnt (λc=>if tF L c then 0 else dK L x c)+sm L.cnt (λc=>jb x L c L.bx):=by{rw[<-lz];rfl};have g:sm L.cnt (λc=>got c (dI L.bg x))=sm L.cnt (λc=>if tF L c then 0 else dK L x c)+sm L.cnt (λc=>if L.bx.any (λp=>p.1.contains c)then dK L x c else 0):=by{rw[<-lz];exact dv L.cnt (λc _=>by unfold tF dK;split<;>grind)};unfold reserved;rw[e];rw[g]at h2;grind
theorem OY{L:Lay}(a:kE L)(d:0<=x)(b:x<=y):sm L.cnt (λc=>deliver L y c-deliver L x c)<=y-x:=by have h1:=uM a d;have h2:=uM a (show 0<=y by grind);have h3:=TE a.toOk d b;have e:sm L.cnt (λc=>deliver L y c-deliver L x c)=sm L.cnt (deliver L y)-sm L.cnt (deliver L x):=rv _ _ _;rw[e];split at h1<;>split at h2<;>grind
theorem UF{L:Lay}(d:kE L)(f:0<=x):sm L.cnt (ev L x)<=1:=by obtain⟨h,b,hs⟩:∃h:Rat,0<h/\∀g,step L x=aP g->h<=g:=by{cases e:step L x with|none=>{exact⟨1,Oy,λg a=>by cases a⟩}|some g=>exact⟨g,step_pos e,λi a=>by injection a with a;rw[a];exact aE⟩};have h1:=OY d f (y:=x+h) Oj;have e:sm L.cnt (λc=>deliver L (x+h) c-deliver L x c)=h*sm L.cnt (ev L x):=by{rw[<-oZ];exact dv L.cnt (λc _=>by rw[yj d.toOk f (aB b) hs c];grind)};rw[e]at h1;have h2:h*sm L.cnt (ev L x)<=h*1:=Oj;exact Rat.le_of_mul_le_mul_left h2 b
end il
