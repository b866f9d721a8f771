/- Lemmas that TopSolvent leans on, without conditions: Wd PqB. -/
import Derived.Test.YtpbgmpjnfndfjaaGreatDoorKZ
import Derived.Below
import Derived.Laws.OwnMore
import Derived.Deep.AppendLies
import Derived.Deep.Draws
import Derived.Maps.AppendAt
import Derived.RegionTactic
import Derived.OwnWalk
set_option linter.all false
namespace Go.Proofs.YtpbgmpjnfndfjaaGreatDoor
open Go renaming Value->ad,TypeId->aE,World->aF,TypeInfo->aH,run_underlying->aL,Addr->aP,maxLen->aQ
open Builtin renaming append_->ak,firstCells->aD,lenOf->aG
open Option renaming some->az
open List renaming eq_nil_of_length_eq_zero->aB
theorem _root_.Go.RowKit.Hid.o{p:Prop}(h:Go.RowKit.Hid p):p:=h
theorem Ox{p:Prop}(h:p:=by kernel_rfl):p:=h
open Go.RowKit
variable{a:Act}{Q:Exit->Act->aF->Prop}
namespace cH
theorem NQ(a:aP)(n:Nat):(a.add n).block=a.block:=by unfold Addr.add;split<;>rfl
def Reads(w:aF)(B size:Nat)(A:Option aP)(n:Nat)(xs:List ad):Prop:=xs.length=n*size/\(0<n->∃a,A=az a/\a.block<B/\∀j u,xs[j]?=az u->w.cell? (a.add j)=az u)
section
variable {w w':aF} {B B' size n:Nat} {A:Option aP} {xs:List ad}
theorem Reads.keep(h:Reads w B size A n xs)(c:∀p:aP,p.block<B->w'.cell? p=w.cell? p):Reads w' B size A n xs:=⟨h.1,λd=>by obtain⟨b,e,a,hc⟩:=h.2 d;exact⟨b,e,a,λj u f=>(c _ (by rw[NQ];exact a)).trans (hc j u f)⟩⟩
theorem Reads.below(h:Reads w B size A n xs)(a:Below B w w'):Reads w' B size A n xs:=h.keep λ_ b=>a.cell b
end
section
variable {P:Program} (w:aF)
theorem Ug(base:Nat)(t h e:aE)(i:aH)(size:Nat)(f:P.underlying t=az (.slice e))(d:P.info? e=az i)(v:ad)(n:Nat)(xs:List ad)(a:w.ownsRow base e size v n xs)(c:Nat):(ak #[t,t] h #[v,.slice none 0 c]).run P w=.ok v w:=by rcases a.2 with⟨rfl,rfl⟩|⟨g,cap,cur,rfl,_,_,b,_⟩;{simp[ak,aL f,sizeOf,typeInfo,d,aG,aD]};simp[ak,aL f,sizeOf,typeInfo,d,aG,aD,b,storeCells]
theorem Uf(base:Nat)(t E e:aE)(i:aH)(z:ad)(size b:Nat)(G:P.underlying t=az (.slice e))(F:P.info? e=az i)(L:i.zero=az z)(o:i.size=size)(x:i.bytes=b)(D:z.cells.size=size)(C:0<size)(v:ad)(n:Nat)(xs:List ad)(d:w.ownsRow base e size v n xs)(B:Nat)(A:Option aP)(m c:Nat)(a:List ad)(p:Reads w B size A m a)(h1:∀u∈a,u.oneCell'=true)(s:n+m<=aQ)(f:(n+m)*b<=140737488355328)(l:base<=w.1.size):∃v' w',(ak #[t,t] E #[v,.slice A m c]).run P w=.ok v' w'/\w'.ownsRow base e size v' (n+m) (xs++a)/\w.grownBy w' v.ownBlock/\(v'.ownBlock=v.ownBlock\/v'.ownBlock=az w.1.size):=by rcases A with _|r;{have K:m=0:=by{rcases Nat.eq_zero_or_pos m with k|k;{exact k};obtain⟨r,h,_⟩:=p.2 k;cases h};subst K;have y:a=[]:=aB (by simpa using p.1);subst y;exact⟨v,w,Ug w base t E e i size G F v n xs d c,by simpa using d,World.grownBy.refl w _,.inl rfl⟩};have g:∀j u,a[j]?=az u->w.cell? (r.add j)=az u:=by{intro j u H;rcases Nat.eq_zero_or_pos m with k|k;{subst k;have y:a=[]:=aB (by simpa using p.1);subst y;simp at H};obtain⟨I,h,_,hc⟩:=p.2 k;injection h with h;subst h;exact hc j u H};obtain⟨v',w',q,h2,h3,_,J⟩:=run_append_own_at (P:=P) w base t E e i z size b G F L o x D C v n xs d r m c a p.1 g h1 s f l;exact⟨v',w',q,h2,h3,J⟩
theorem VK{o:Oper}{K:Act->aF->Prop}(s x:Operand)(t:aE)(D:o.op=.call {callee:=.builtin .append,args:=#[s,x],argTypes:=#[t,t]})(base:Nat)(e:aE)(i:aH)(z:ad)(size b:Nat)(F:P.underlying t=az (.slice e))(C:P.info? e=az i)(H:i.zero=az z)(j:i.size=size)(q:i.bytes=b)(y:z.cells.size=size)(r:0<size)(v:ad)(n:Nat)(xs:List ad)(hs:a.eval s=v)(k:w.ownsRow base e size v n xs)(B:Nat)(A:Option aP)(m c:Nat)(d:List ad)(G:a.eval x=.slice A m c)(E:Reads w B size A m d)(h1:∀u∈d,u.oneCell'=true)(p:n+m<=aQ)(f:(n+m)*b<=140737488355328)(g:base<=w.1.size)(h:∀v' w',w'.ownsRow base e size v' (n+m) (xs++d)->w.grownBy w' v.ownBlock->(v'.ownBlock=v.ownBlock\/v'.ownBlock=az w.1.size)->K (a.put o.dst v') w'):o.wp P a w K Q:=by obtain⟨v',w',l,h2,h3,h4⟩:=Uf (P:=P) w base t o.type e i z size b F C H j q y r v n xs k B A m c d E h1 p f g;unfold Oper.wp execOp;simp only[D,resolve,invoke,builtin,Sem.run_bind,Sem.run_pure,Result.andThen_ok,List.map_toArray,List.map_cons,List.map_nil,hs,G,l];exact h v' w' h2 h3 h4
theorem jR{ops:Array Oper}{rest:List Oper}{o:Oper}(q:o.guard=none)(s x:Operand)(t:aE)(E:o.op=.call {callee:=.builtin .append,args:=#[s,x],argTypes:=#[t,t]})(base:Nat)(e:aE)(i:aH)(z:ad)(size b:Nat)(G:P.underlying t=az (.slice e))(D:P.info? e=az i)(I:i.zero=az z)(j:i.size=size)(p:i.bytes=b)(y:z.cells.size=size)(r:0<size)(v:ad)(n:Nat)(xs:List ad)(hs:a.eval s=v)(k:w.ownsRow base e size v n xs)(B:Nat)(A:Option aP)(m c:Nat)(d:List ad)(H:a.eval x=.slice A m c)(F:Reads w B size A m d)(h1:∀u∈d,u.oneCell'=true)(l:n+m<=aQ)(f:(n+m)*b<=140737488355328)(g:base<=w.1.size)(h:∀v' w',w'.ownsRow base e size v' (n+m) (xs++d)->w.grownBy w' v.ownBlock->(v'.ownBlock=v.ownBlock\/v'.ownBlock=az w.1.size)->wpList P ops Q rest (a.put o.dst v') w'):wpList P ops Q (o::rest) a w:=wpList_plain q λ_ C=>VK w s x t E base e i z size b G D I j p y r v n xs hs k B A m c d H F h1 l f g λv' w' h2 h3 h4=>C _ _ (h v' w' h2 h3 h4)
end
end cH
namespace cI
def pL(w:aF)(R:Nat)(l:List ad):Prop:=∃T,w.1[R]?=az (.cells l.toArray T (0,0))
section
variable {R k:Nat} {w w':aF} {l:List ad}
theorem pL.lt(h:pL w R l):R<w.1.size:=by obtain⟨T,h⟩:=h;exact(Array.getElem?_eq_some_iff.1 h).1
theorem pL.cell(h:pL w R l){i:Nat}{v:ad}(a:l[i]?=az v):w.cell? ⟨R,i,none⟩=az v:=by obtain⟨T,h⟩:=h;simp[World.cell?,h,a]
theorem pL.frozen(h:pL w R l)(i:Nat):w.frozen? ⟨R,i,none⟩=false:=by obtain⟨T,h⟩:=h;simp[World.frozen?,h]
theorem pL.new(w:aF)(l:List ad)(T:aE):pL (w.alloc (.cells l.toArray T)) w.1.size l:=⟨T,heap_alloc_new w _⟩
end
end cI
