/- Lemmas that TopSolvent leans on, without conditions: RT LxA LxW LxB LxR Nm PFA. -/
import Derived.Test.YtpbgmpjnfndfjaaGreatDoorKAN
import Derived.Test.YtpbgmpjnfndfjaaGreatDoorKAO
import Derived.Lib.Strings
import Derived.Lib.Split
import Derived.Lib.CountLaws
import Derived.Lib.CutLaws
set_option maxHeartbeats 1000000000000
set_option maxRecDepth 100000000000
set_option linter.all false
namespace Go.Proofs.YtpbgmpjnfndfjaaGreatDoor
open Value renaming string->ad,bool->ak,int->aB,agg->aD
open Go renaming World->az,Value->aE
namespace EJ
open Go.RowKit bC bD bA bN bP bW cC cu
theorem Ue(q:Rat)(w:az):Calls Tryz.prog 176 #[aD #[ak (af q),ad (bs (nm q)),ad (ag q)]] w λe w'=>e=Ending.returned (aB IntKind.i64 (eF q))/\Below w.1.size w w':=by have hs:=ae (KZ q);generalize eF q=s at*;generalize af q=n at*;generalize ag q=D at*;generalize bs (nm q)=t at*;obtain⟨i,g,c,a,h⟩:=bU w (ak n) (ad t) (ad D);obtain⟨j,c1,c2,_⟩:=c.o;by_cases f:0<t.size;{obtain⟨ap,d⟩:=nK f;cases n;{have b:Hid (s=1):=by{show _=_;rw[<-hs.o];unfold sN;rw[Uz Oz];rfl};go_enter Tryz.func176,Tryz.ntmps176;go_wp2_with fail;go_ret;exact⟨by rw[b.o];rfl,a⟩};have b:Hid (s= -1):=by{show _=_;rw[<-hs.o];unfold sN;rw[Uz Oz];rfl};go_enter Tryz.func176,Tryz.ntmps176;go_wp2_with fail;go_ret;exact⟨by rw[b.o];rfl,a⟩};obtain⟨ap,d⟩:=qA (s:=t) Oz;have b:Hid (s=0):=by{show _=_;rw[<-hs.o];unfold sN;rw[Uy Oz]};go_enter Tryz.func176,Tryz.ntmps176;go_wp2_with fail;go_ret;exact⟨by rw[b.o];rfl,a⟩
theorem Ud(n:Bool)(a d:ByteArray)(w:az)(ha:a.size<=100000000000)(hd:d.size<=100000000000):Calls Tryz.prog 143 #[aD #[ak n,ad a,ad d]] w λe w'=>e=Ending.returned (aB IntKind.i64 (eF (eD n a.1.1 d.1.1)))/\Below w.1.size w w':=by have i:=Lib.hid (λw=>TM n a d w ha hd);generalize eD n a.1.1 d.1.1=q at*;rw[jt]at i;have j:=Lib.hid (λw=>Ue q w);obtain⟨m,k,f,c,l⟩:=bU w (ak n) (ad a) (ad d);obtain⟨o,c1,c2,_⟩:=f.o;go_enter Tryz.func143,Tryz.ntmps143;go_wp2_with fail;refine(i.o _).mono ?_;rintro e p ⟨rfl,g⟩;have b:=c.trans (g.mono c.size);go_wp2_with fail;refine(j.o _).mono ?_;rintro e r ⟨rfl,h⟩;go_wp2_with fail;go_ret;exact⟨rfl,b.trans (h.mono b.size)⟩
end EJ
namespace cQ
open Go.RowKit cI
def ai(w:az)(g:Nat)(T:TypeId)(L:List aE):Prop:=w.1[g]?=some (.cells L.toArray T (0,0))
section
variable {g k:Nat} {T:TypeId} {w w':az} {L:List aE}
theorem ai.aC(h:ai w g T L):pL w g L:=⟨T,h⟩
theorem ai.lt(h:ai w g T L):g<w.1.size:=h.aC.lt
theorem ai.cell(h:ai w g T L){i:Nat}{v:aE}(a:L[i]?=some v):w.cell? ⟨g,i,none⟩=some v:=h.aC.cell a
theorem ai.frozen(h:ai w g T L)(i:Nat):w.frozen? ⟨g,i,none⟩=false:=h.aC.frozen i
theorem ai.set(h:ai w g T L)(i:Nat)(v:aE):ai (w.setCell ⟨g,i,none⟩ v) g T (L.set i v):=by unfold ai at h|-;simp[World.setCell,Array.getElem?_modify,h]
theorem ai.below(h:ai w g T L)(a:Below w.1.size w w'):ai w' g T L:=(a.block g h.lt).trans h
end
end cQ
namespace cT
open Go.RowKit cI cQ
abbrev Cls(I:az->Prop)(w:az):Prop:=∃x:aq.In I,w=x.val
instance QA(W:az):Nonempty (aq.In (Below W.1.size W)):=⟨⟨_,Below.refl _ _⟩⟩
theorem cls{I:az->Prop}{w:az}(h:I w):Cls I w:=⟨⟨w,h⟩,rfl⟩
end cT
