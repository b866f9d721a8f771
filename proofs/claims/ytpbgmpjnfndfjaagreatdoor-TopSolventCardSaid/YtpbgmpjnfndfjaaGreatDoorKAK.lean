/- Lemmas that TopSolvent leans on, without conditions: Qin. -/
import Derived.Test.YtpbgmpjnfndfjaaGreatDoorKZ
import Derived.Deep.QuietTactic
import Derived.BigQuiet
import Derived.Below
set_option linter.all false
namespace Go.Proofs.YtpbgmpjnfndfjaaGreatDoor
open Go.RowKit
variable{I:World->Prop}{w:World}
namespace aq
structure In (I:World->Prop) where
 val:World
 ok:I val
theorem start(B:Nat)(w:World):Below B w {w with drawn:=w.drawn+1}:=⟨rfl,rfl,rfl,Nat.le_refl _,λ_ _=>rfl⟩
theorem region{P:Program}{n:Nat}{Q:Exit->Act->World->Prop}{a:Act}{l:List Oper}(i:I {w with drawn:=w.drawn+1})(j:P.follows .mixedOrders=true)(g:Region.lexB .any l.toArray=true)(h:wpQuiet P l.toArray (λw'=>∃x:In I,w'=x.val) (λb=>∀x:In I,Q .normal b x.val) l a):(Code.region n l.toArray true).wp P Q a w:=by refine wp_region_quiet (C:=λw'=>∃x:In I,w'=x.val) j g ⟨⟨_,i⟩,rfl⟩ ?_;have d:∀(f:List Oper) (b:Act),wpQuiet P l.toArray (λw'=>∃x:In I,w'=x.val) (λb=>∀x:In I,Q .normal b x.val) f b->wpQuiet P l.toArray (λw'=>∃x:In I,w'=x.val) (λb=>∀w',(∃x:In I,w'=x.val)->Q .normal b w') f b:=by{intro f;induction f with|nil=>{intro b c w' e;obtain⟨x,rfl⟩:=e;exact c x}|cons o rest ih=>intro b c;unfold wpQuiet at c|-;split;{rename_i e;rw[Uy e]at c;exact Oper.quiet_mono ih c};rename_i e;rw[Uz e]at c;exact ih _ c};exact d _ _ h
theorem call{P:Program}{f:FuncId}{args:Array Value}{v:Value}(h:Calls P f args w λe w'=>e=Ending.returned v/\I w'):Calls P f args w λe jg=>e=Ending.returned v/\∃x:In I,jg=x.val:=h.mono λ_ w' ⟨a,b⟩=>⟨a,⟨w',b⟩,rfl⟩
end aq
