/- Lemmas that TopSolvent leans on, without conditions. -/
set_option linter.all false
namespace Go.Proofs.YtpbgmpjnfndfjaaGreatDoor
theorem Uq{α:Sort _}(a:α):∃x,a=x:=⟨_,rfl⟩
theorem Oz{p:Prop}(h:p:=by omega):p:=h
theorem Oy{p:Prop}(h:p:=by decide):p:=h
theorem Ow{p:Prop}(h:p:=by simp):p:=h
theorem Oj{p:Prop}(h:p:=by grind):p:=h
def Uz:=@if_neg
def Uy:=@if_pos
def Ux:=@decide_eq_true
def Uw:=@decide_eq_false
def Uj:=@absurd
