/- The plain law of package history: what its functions compute, as functions on lists of rows. -/
import Derived.Below
namespace Go.Proofs.YtkllpfijeglppaaDoor.Hs
open Go.RowKit
/-- a row of a history -/
structure HRow where
  day : Int
  kind : Int
  src : Int
  dst : Int
  amount : Int
  worth : Int
def HRow.vals (r : HRow) : List Value := [.int .i64 r.day, .int .i64 r.kind, .int .i64 r.src, .int .i64 r.dst, .int .i64 r.amount, .int .i64 r.worth]
def HRow.agg (r : HRow) : Value := .agg #[.int .i64 r.day, .int .i64 r.kind, .int .i64 r.src, .int .i64 r.dst, .int .i64 r.amount, .int .i64 r.worth]
def flow (r : HRow) : Int := if r.kind = 1 then r.amount else if r.kind = 3 then - r.amount else 0
/-- by how much a row changes the balance of a party -/
def money (r : HRow) (p : Int) : Int := wrap64 ((if r.dst = p then flow r else 0) - (if r.src = p then flow r else 0))
/-- the balance after the rows of a list up to a day -/
def balance (p d : Int) : Int → List HRow → Int
  | o, [] => o
  | o, r :: l => balance p d (if r.day ≤ d then wrap64 (o + money r p) else o) l
def before (p f : Int) : Int → List HRow → Int
  | o, [] => o
  | o, r :: l => before p f (if r.day < f then wrap64 (o + money r p) else o) l
def during (p f t : Int) : Int → Int → List HRow → Int
  | _, m, [] => m
  | o, m, r :: l => if f ≤ r.day ∧ r.day ≤ t then during p f t (wrap64 (o + money r p)) (if wrap64 (o + money r p) < m then wrap64 (o + money r p) else m) l else during p f t o m l
def lowest (p f t o : Int) (l : List HRow) : Int := during p f t (before p f o l) (before p f o l) l
end Go.Proofs.YtkllpfijeglppaaDoor.Hs
