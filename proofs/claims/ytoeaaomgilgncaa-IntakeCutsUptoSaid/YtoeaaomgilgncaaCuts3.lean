/-
  IntakeCuts: what a reader is in memory.
-/
import Derived.Test.YtoeaaomgilgncaaCuts2
import Derived.Test.YtoeaaomgilgncaaStep
import Derived.Test.YtoeaaomgilgncaaWalks11
namespace Go.Proofs.Ytoeaaomgilgncaa
open Go.RowKit Go.Mem Go.Intake
set_option linter.unusedVariables false

abbrev RdI (w : World) (A : Option Addr) (n cap : Nat) (l : List Int) : Prop := Rd w 1 A n cap (l.map (Value.int .i64))
theorem Try.elt47 : Elt Try.prog 47 54 3 48 := elt_of (.agg #[.int .i64 0, .string ⟨#[]⟩, .slice none 0 0]) Try.underlying47 rfl (by kernel_rfl) rfl (by decide)

/-- Where an item's body lies. -/
structure Loc where
  addr : Option Addr
  cap : Nat
def itCells (it : It) (b : Loc) : List Value := [.int .i64 it.kind, .string ⟨it.text.toArray⟩, .slice b.addr it.body.length b.cap]
def cellsOf (its : List It) (bs : List Loc) : List Value := (List.zipWith itCells its bs).flatten
theorem cellsOf_snoc {its : List It} {bs : List Loc} (h : bs.length = its.length) (it : It) (b : Loc) : cellsOf (its ++ [it]) (bs ++ [b]) = cellsOf its bs ++ itCells it b := by
  unfold cellsOf
  rw [List.zipWith_append h.symm]
  simp
/-- A reader: its block, its intake, its items, their bodies; F: the blocks that it may turn or tells of. -/
structure RD (w : World) (r p : Nat) (A : Option Addr) (cap : Nat) (Ai : Option Addr) (ci : Nat) (bs : List Loc) (Az : Option Addr) (nz cz : Nat) (s : St) (k : Nat) (its : List It) : Prop where
  blk : Blk w r [.pointer (some ⟨p, 0, none⟩), .slice Az nz cz, .int .i64 k, .slice Ai its.length ci] 49
  inn : IsIn w p A cap s
  own : Own w 54 3 Ai its.length ci (cellsOf its bs)
  len : bs.length = its.length
  bod : ∀ i (h : i < its.length) (h' : i < bs.length), OwnB w 5 bs[i].addr its[i].body.length bs[i].cap its[i].body ∧ ∀ j, InB bs[i].addr j → ¬ InB A j
/-- The blocks of a reader. -/
def foot3 (r p : Nat) (A Ai : Option Addr) (bs : List Loc) (j : Nat) : Prop := j = r ∨ foot p A j ∨ InB Ai j ∨ ∃ b ∈ bs, InB b.addr j
