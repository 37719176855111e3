/-
  IntakeScript: the book of bodies that were handed out: holds.
-/
import Derived.Test.YtoeaaomgilgncaaDesk1
namespace Go.Proofs.Ytoeaaomgilgncaa
open Go.RowKit Go.Mem Go.Intake
set_option linter.unusedVariables false

def RdL (w : World) (l : List OB) : Prop := ∀ o ∈ l, RdB w o.addr o.n o.cap o.bytes
theorem RdL.mod {w w' : World} {l : List OB} (h : RdL w l) (hm : Mod (fun _ => False) w w') : RdL w' l := fun o ho => (h o ho).mod hm fun _ _ h => h
/-- Both lists read the same. -/
structure Both (w : World) (O Wn : List OB) : Prop where
  out : RdL w O
  want : RdL w Wn
  eq : O.map OB.bytes = Wn.map OB.bytes
theorem Both.mod {w w' : World} {O Wn : List OB} (h : Both w O Wn) (hm : Mod (fun _ => False) w w') : Both w' O Wn := ⟨h.out.mod hm, h.want.mod hm, h.eq⟩
theorem Both.len {w : World} {O Wn : List OB} (h : Both w O Wn) : O.length = Wn.length := by simpa using congrArg List.length h.eq

set_option maxRecDepth 100000 in
set_option maxHeartbeats 1000000 in
theorem holds_calls (w : World) (d : Nat) (va vb vl : Value) (fr : Int) (Ao : Option Addr) (no co : Nat) (Aw : Option Addr) (nw cw : Nat) (O Wn : List OB) (hb : Blk w d (deskCells va vb Ao no co Aw nw cw fr vl) 32) (ho : Rd w 1 Ao no co (O.map OB.val)) (hw : Rd w 1 Aw nw cw (Wn.map OB.val)) (hB : Both w O Wn) :
    Calls Try.prog 11 #[.pointer (some ⟨d, 2, none⟩)] w fun e w' => e = .returned (.bool true) ∧ ∃ q, w' = w.drewN q := by
  have hno : O.length = no := by simpa using ho.len
  have hnw : Wn.length = nw := by simpa using hw.len
  have hle := ho.le
  have hmx := ho.max
  unfold maxLen at hmx
  have hlen := hB.len
  have c2 := hb.cell 2
  have c3 := hb.cell 3
  simp only [deskCells, List.getElem?_cons_zero, List.getElem?_cons_succ] at c2 c3
  have H := Lib.hid (And.intro ho (And.intro hw hB))
  have HN := Lib.hid (And.intro hno (And.intro hnw hlen))
  have hnn : nw = no := by omega
  subst hnn
  clear ho hw hB hb hno hnw hlen
  go_enter Try.func11, Try.ntmps11
  go_wp2_with fail
  go_loopg [10] nw (fun g i wr => ∃ k q : Nat, k ≤ nw ∧ g = nw - k ∧ i = .int .i64 k ∧ wr = w.drewN q)
  case atStart => exact ⟨0, 0, by omega, by omega, rfl, rfl⟩
  case round =>
    obtain ⟨k, q, hk, rfl, rfl, rfl⟩ := hrel
    by_cases hlt : k < nw
    · obtain ⟨go, oo, rfl, x0⟩ := H.out.1.at_ k (by simp; have := HN.out; omega)
      obtain ⟨gw, ow, rfl, x1⟩ := H.out.2.1.at_ k (by simp; have := HN.out; omega)
      simp only [List.getElem_map, OB.val] at x0 x1
      have hl1 : k < O.length := by have := HN.out; omega
      have hl2 : k < Wn.length := by have := HN.out; omega
      have hr1 := H.out.2.2.out _ (List.getElem_mem hl1)
      have hr2 := H.out.2.2.want _ (List.getElem_mem hl2)
      have heq : (O[k].bytes == Wn[k].bytes) = true := by
        have := congrArg (fun l => l[k]?) H.out.2.2.eq
        simp only [List.getElem?_map, List.getElem?_eq_getElem hl1, List.getElem?_eq_getElem hl2, Option.map_some, Option.some.injEq] at this
        simpa using this
      generalize O[k] = o1 at x0 hr1 heq
      generalize Wn[k] = o2 at x1 hr2 heq
      have HR := Lib.hid (And.intro hr1 (And.intro hr2 heq))
      clear hr1 hr2 heq
      go_wp2_with fail
      with_reducible refine (same_calls _ o1.addr o2.addr o1.n o2.n o1.cap o2.cap o1.bytes o2.bytes (HR.out.1.mod ((Mod.refl (fun _ => False) w).drewN q) fun _ _ h => h) (HR.out.2.1.mod ((Mod.refl (fun _ => False) w).drewN q) fun _ _ h => h)).mono ?_
      rintro e w' ⟨rfl, q2, rfl⟩
      rw [HR.out.2.2]
      go_wp2_with fail
      go_roundg (nw - (k + 1))
      case measure => omega
      case rel => exact ⟨k + 1, _, by omega, rfl, by go_num, rfl⟩
    · obtain rfl : k = nw := by omega
      go_wp2_with fail
      go_ret
      exact ⟨rfl, q, rfl⟩
end Go.Proofs.Ytoeaaomgilgncaa
