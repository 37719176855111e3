/-
  IntakeParts: its parts, and their bound.
-/
import Derived.Test.YtoeaaomgilgncaaWalks8
namespace Go.Proofs.Ytoeaaomgilgncaa
open Go.RowKit Go.Mem Go.Intake
set_option linter.unusedVariables false

/-! ### What a part is -/
structure Part where
  text : ByteArray
  body : Bool
  broken : Bool
  data : List UInt8
def PartAt (w : World) (g o : Nat) (a : Part) : Prop :=
  w.cell? ⟨g, o, none⟩ = some (.string a.text) ∧ w.cell? ⟨g, o + 1, none⟩ = some (.bool a.body) ∧ w.cell? ⟨g, o + 2, none⟩ = some (.bool a.broken) ∧
    (∃ A n cap, w.cell? ⟨g, o + 3, none⟩ = some (.slice A n cap) ∧ RdB w A n cap a.data) ∧ a.text.size ≤ 140737488355328
theorem PartAt.below {w w' : World} {g o : Nat} {a : Part} (h : PartAt w g o a) (hb : Below w.heap.size w w') : PartAt w' g o a := by
  obtain ⟨h0, h1, h2, ⟨A, n, cap, h3, h4⟩, h5⟩ := h
  have hg := World.block_lt_of_cell? _ _ h0
  exact ⟨(hb.cell (p := ⟨g, o, none⟩) hg).trans h0, (hb.cell (p := ⟨g, o + 1, none⟩) hg).trans h1, (hb.cell (p := ⟨g, o + 2, none⟩) hg).trans h2, ⟨A, n, cap, (hb.cell (p := ⟨g, o + 3, none⟩) hg).trans h3, h4.below hb⟩, h5⟩
abbrev Parts (w : World) (A : Option Addr) (n cap : Nat) (l : List Part) : Prop := RdS 4 (PartAt w) A n cap l
theorem Parts.below {w w' : World} {A : Option Addr} {n cap : Nat} {l : List Part} (h : Parts w A n cap l) (hb : Below w.heap.size w w') : Parts w' A n cap l := h.imp fun _ _ _ h => h.below hb

/-! ### parts -/
def partsIn (l : List Part) : Nat := (l.map fun a => a.text.size + a.data.length + 4).sum
def partsB (l : List Part) : Bool := decide (2147483647 < l.length + partsIn l)
theorem partsIn_take (l : List Part) (k : Nat) (h : k < l.length) : partsIn (l.take (k + 1)) = partsIn (l.take k) + (l[k].text.size + l[k].data.length + 4) := by
  unfold partsIn
  rw [List.take_succ_eq_append_getElem h, List.map_append, List.sum_append]
  simp
theorem partsIn_le (l : List Part) (k : Nat) : partsIn (l.take k) ≤ partsIn l := by
  unfold partsIn
  conv => rhs; rw [← List.take_append_drop k l]
  rw [List.map_append, List.sum_append]
  omega
set_option maxRecDepth 100000 in
theorem parts_calls (w : World) (A : Option Addr) (n cap : Nat) (l : List Part) (h : Parts w A n cap l) (hcap : cap ≤ 4398046511104) (hda : ∀ a ∈ l, a.data.length ≤ 140737488355328 ∧ a.text.size ≤ 140737488355328) : Calls Try.prog 21 #[.slice A n cap] w fun e w' => e = .returned (.bool (partsB l)) ∧ ∃ q, w' = w.drewN q := by
  have hl := h.len
  have hle := h.le
  have H := Lib.hid h
  have HL := Lib.hid hl
  clear h hl
  go_enter Try.func21, Try.ntmps21
  go_wp2
  go_loopg [3, 4] n (fun g s i wr => ∃ q k m : Nat, wr = w.drewN q ∧ k ≤ n ∧ g = n - k ∧ i = .int .i64 k ∧ s = .int .i64 m ∧ m = n + partsIn (l.take k) ∧ (k = 0 ∨ n + partsIn (l.take (k - 1)) ≤ 2147483647))
  case atStart => exact ⟨0, 0, n, rfl, by omega, by omega, rfl, rfl, by simp [partsIn], .inl rfl⟩
  case round =>
    obtain ⟨q, k, m, rfl, hk, rfl, rfl, rfl, hm, hbd⟩ := hrel
    have HB := Lib.hid (And.intro hm hbd)
    have hmb : m ≤ 297000000000000 := by
      rcases hbd with rfl | hb
      · simp [partsIn] at hm
        omega
      · rcases Nat.eq_zero_or_pos k with rfl | hp
        · simp [partsIn] at hm
          omega
        · have hk1 : k - 1 < l.length := by rw [HL.out]; omega
          have h1 := partsIn_take l (k - 1) hk1
          have h2 := hda l[k - 1] (List.getElem_mem hk1)
          rw [show k - 1 + 1 = k from by omega] at h1
          omega
    clear hm hbd
    have HD := Lib.hid hda
    clear hda
    by_cases hlt : k < n
    · by_cases hm2 : m ≤ 2147483647
      · have hra := H.out.at_ (by omega)
        obtain ⟨g, off, rfl, hat⟩ := hra
        have hkl : k < l.length := by rw [HL.out]; omega
        obtain ⟨hc0, _, _, ⟨Ad, nd, cd, hc3, hrd⟩, _⟩ := hat k hkl
        have hdl := hrd.blen
        have hdle := (HD.out l[k] (List.getElem_mem hkl)).1
        have htle := (HD.out l[k] (List.getElem_mem hkl)).2
        rw [hdl] at hdle
        have HN := Lib.hid (And.intro hdl (partsIn_take l k hkl))
        generalize l[k].text = tx at *
        clear hat hrd hdl
        go_wp2_with fail
        go_quiet (fail)
        go_wp2_with fail
        go_roundg (n - (k + 1))
        case measure => omega
        case rel =>
          refine ⟨_, k + 1, m + (tx.size + nd + 4), by first | rfl | (rw [World.drewN_drewN]), by omega, rfl, by go_num, by go_num, ?_, .inr ?_⟩
          · rw [HN.out.2, HN.out.1, HB.out.1]
            omega
          · rw [Nat.add_sub_cancel, ← HB.out.1]
            exact hm2
      · go_wp2
        go_ret
        refine ⟨?_, _, rfl⟩
        have : partsB l = true := by
          have := partsIn_le l k
          have := HB.out.1
          have := HL.out
          simp only [partsB, decide_eq_true_eq]
          omega
        rw [this]
        rfl
    · go_wp2
      go_ret
      refine ⟨?_, _, rfl⟩
      have : partsB l = decide (2147483647 < (m : Int)) := by
        have h1 := HB.out.1
        rw [List.take_of_length_le (by rw [HL.out]; omega)] at h1
        unfold partsB
        rw [HL.out, h1]
        congr 1
        simp only [eq_iff_iff]
        omega
      rw [this]
      rfl
