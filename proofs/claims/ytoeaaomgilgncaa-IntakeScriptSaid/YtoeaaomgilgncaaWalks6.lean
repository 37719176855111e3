/-
  The walks of the statements' own small functions: among, cut, beyond.
-/
import Derived.Test.YtoeaaomgilgncaaWalks5
namespace Go.Proofs.Ytoeaaomgilgncaa
open Go.RowKit Go.Mem Go.Intake
set_option linter.unusedVariables false

/-! ### among -/
def among (i n : Int) : Int := if n < 1 then 0 else i % n
theorem among_tmod (i n : Int) (hn : 1 ≤ n) : (if i.tmod n < 0 then i.tmod n + n else i.tmod n) = i % n := by
  have h1 := Int.tmod_lt_of_pos i (show 0 < n by omega)
  have h2 : -n < i.tmod n := Int.lt_tmod_of_pos i (by omega)
  have h3 : i.tmod n % n = i % n := by
    rw [Int.tmod_def, Int.sub_mul_emod_self_left]
  split
  · rw [← h3, ← Int.add_emod_right, Int.emod_eq_of_lt (by omega) (by omega)]
  · rw [← h3, Int.emod_eq_of_lt (by omega) (by omega)]
theorem among_range (i n : Int) (hn : 1 ≤ n) : 0 ≤ among i n ∧ among i n < n := by
  unfold among
  rw [if_neg (by omega)]
  exact ⟨Int.emod_nonneg _ (by omega), Int.emod_lt_of_pos _ (by omega)⟩
theorem among_calls (w : World) (i n : Int) (hi : -9223372036854775808 ≤ i ∧ i ≤ 9223372036854775807) (hn : n ≤ 9223372036854775807) : Calls Try.prog 19 #[.int .i64 i, .int .i64 n] w fun e w' => e = .returned (.int .i64 (among i n)) ∧ w = w' := by
  by_cases h1 : n < 1
  · have he : among i n = 0 := by simp [among, h1]
    have HE := Lib.hid he
    clear he
    go_enter Try.func19, Try.ntmps19
    go_wp2
    go_ret
    exact ⟨by rw [HE.out]; rfl, rfl⟩
  · have hlt := Int.tmod_lt_of_pos i (show 0 < n by omega)
    have hgt : -n < i.tmod n := Int.lt_tmod_of_pos i (by omega)
    have he : among i n = if i.tmod n < 0 then i.tmod n + n else i.tmod n := by rw [among_tmod _ _ (by omega)]; simp [among, h1]
    have HE := Lib.hid he
    clear he
    by_cases h2 : i.tmod n < 0
    · go_enter Try.func19, Try.ntmps19
      go_wp2
      go_ret
      exact ⟨by rw [HE.out, if_pos h2]; rfl, rfl⟩
    · go_enter Try.func19, Try.ntmps19
      go_wp2
      go_ret
      exact ⟨by rw [HE.out, if_neg (by omega)]; rfl, rfl⟩

/-! ### cut -/
def cut (l : List UInt8) : List UInt8 := match find l with | some k => l.take k | none => l
theorem find_none {l : List UInt8} (h : find l = none) (k : Nat) : ¬ (l[k]? = some 13 ∧ l[k + 1]? = some 10) := by
  induction l generalizing k with
  | nil => simp
  | cons a l ih =>
    cases l with
    | nil => simp
    | cons b r =>
      unfold find at h
      split at h
      · cases h
      · rename_i hab
        cases hf : find (b :: r) with
        | some j => rw [hf] at h; cases h
        | none =>
          cases k with
          | zero => simpa using hab
          | succ k => simpa using ih hf k
theorem find_some {l : List UInt8} {k : Nat} (h : find l = some k) : (l[k]? = some 13 ∧ l[k + 1]? = some 10) ∧ ∀ j, j < k → ¬ (l[j]? = some 13 ∧ l[j + 1]? = some 10) := by
  induction l generalizing k with
  | nil => cases h
  | cons a l ih =>
    cases l with
    | nil => cases h
    | cons b r =>
      unfold find at h
      split at h
      · rename_i hab
        cases h
        exact ⟨by simp [hab], fun j hj => absurd hj (Nat.not_lt_zero _)⟩
      · rename_i hab
        cases hf : find (b :: r) with
        | none => rw [hf] at h; cases h
        | some i =>
          rw [hf] at h
          cases h
          obtain ⟨h1, h2⟩ := ih hf
          refine ⟨by simpa using h1, fun j hj => ?_⟩
          cases j with
          | zero => simpa using hab
          | succ j => simpa using h2 j (Nat.lt_of_succ_lt_succ hj)
theorem find_is {l : List UInt8} {k : Nat} (h1 : l[k]? = some 13 ∧ l[k + 1]? = some 10) (h2 : ∀ j, j < k → ¬ (l[j]? = some 13 ∧ l[j + 1]? = some 10)) : find l = some k := by
  cases hf : find l with
  | none => exact absurd h1 (find_none hf k)
  | some j =>
    obtain ⟨h3, h4⟩ := find_some hf
    rcases Nat.lt_trichotomy j k with h | h | h
    · exact absurd h3 (h2 j h)
    · rw [h]
    · exact absurd h1 (h4 k h)
theorem find_not {l : List UInt8} (h2 : ∀ j, j + 1 < l.length → ¬ (l[j]? = some 13 ∧ l[j + 1]? = some 10)) : find l = none := by
  cases hf : find l with
  | none => rfl
  | some j =>
    have := find_lt hf
    exact absurd (find_some hf).1 (h2 j (by omega))
theorem byte_get (s : ByteArray) (k : Nat) (h : k < s.size) : s.data.toList[k]? = some s[k] := by
  have : k < s.data.toList.length := by rw [Array.length_toList]; exact h
  rw [List.getElem?_eq_getElem this]
  rfl
theorem extract_take (s : ByteArray) (k : Nat) (h : k ≤ s.size) : s.extract 0 k = ⟨(s.data.toList.take k).toArray⟩ := by
  apply ByteArray.ext
  apply Array.ext'
  rw [ByteArray.data_extract, Array.toList_extract]
  simp [List.extract]

theorem cut_calls (w : World) (s : ByteArray) (hs : s.size ≤ 140737488355328) : Calls Try.prog 22 #[.string s] w fun e w' => e = .returned (.string ⟨(cut s.data.toList).toArray⟩) ∧ w = w' := by
  have hl : s.data.toList.length = s.size := by rw [Array.length_toList]; rfl
  have HL := Lib.hid hl
  clear hl
  go_enter Try.func22, Try.ntmps22
  go_wp2
  go_loopg [3] s.size (fun g i wr => wr = w ∧ ∃ k : Nat, k ≤ s.size ∧ g = s.size - k ∧ i = .int .i64 k ∧ ∀ j, j < k → ¬ (s.data.toList[j]? = some 13 ∧ s.data.toList[j + 1]? = some 10))
  case atStart => exact ⟨rfl, 0, by omega, by omega, rfl, fun j hj => absurd hj (Nat.not_lt_zero _)⟩
  case round =>
    obtain ⟨rfl, k, hk, rfl, rfl, hno⟩ := hrel
    have HN := Lib.hid hno
    clear hno
    by_cases hlt : k + 1 < s.size
    · have hb0 := byte_get s k (by omega)
      have hb1 := byte_get s (k + 1) (by omega)
      have HB := Lib.hid (And.intro hb0 hb1)
      clear hb0 hb1
      go_wp2
      · go_ret
        have h1 : (s[k].toNat : Int) = 13 := by assumption
        have h2 : ((s[k + 1].toNat : Int) == 10) = true := by assumption
        have e0 : s[k] = 13 := eq_of_beq ((u8_beq s[k] 13).symm.trans (beq_iff_eq.2 h1))
        have e1 : s[k + 1] = 10 := eq_of_beq ((u8_beq s[k + 1] 10).symm.trans h2)
        have hf := find_is (l := s.data.toList) (k := k) ⟨by rw [HB.out.1, e0], by rw [HB.out.2, e1]⟩ HN.out
        refine ⟨?_, rfl⟩
        unfold cut
        rw [hf]
        show Ending.returned (.string (s.extract 0 k)) = _
        rw [extract_take s k (by omega)]
      all_goals
        go_roundg (s.size - (k + 1))
        case measure => omega
        case rel =>
          refine ⟨rfl, k + 1, by omega, rfl, by go_num, fun j hj => ?_⟩
          rcases Nat.lt_or_ge j k with h | h
          · exact HN.out j h
          · obtain rfl : j = k := by omega
            rintro ⟨h3, h4⟩
            rw [HB.out.1] at h3
            rw [HB.out.2] at h4
            simp only [Option.some.injEq] at h3 h4
            first
            | (have hx : ((s[j + 1].toNat : Int) == 10) = false := by assumption
               rw [h4] at hx
               exact absurd hx (by decide))
            | (have hx : ¬ (s[j].toNat : Int) = 13 := by assumption
               rw [h3] at hx
               exact absurd rfl hx)
    · have hd : decide ((k : Int) + 1 < (s.size : Int)) = false := by simp; omega
      go_wp2
      go_ret
      refine ⟨?_, rfl⟩
      have hf := find_not (l := s.data.toList) fun j hj => HN.out j (by rw [HL.out] at hj; omega)
      unfold cut
      rw [hf]
      rfl

/-! ### What a script is -/
structure Act where
  kind : Int
  at_ : Int
  n : Int
  data : List UInt8
/-- An act, as it lies in memory. -/
def ActAt (w : World) (g o : Nat) (a : Act) : Prop :=
  w.cell? ⟨g, o, none⟩ = some (.int .i64 a.kind) ∧ w.cell? ⟨g, o + 1, none⟩ = some (.int .i64 a.at_) ∧ w.cell? ⟨g, o + 2, none⟩ = some (.int .i64 a.n) ∧
    (∃ A n cap, w.cell? ⟨g, o + 3, none⟩ = some (.slice A n cap) ∧ RdB w A n cap a.data) ∧
    (-9223372036854775808 ≤ a.kind ∧ a.kind ≤ 9223372036854775807) ∧ (-9223372036854775808 ≤ a.at_ ∧ a.at_ ≤ 9223372036854775807) ∧ (-9223372036854775808 ≤ a.n ∧ a.n ≤ 9223372036854775807)
theorem ActAt.below {w w' : World} {g o : Nat} {a : Act} (h : ActAt w g o a) (hb : Below w.heap.size w w') : ActAt w' g o a := by
  obtain ⟨h0, h1, h2, ⟨A, n, cap, h3, h4⟩, h5⟩ := h
  have hg := World.block_lt_of_cell? _ _ h0
  exact ⟨(hb.cell (p := ⟨g, o, none⟩) hg).trans h0, (hb.cell (p := ⟨g, o + 1, none⟩) hg).trans h1, (hb.cell (p := ⟨g, o + 2, none⟩) hg).trans h2, ⟨A, n, cap, (hb.cell (p := ⟨g, o + 3, none⟩) hg).trans h3, h4.below hb⟩, h5⟩
abbrev Acts (w : World) (A : Option Addr) (n cap : Nat) (l : List Act) : Prop := RdS 4 (ActAt w) A n cap l
theorem Acts.below {w w' : World} {A : Option Addr} {n cap : Nat} {l : List Act} (h : Acts w A n cap l) (hb : Below w.heap.size w w') : Acts w' A n cap l := h.imp fun _ _ _ h => h.below hb

/-! ### beyond -/
def bytesIn (l : List Act) : Nat := (l.map fun a => a.data.length).sum
def beyond (l : List Act) : Bool := decide (2147483647 < l.length + bytesIn l)
theorem bytesIn_take (l : List Act) (k : Nat) (h : k < l.length) : bytesIn (l.take (k + 1)) = bytesIn (l.take k) + l[k].data.length := by
  unfold bytesIn
  rw [List.take_succ_eq_append_getElem h, List.map_append, List.sum_append]
  simp
theorem bytesIn_le (l : List Act) (k : Nat) : bytesIn (l.take k) ≤ bytesIn l := by
  unfold bytesIn
  conv => rhs; rw [← List.take_append_drop k l]
  rw [List.map_append, List.sum_append]
  omega
theorem beyond_calls (w : World) (A : Option Addr) (n cap : Nat) (l : List Act) (h : Acts w A n cap l) (hcap : cap ≤ 4398046511104) (hda : ∀ a ∈ l, a.data.length ≤ 140737488355328) : Calls Try.prog 7 #[.slice A n cap] w fun e w' => e = .returned (.bool (beyond l)) ∧ w = w' := by
  have hl := h.len
  have hle := h.le
  have H := Lib.hid h
  have HL := Lib.hid hl
  clear h hl
  go_enter Try.func7, Try.ntmps7
  go_wp2
  go_loopg [3, 4] n (fun g s i wr => wr = w ∧ ∃ k m : Nat, k ≤ n ∧ g = n - k ∧ i = .int .i64 k ∧ s = .int .i64 m ∧ m = n + bytesIn (l.take k) ∧ (k = 0 ∨ n + bytesIn (l.take (k - 1)) ≤ 2147483647))
  case atStart => exact ⟨rfl, 0, n, by omega, by omega, rfl, rfl, by simp [bytesIn], .inl rfl⟩
  case round =>
    obtain ⟨rfl, k, m, hk, rfl, rfl, rfl, hm, hbd⟩ := hrel
    have HB := Lib.hid (And.intro hm hbd)
    have hmb : m ≤ 147000000000000 := by
      rcases hbd with rfl | hb
      · simp [bytesIn] at hm
        omega
      · rcases Nat.eq_zero_or_pos k with rfl | hp
        · simp [bytesIn] at hm
          omega
        · have hk1 : k - 1 < l.length := by rw [HL.out]; omega
          have h1 := bytesIn_take l (k - 1) hk1
          have h2 := hda l[k - 1] (List.getElem_mem hk1)
          rw [show k - 1 + 1 = k from by omega] at h1
          omega
    clear hm hbd
    have HD := Lib.hid hda
    clear hda
    by_cases hlt : k < n
    · by_cases hm2 : m ≤ 2147483647
      · have hra := H.out.at_ (by omega)
        obtain ⟨g, off, rfl, hat⟩ := hra
        have hkl : k < l.length := by rw [HL.out]; omega
        obtain ⟨_, _, _, ⟨Ad, nd, cd, hc3, hrd⟩, _⟩ := hat k hkl
        have hdl := hrd.blen
        have hdle := HD.out l[k] (List.getElem_mem hkl)
        rw [hdl] at hdle
        have HN := Lib.hid hdl
        clear hat hrd hdl
        go_wp2
        go_roundg (n - (k + 1))
        case measure => omega
        case rel =>
          refine ⟨rfl, k + 1, m + nd, by omega, rfl, by go_num, by go_num, ?_, .inr ?_⟩
          · rw [bytesIn_take l k hkl, HN.out, HB.out.1]
            omega
          · rw [Nat.add_sub_cancel, ← HB.out.1]
            exact hm2
      · go_wp2
        go_ret
        refine ⟨?_, rfl⟩
        have : beyond l = true := by
          have := bytesIn_le l k
          have := HB.out.1
          have := HL.out
          simp only [beyond, decide_eq_true_eq]
          omega
        rw [this]
        rfl
    · go_wp2
      go_ret
      refine ⟨?_, rfl⟩
      have : beyond l = decide (2147483647 < (m : Int)) := by
        have h1 := HB.out.1
        rw [List.take_of_length_le (by rw [HL.out]; omega)] at h1
        unfold beyond
        rw [HL.out, h1]
        congr 1
        simp only [eq_iff_iff]
        omega
      rw [this]
      rfl
end Go.Proofs.Ytoeaaomgilgncaa
