/-
  Intake, the law's helpers: same, alike.
-/
import Derived.Test.YtoeaaomgilgncaaBounds1
import Derived.Deep.DeepCutAuto
namespace Go.Proofs.Ytoeaaomgilgncaa
open Go.RowKit Go.Mem Go.Intake
set_option linter.unusedVariables false

set_option maxRecDepth 100000 in
theorem same_calls (w : World) (A B : Option Addr) (n m ca cb : Nat) (a b : List UInt8) (ha : RdB w A n ca a) (hb : RdB w B m cb b) :
    Calls Try.prog 32 #[.slice A n ca, .slice B m cb] w fun e w' => e = .returned (.bool (a == b)) ∧ ∃ q, w' = w.drewN q := by
  have hna := ha.blen
  have hnb := hb.blen
  have hle := ha.le
  have hmx := ha.max
  simp only [maxLen] at hmx
  have H := Lib.hid (And.intro ha (And.intro hb (And.intro hna hnb)))
  clear ha hb hna hnb
  go_enter Try.func32, Try.ntmps32
  by_cases hnm : n = m
  · subst hnm
    go_wp2
    go_loopg [13] n (fun g i wr => ∃ q k : Nat, k ≤ n ∧ g = n - k ∧ i = .int .i64 k ∧ wr = w.drewN q ∧ ∀ j, j < k → a[j]? = b[j]?)
    case atStart => exact ⟨0, 0, by omega, by omega, rfl, rfl, fun j hj => absurd hj (Nat.not_lt_zero _)⟩
    case round =>
      obtain ⟨q, k, hk, rfl, rfl, rfl, hno⟩ := hrel
      have HN := Lib.hid hno
      clear hno
      by_cases hlt : k < n
      · obtain ⟨g, off, rfl, _, hca⟩ := H.out.1.byte (by omega)
        obtain ⟨g2, off2, rfl, _, hcb⟩ := H.out.2.1.byte (by omega)
        have hka : k < a.length := by rw [H.out.2.2.1]; omega
        have hkb : k < b.length := by rw [H.out.2.2.2]; omega
        have h1 := hca k hka
        have h2 := hcb k hkb
        clear hca hcb
        by_cases he : a[k] = b[k]
        · have hb : (((a[k]).toNat : Int) != ((b[k]).toNat : Int)) = false := by rw [he]; simp
          have HE := Lib.hid he
          clear he
          go_wp2_with fail
          go_quiet (fail)
          go_wp2_with fail
          go_roundg (n - (k + 1))
          case measure => omega
          case rel =>
            refine ⟨_, k + 1, by omega, rfl, by go_num, by first | rfl | (rw [World.drewN_drewN]), fun j hj => ?_⟩
            rcases Nat.lt_or_ge j k with h | h
            · exact HN.out j h
            · obtain rfl : j = k := by omega
              rw [List.getElem?_eq_getElem hka, List.getElem?_eq_getElem hkb, HE.out]
        · have hb : (((a[k]).toNat : Int) != ((b[k]).toNat : Int)) = true := by
            have := u8_beq a[k] b[k]
            simp only [bne, this]
            simp [he]
          have HE := Lib.hid he
          clear he
          go_wp2_with fail
          go_quiet (fail)
          go_wp2_with fail
          go_ret
          refine ⟨?_, _, by first | rfl | (rw [World.drewN_drewN])⟩
          have : (a == b) = false := by
            rw [beq_eq_false_iff_ne]
            intro hab
            subst hab
            exact HE.out rfl
          rw [this]
          rfl
      · go_wp2
        go_ret
        refine ⟨?_, _, rfl⟩
        have : a = b := List.ext_getElem? fun j => by
          by_cases hj : j < k
          · exact HN.out j hj
          · rw [List.getElem?_eq_none (by rw [H.out.2.2.1]; omega), List.getElem?_eq_none (by rw [H.out.2.2.2]; omega)]
        rw [this]
        simp
  · have hb : ((n : Int) != (m : Int)) = true := by simp; omega
    go_wp2
    go_ret
    refine ⟨?_, 0, rfl⟩
    have : (a == b) = false := by
      rw [beq_eq_false_iff_ne]
      intro hab
      apply hnm
      rw [← H.out.2.2.1, ← H.out.2.2.2, hab]
    rw [this]
    rfl

/-- Two items, compared. -/
def alikeB (k1 k2 : Int) (t1 t2 : ByteArray) (a b : List UInt8) : Bool := k1 == k2 && t1.toList == t2.toList && a == b
set_option maxRecDepth 100000 in
theorem alike_calls (w : World) (k1 k2 : Int) (t1 t2 : ByteArray) (A B : Option Addr) (n m ca cb : Nat) (a b : List UInt8) (ha : RdB w A n ca a) (hb : RdB w B m cb b) :
    Calls Try.prog 20 #[.agg #[.int .i64 k1, .string t1, .slice A n ca], .agg #[.int .i64 k2, .string t2, .slice B m cb]] w fun e w' => e = .returned (.bool (alikeB k1 k2 t1 t2 a b)) ∧ Mod (fun _ => False) w w' := by
  have hm := ((Mod.refl (fun _ => False) w).alloc (.cells #[.int .i64 k1, .string t1, .slice A n ca] 54)).alloc (.cells #[.int .i64 k2, .string t2, .slice B m cb] 54)
  have ha' := ha.mod hm fun _ _ h => h
  have hb' := hb.mod hm fun _ _ h => h
  have H := Lib.hid (And.intro ha' (And.intro hb' hm))
  clear ha hb ha' hb' hm
  go_enter Try.func20, Try.ntmps20
  unfold alikeB
  by_cases hk : k1 = k2
  · subst hk
    cases ht : (t1.toList == t2.toList)
    · go_wp2_with fail
      go_ret
      refine ⟨?_, H.out.2.2⟩
      simp
    · go_wp2_with fail
      with_reducible refine (same_calls _ A B n m ca cb a b H.out.1 H.out.2.1).mono ?_
      rintro e w' ⟨rfl, q, rfl⟩
      go_wp2_with fail
      go_ret
      refine ⟨?_, H.out.2.2.drewN q⟩
      simp
  · have h1 : (k1 == k2) = false := by simpa using hk
    go_wp2_with fail
    go_ret
    refine ⟨?_, H.out.2.2⟩
    simp [h1]
end Go.Proofs.Ytoeaaomgilgncaa
