/-
  The walks of package intake, further: skipBody, skipLine, Feed.
-/
import Derived.Test.YtoeaaomgilgncaaWalks1
namespace Go.Proofs.Ytoeaaomgilgncaa
open Go.RowKit Go.Mem Go.Intake
set_option linter.unusedVariables false

/-! ### cuts, as the walk meets them -/
theorem slice_lo (W : World) (A : Option Addr) (len cap n : Nat) (hn : n ≤ len) :
    (Instr.slice 30 (.slice A len cap) (some (.int .i64 n)) none none).run Try.prog W = .ok (.slice (cutA A cap n 1) (len - n) (cap - n)) W := by
  rw [run_slice_l (P := Try.prog) W 30 A len cap Try.underlying30 .i64 n (by omega) (by omega), Try.elt30.sizeOf]
  simp [Result.andThen, sliced, cutA]
theorem slice_hi (W : World) (A : Option Addr) (len cap n : Nat) (hn : n ≤ cap) :
    (Instr.slice 30 (.slice A len cap) none (some (.int .i64 n)) none).run Try.prog W = .ok (.slice A n cap) W := by
  rw [run_slice_h (P := Try.prog) W 30 A len cap Try.underlying30 .i64 n (by omega) (by omega), Try.elt30.sizeOf]
  simp [Result.andThen, sliced]
  cases A <;> simp [Addr.add]

/-! ### skipBody -/
theorem skipBody_calls (w : World) (p : Nat) (left : Int) (A : Option Addr) (len cap n : Nat) (h4 : w.cell? ⟨p, 4, none⟩ = some (.int .i64 left)) (f4 : w.frozen? ⟨p, 4, none⟩ = false)
    (hl0 : 0 ≤ left) (hl1 : left ≤ 4294967297) (hlen : len ≤ 9223372036854775807) (hn : (n : Int) = min left len) :
    Calls Try.prog 36 #[.pointer (some ⟨p, 0, none⟩), .slice A len cap] w fun e w' => e = .returned (.slice (cutA A cap n 1) (len - n) (cap - n)) ∧ w' = w.setCell ⟨p, 4, none⟩ (.int .i64 (left - n)) := by
  have hs2 : ∀ W, (Instr.slice 30 (.slice A len cap) (some (.int .i64 n)) none none).run Try.prog W = .ok (.slice (cutA A cap n 1) (len - n) (cap - n)) W := fun W => slice_lo W A len cap n (by omega)
  by_cases hlt : left ≤ len
  · obtain ⟨m, rfl⟩ := Int.eq_ofNat_of_zero_le hl0
    obtain rfl : n = m := by omega
    clear hn
    go_enter Try.func36, Try.ntmps36
    go_wp2
    go_ret
    exact ⟨rfl, by simp⟩
  · obtain rfl : n = len := by omega
    clear hn
    go_enter Try.func36, Try.ntmps36
    go_wp2
    go_ret
    exact ⟨by simp, rfl⟩

/-! ### skipLine -/
def SkipLinePost (w : World) (p : Nat) (A : Option Addr) (cap : Nat) (s : St) (Ab : Option Addr) (bs : List UInt8) (v : Value) (w' : World) : Prop :=
  ∃ Ar nr cr, v = .slice Ar nr cr ∧ RdB w' Ar nr cr (skipLine s.half bs).2.2 ∧ IsIn w' p A cap { s with half := (skipLine s.half bs).1, ended := (skipLine s.half bs).2.1 } ∧ Mod (fun k => k = p) w w' ∧ ∀ k, InB Ar k → InB Ab k
theorem IsIn.half {w : World} {p : Nat} {A : Option Addr} {cap : Nat} {s : St} (h : IsIn w p A cap s) (b : Bool) : IsIn (w.setCell ⟨p, 5, none⟩ (.bool b)) p A cap { s with half := b } :=
  ⟨by have := h.blk.store 5 (.bool b); simpa [InCells] using this, h.own.setCell _ _ h.apart, ⟨h.ok.1, h.ok.2, h.ok.3, h.ok.4⟩⟩
theorem IsIn.end_ {w : World} {p : Nat} {A : Option Addr} {cap : Nat} {s : St} (h : IsIn w p A cap s) (b : Bool) : IsIn (w.setCell ⟨p, 6, none⟩ (.bool b)) p A cap { s with ended := b } :=
  ⟨by have := h.blk.store 6 (.bool b); simpa [InCells] using this, h.own.setCell _ _ h.apart, ⟨h.ok.1, h.ok.2, h.ok.3, h.ok.4⟩⟩

theorem skipLine_at (h : Bool) (bs : List UInt8) (k : Nat) (hk : k < bs.length) : skipLine h (bs.drop k) = if h && bs[k] == 10 then (h, true, bs.drop (k + 1)) else skipLine (bs[k] == 13) (bs.drop (k + 1)) := by
  rw [List.drop_eq_getElem_cons hk]
  rfl

theorem skipLine_calls (w : World) (p : Nat) (A : Option Addr) (cap : Nat) (s : St) (h : IsIn w p A cap s) (hend : s.ended = false) (Ab : Option Addr) (n capb : Nat) (bs : List UInt8) (hb : RdB w Ab n capb bs)
    (hab : bs ≠ [] → ¬ InB Ab p) : Calls Try.prog 35 #[.pointer (some ⟨p, 0, none⟩), .slice Ab n capb] w (Gives (SkipLinePost w p A cap s Ab bs)) := by
  have hn := hb.blen
  have hle := hb.le
  have hmx := hb.max
  unfold maxLen at hmx
  go_enter Try.func35, Try.ntmps35
  have HN := Lib.hid hn
  clear hn
  have HE := Lib.hid hend
  clear hend
  go_wp2
  go_loopg [9] n (fun g i wr => ∃ k : Nat, k ≤ n ∧ g = n - k ∧ i = .int .i64 k ∧ ∃ hf, IsIn wr p A cap { s with half := hf } ∧ Mod (fun k => k = p) w wr ∧ skipLine s.half bs = skipLine hf (bs.drop k))
  case atStart => exact ⟨0, by omega, by omega, rfl, s.half, h, Mod.refl _ _, by simp⟩
  case round =>
    obtain ⟨k, hk, rfl, rfl, hf, hin, hmod, hsk⟩ := hrel
    have hn := HN.out
    by_cases hlt : k < n
    · have hne : bs ≠ [] := by
        intro e
        rw [e] at hn
        simp at hn
        omega
      have hrb : RdB wr Ab n capb bs := Rd.mod hb hmod fun j hj e => hab hne (e ▸ hj)
      obtain ⟨g, off, rfl, hg, hc⟩ := hrb.byte (by omega)
      have hck := hc k (by omega)
      clear hc
      obtain ⟨_, _, _, _, _, c5, c6⟩ := hin.cells
      have f5 := hin.frozen 5
      have f6 := hin.frozen 6
      have hs := skipLine_at hf bs k (by omega)
      generalize bs[k] = c at hck hs
      have HS := Lib.hid (hsk.trans hs)
      have HIN := Lib.hid hin
      clear hs hsk hin hn HN h
      have hs2 : ∀ W, (Instr.slice 30 (.slice (some ⟨g, off, none⟩) n capb) (some (.int .i64 ((k : Int) + 1))) none none).run Try.prog W = .ok (.slice (cutA (some ⟨g, off, none⟩) capb (k + 1) 1) (n - (k + 1)) (capb - (k + 1))) W := fun W =>
        slice_lo W _ n capb (k + 1) (by omega)
      go_wp2
      · -- the end of the line
        go_ret
        refine Gives.mk ?_
        unfold SkipLinePost
        have hc : (hf && c == 10) = true := by
          rename_i h1 h2
          rw [h1, ← u8_beq c 10]
          exact h2
        have hs := HS.out
        rw [if_pos hc] at hs
        have hfe : hf = true := by simp at hc; exact hc.1
        rw [hs]
        have hr2 : RdB wr (cutA (some ⟨g, off, none⟩) capb (k + 1) 1) (n - (k + 1)) (capb - (k + 1)) (bs.drop (k + 1)) := by
          have := hrb.bcut (k + 1) n (by omega) (Nat.le_refl _)
          rwa [List.take_of_length_le (by rw [List.length_drop, hrb.blen]; omega)] at this
        refine ⟨_, _, _, rfl, Rd.mod hr2 (Mod.set wr p 6 _) (fun j hj e => hab hne (e ▸ cutA_in hj)), ?_, hmod.trans (Mod.set wr p _ _), fun j hj => cutA_in hj⟩
        exact HIN.out.end_ true
      all_goals
        have hc : (hf && c == 10) = false := by
          first
          | (rename_i h1 h2
             rw [h1, ← u8_beq c 10]
             exact h2)
          | (rename_i h1
             rw [Bool.eq_false_iff.2 h1]
             rfl)
        have hs := HS.out
        rw [if_neg (by simp [hc])] at hs
        go_roundg (n - (k + 1))
        case measure => omega
        case rel =>
          refine ⟨k + 1, by omega, rfl, by go_num, c == 13, ?_, hmod.trans (Mod.set wr p _ _), hs⟩
          rw [show ((c.toNat : Int) == 13) = (c == 13) from u8_beq c 13]
          exact HIN.out.half _
    · have HS := Lib.hid hsk
      have HIN := Lib.hid hin
      go_wp2
      go_ret
      refine Gives.mk ?_
      unfold SkipLinePost
      obtain rfl : k = n := by omega
      have e : bs.drop k = [] := List.drop_eq_nil_of_le (by omega)
      have hs := HS.out
      rw [e] at hs
      rw [hs]
      refine ⟨none, 0, 0, rfl, Rd.nil _ _, ?_, hmod, fun j hj => by simp at hj⟩
      have := HIN.out
      simp only [skipLine]
      rw [HE.out] at this
      exact this

/-! ### Feed -/
theorem skipLine_len (h : Bool) (bs : List UInt8) : (skipLine h bs).2.2.length ≤ bs.length := by
  induction bs generalizing h with
  | nil => simp [skipLine]
  | cons c r ih =>
    simp only [skipLine]
    split
    · simp
    · exact Nat.le_trans (ih _) (by simp)

theorem IsIn.held_ {w w' : World} {p : Nat} {A A' : Option Addr} {cap cap' : Nat} {s : St} {l : List UInt8} (h : IsIn w p A cap s) {S : Nat → Prop} (hm : Mod S w w') (hp : ¬ S p) (ho : OwnB w' 5 A' l.length cap' l) (hap : ¬ InB A' p) :
    IsIn (w'.setCell ⟨p, 2, none⟩ (.slice A' l.length cap')) p A' cap' { s with held := l } :=
  ⟨by have := (h.blk.mod hm hp).store 2 (.slice A' l.length cap'); simpa [InCells] using this, ho.setCell _ _ hap, ⟨h.ok.1, h.ok.2, h.ok.3, h.ok.4⟩⟩

def FeedPost (w : World) (p : Nat) (A : Option Addr) (s : St) (bs : List UInt8) (v : Value) (w' : World) : Prop :=
  ∃ A' cap', v = .tuple #[] ∧ IsIn w' p A' cap' (feed s bs) ∧ Mod (foot p A) w w' ∧ ∀ k, InB A' k → InB A k ∨ w.heap.size ≤ k

/-- What the append leaves. -/
theorem feed_tail {w w1 w2 : World} {p : Nat} {A A' : Option Addr} {cap cap' n : Nat} {s s1 : St} {bs rs : List UInt8} (hm : Mod (foot p A) w w1) (h1 : IsIn w1 p A cap s1) (hn : s1.held.length + rs.length = n) (ho : Own w2 5 1 A' n cap' (bc s1.held ++ bc rs)) (hm2 : Mod (InB A) w1 w2)
    (hin : ∀ k, InB A' k → InB A k ∨ w1.heap.size ≤ k) (hf : feed s bs = { s1 with held := s1.held ++ rs }) :
    Gives (FeedPost w p A s bs) (.returned (.tuple #[])) (w2.setCell ⟨p, 2, none⟩ (.slice A' n cap')) := by
  subst hn
  have hp : ¬ InB A p := h1.apart
  have hp' : ¬ InB A' p := fun hk => by
    rcases hin p hk with hk | hk
    · exact hp hk
    · have := h1.blk.lt
      omega
  refine Gives.mk ⟨A', cap', rfl, ?_, ?_, fun k hk => ?_⟩
  · rw [hf]
    have ho' : OwnB w2 5 A' (s1.held ++ rs).length cap' (s1.held ++ rs) := by
      rw [List.length_append, OwnB, bc_append]
      exact ho
    have := h1.held_ hm2 hp ho' hp'
    rwa [List.length_append] at this
  · exact hm.trans' ((hm2.mono (S' := foot p A) fun i _ h => .inr h).trans' ((Mod.set w2 p 2 _).mono (S' := foot p A) fun i _ h => .inl h) fun _ _ h => h) fun _ _ h => h
  · rcases hin k hk with hk | hk
    · exact .inl hk
    · exact .inr (Nat.le_trans hm.size hk)

theorem Feed_calls (w : World) (p : Nat) (A : Option Addr) (cap : Nat) (s : St) (h : IsIn w p A cap s) (Ab : Option Addr) (n capb : Nat) (bs : List UInt8) (hb : RdB w Ab n capb bs) (hab : bs ≠ [] → ¬ InB Ab p)
    (hsz : s.held.length + n ≤ 140737488355328) : Calls Try.prog 17 #[.pointer (some ⟨p, 0, none⟩), .slice Ab n capb] w (Gives (FeedPost w p A s bs)) := by
  have hn := hb.blen
  obtain ⟨_, c1, c2, _, c4, _, c6⟩ := h.cells
  have f2 := h.frozen 2
  by_cases hs : s.stands = 1 ∧ s.ended = false
  · -- in a long line
    obtain ⟨hs1, hs2⟩ := hs
    have hlen := skipLine_len s.half bs
    go_enter Try.func17, Try.ntmps17
    have H := Lib.hid (And.intro h (And.intro hb hn))
    rw [hs1] at c1
    rw [hs2] at c6
    have HE := Lib.hid (And.intro hs1 hs2)
    clear h hb hn hs1 hs2
    go_wp2_with fail
    refine (skipLine_calls w p A cap s H.out.1 HE.out.2 Ab n capb bs H.out.2.1 hab).mono ?_
    rintro e w1 ⟨v, rfl, Ar, nr, cr, rfl, hr, hin, hmod, hA⟩
    have hrn := hr.blen
    obtain ⟨k0, k1, k2, k3, k4, k5, k6⟩ := hin.cells
    have g2 := hin.frozen 2
    simp only [] at k1 k2
    rw [HE.out.1] at k1
    clear k0 k3 k4 k5 k6 c1 c2 c4 c6 f2
    have ho := hin.own
    simp only [] at ho
    have HIN := Lib.hid hin
    have HR := Lib.hid hrn
    have hnr : nr ≤ n := by rw [← hrn, ← H.out.2.2]; exact hlen
    clear hin hrn
    go_wp2_with (at_builtin; refine wpList_append _ rfl (.tmp 33) (.tmp 34) 30 30 rfl Try.elt30 A s.held.length cap (bc s.held) rfl ho _ nr (bc (skipLine s.half bs).2.2) rfl (Rd.src hr Try.underlying30 (bc_one _)) ?h63 ?hby ?_)
    case h63 => unfold maxLen; omega
    case hby => omega
    intro A' cap' w2 ho2 hmod2 hin2 _
    have j2 := hmod2.cell k2 HIN.out.apart
    have jf : w2.frozen? ⟨p, 2, none⟩ = false := (HIN.out.blk.mod hmod2 HIN.out.apart).frozen 2 (by simp [InCells])
    clear k1 k2 g2
    go_wp2
    go_end0
    refine feed_tail (hmod.mono fun i _ hi => .inl hi) HIN.out (by simp only []; rw [HR.out]) ho2 hmod2 hin2 ?_
    unfold feed
    rw [if_pos HE.out]
  · have hfr : feed s bs = feed s bs := rfl
    by_cases hs3 : s.stands = 3
    · -- at a big body
      have hok := h.ok.left
      have hmx := h.own.max
      have hle := h.own.le
      unfold maxLen at hmx
      obtain ⟨q, hq⟩ := Int.eq_ofNat_of_zero_le (a := min s.left (bs.length : Int)) (by omega)
      have hbm := hb.max
      have hble := hb.le
      unfold maxLen at hbm
      have hcut := hb.bcut q n (by omega) (Nat.le_refl _)
      rw [List.take_of_length_le (by rw [List.length_drop]; omega)] at hcut
      go_enter Try.func17, Try.ntmps17
      have H := Lib.hid (And.intro h (And.intro hb hn))
      have HE := Lib.hid (And.intro hs hs3)
      have HC := Lib.hid (And.intro hcut hq)
      rw [hs3] at c1
      have f4 := h.frozen 4
      clear h hb hn hs hs3 c6 hcut hq hfr
      go_wp2_with fail
      refine (skipBody_calls w p s.left Ab n capb q c4 f4 hok.1 hok.2 (by omega) (by rw [← HC.out.2, H.out.2.2])).mono ?_
      rintro e w1 ⟨rfl, rfl⟩
      have hin : IsIn (w.setCell ⟨p, 4, none⟩ (.int .i64 (s.left - q))) p A cap { s with left := s.left - q } := by
        have h := H.out.1
        have hq := HC.out.2
        refine ⟨by have := h.blk.store 4 (.int .i64 (s.left - q)); simpa [InCells] using this, h.own.setCell _ _ h.apart, ⟨h.ok.1, h.ok.2, h.ok.3, ?_⟩⟩
        have := h.ok.left
        simp only []
        omega
      have hmod : Mod (foot p A) w (w.setCell ⟨p, 4, none⟩ (.int .i64 (s.left - q))) := (Mod.set w p 4 _).mono fun i _ hi => .inl hi
      have hcut := Rd.mod' HC.out.1 (Mod.set w p 4 (.int .i64 (s.left - q))) fun hne k hk e => hab (fun h => hne (by rw [h]; simp)) (e ▸ cutA_in hk)
      generalize w.setCell ⟨p, 4, none⟩ (.int .i64 (s.left - q)) = w1 at hin hmod hcut
      obtain ⟨k0, k1, k2, k3, k4, k5, k6⟩ := hin.cells
      have g2 := hin.frozen 2
      simp only [] at k1 k2
      have ho := hin.own
      simp only [] at ho
      have HIN := Lib.hid hin
      have hql : q ≤ n := by have := HC.out.2; have := H.out.2.2; omega
      clear k0 k3 k4 k5 k6 c1 c2 c4 f2 f4 hin
      go_wp2_with (at_builtin; refine wpList_append _ rfl (.tmp 33) (.tmp 34) 30 30 rfl Try.elt30 A s.held.length cap (bc s.held) rfl ho _ (n - q) (bc (bs.drop q)) rfl (Rd.src hcut Try.underlying30 (bc_one _)) ?h63 ?hby ?_)
      case h63 => unfold maxLen; omega
      case hby => omega
      intro A' cap' w2 ho2 hmod2 hin2 _
      have j2 := hmod2.cell k2 HIN.out.apart
      have jf : w2.frozen? ⟨p, 2, none⟩ = false := (HIN.out.blk.mod hmod2 HIN.out.apart).frozen 2 (by simp [InCells])
      clear k1 k2 g2
      go_wp2
      go_end0
      refine feed_tail hmod HIN.out (by simp only []; rw [List.length_drop, H.out.2.2]) ho2 hmod2 hin2 ?_
      unfold feed
      rw [if_neg HE.out.1, if_pos HE.out.2, HC.out.2]
      simp
    · -- all is held
      have hmx := h.own.max
      have hle := h.own.le
      unfold maxLen at hmx
      have ho := h.own
      have hbm := hb.max
      have hble := hb.le
      unfold maxLen at hbm
      have H := Lib.hid (And.intro h (And.intro hb hn))
      have HE := Lib.hid (And.intro hs hs3)
      have hcut := hb
      by_cases h1 : s.stands = 1
      · have h6 : s.ended = true := by
          cases hx : s.ended with
          | true => rfl
          | false => exact absurd ⟨h1, hx⟩ hs
        rw [h1] at c1
        rw [h6] at c6
        clear h hb hn hs hs3 hfr h1 h6
        go_enter Try.func17, Try.ntmps17
        go_wp2_with (at_builtin; refine wpList_append _ rfl (.tmp 33) (.tmp 34) 30 30 rfl Try.elt30 A s.held.length cap (bc s.held) rfl ho _ n (bc bs) rfl (Rd.src hcut Try.underlying30 (bc_one _)) ?h63 ?hby ?_)
        case h63 => unfold maxLen; omega
        case hby => omega
        intro A' cap' w2 ho2 hmod2 hin2 _
        have j2 := hmod2.cell c2 H.out.1.apart
        have jf : w2.frozen? ⟨p, 2, none⟩ = false := (H.out.1.blk.mod hmod2 H.out.1.apart).frozen 2 (by simp [InCells])
        clear c1 c2 f2
        go_wp2
        go_end0
        refine feed_tail (Mod.refl _ w) H.out.1 (by rw [H.out.2.2]) ho2 hmod2 hin2 ?_
        unfold feed
        rw [if_neg HE.out.1, if_neg HE.out.2]
      · have t1 : (s.stands == 1) = false := by simpa using h1
        have t3 : (s.stands == 3) = false := by simpa using hs3
        clear h hb hn hs hs3 hfr h1
        go_enter Try.func17, Try.ntmps17
        go_wp2_with (at_builtin; refine wpList_append _ rfl (.tmp 33) (.tmp 34) 30 30 rfl Try.elt30 A s.held.length cap (bc s.held) rfl ho _ n (bc bs) rfl (Rd.src hcut Try.underlying30 (bc_one _)) ?h63 ?hby ?_)
        case h63 => unfold maxLen; omega
        case hby => omega
        intro A' cap' w2 ho2 hmod2 hin2 _
        have j2 := hmod2.cell c2 H.out.1.apart
        have jf : w2.frozen? ⟨p, 2, none⟩ = false := (H.out.1.blk.mod hmod2 H.out.1.apart).frozen 2 (by simp [InCells])
        clear c1 c2 f2
        go_wp2
        go_end0
        refine feed_tail (Mod.refl _ w) H.out.1 (by rw [H.out.2.2]) ho2 hmod2 hin2 ?_
        unfold feed
        rw [if_neg HE.out.1, if_neg HE.out.2]
end Go.Proofs.Ytoeaaomgilgncaa
