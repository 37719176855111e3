/-
  IntakeScript: the walks of the document's intake: New, Held, Feed.
-/
import Derived.Test.YtoeaaomgilgncaaWalks8
import Derived.Test.YtoeaaomgilgncaaRefModel
import Derived.Test.YtoeaaomgilgncaaBase2
import Derived.Test.YtoeaaomgilgncaaConv
import Derived.Test.YtoeaaomgilgncaaSep
namespace Go.Proofs.Ytoeaaomgilgncaa
open Go.RowKit Go.Mem Go.Intake
set_option linter.unusedVariables false

def RCells (r : RS) (A : Option Addr) (cap : Nat) : List Value := [.int .i64 r.most, .int .i64 r.mode, .slice A r.held.length cap, .int .i64 r.n, .bool r.cr, .bool r.ended]
structure RIn (w : World) (p : Nat) (A : Option Addr) (cap : Nat) (r : RS) : Prop where
  blk : Blk w p (RCells r A cap) 78
  own : OwnB w 5 A r.held.length cap r.held
  ok : r.Ok
section
variable {w W : World} {p : Nat} {A : Option Addr} {cap : Nat} {r : RS}
theorem RIn.apart (h : RIn w p A cap r) : ¬ InB A p := by
  intro hk
  obtain ⟨_, _, _, ⟨rfl, _⟩ | ⟨g, off, cur, rfl, hb, _⟩⟩ := h.own
  · simp at hk
  · simp at hk
    subst hk
    exact absurd (hb.eq h.blk).2 (by decide)
theorem RIn.mod {S : Nat → Prop} (h : RIn w p A cap r) (hm : Mod S w W) (hn : ∀ k, foot p A k → ¬ S k) : RIn W p A cap r :=
  ⟨h.blk.mod hm (hn p (.inl rfl)), h.own.mod hm fun k hk => hn k (.inr hk), h.ok⟩
theorem RIn.lt (h : RIn w p A cap r) (k : Nat) (hk : foot p A k) : k < w.heap.size := by
  rcases hk with rfl | hk
  · exact h.blk.lt
  · exact h.own.lt k hk
theorem RIn.cells (h : RIn w p A cap r) :
    w.cell? ⟨p, 0, none⟩ = some (.int .i64 r.most) ∧ w.cell? ⟨p, 1, none⟩ = some (.int .i64 r.mode) ∧ w.cell? ⟨p, 2, none⟩ = some (.slice A r.held.length cap) ∧ w.cell? ⟨p, 3, none⟩ = some (.int .i64 r.n) ∧
    w.cell? ⟨p, 4, none⟩ = some (.bool r.cr) ∧ w.cell? ⟨p, 5, none⟩ = some (.bool r.ended) := by
  simp [h.blk.cell, RCells]
theorem RIn.frozen (h : RIn w p A cap r) (o : Nat) (ho : o < 6 := by decide) : w.frozen? ⟨p, o, none⟩ = false := h.blk.frozen o (by simpa [RCells] using ho)
/-- A store into a field that is no slice. -/
theorem RIn.put (h : RIn w p A cap r) (i : Nat) (v : Value) (r' : RS) (hc : RCells r' A cap = (RCells r A cap).set i v) (hh : r'.held = r.held) (ho : r'.Ok) : RIn (w.setCell ⟨p, i, none⟩ v) p A cap r' :=
  ⟨by rw [hc]; exact h.blk.store i v, by rw [hh]; exact h.own.setCell _ _ h.apart, ho⟩
/-- A store of another slice. -/
theorem RIn.held_ {A' : Option Addr} {cap' : Nat} {l : List UInt8} {S : Nat → Prop} (h : RIn w p A cap r) (hm : Mod S w W) (hp : ¬ S p) (ho : OwnB W 5 A' l.length cap' l) (hap : ¬ InB A' p) :
    RIn (W.setCell ⟨p, 2, none⟩ (.slice A' l.length cap')) p A' cap' { r with held := l } :=
  ⟨by have := (h.blk.mod hm hp).store 2 (.slice A' l.length cap'); simpa [RCells] using this, ho.setCell _ _ hap, ⟨h.ok.mode, h.ok.n⟩⟩
end

/-- What a call on the document's intake leaves. -/
def RPost (w : World) (p : Nat) (A : Option Addr) (r : RS) (w' : World) : Prop :=
  ∃ A' cap', RIn w' p A' cap' r ∧ Mod (foot p A) w w' ∧ ∀ k, InB A' k → InB A k ∨ w.heap.size ≤ k

theorem RNew_no (w : World) (m : Int) (h : m < 1 ∨ 65535 < m) : Calls Try.prog 28 #[.int .i64 m] w fun e w' => e = .returned (.tuple #[.pointer none, .int .i64 60]) ∧ w = w' := by
  go_enter Try.func28, Try.ntmps28
  rcases h with h | h
  · go_wp2
    go_ret2
    exact ⟨rfl, rfl⟩
  · by_cases h1 : m < 1
    · go_wp2
      go_ret2
      exact ⟨rfl, rfl⟩
    · go_wp2
      go_ret2
      exact ⟨rfl, rfl⟩
theorem RNew_ok (w : World) (m : Int) (h1 : 1 ≤ m) (h2 : m ≤ 65535) :
    Calls Try.prog 28 #[.int .i64 m] w fun e w' => e = .returned (.tuple #[.pointer (some ⟨w.heap.size, 0, none⟩), .int .i64 0]) ∧ w' = w.alloc (.cells (RCells (rnew m) none 0).toArray 78) := by
  go_enter Try.func28, Try.ntmps28
  go_wp2
  go_ret2
  exact ⟨rfl, rfl⟩
theorem RHeld_calls (w : World) (p : Nat) (A : Option Addr) (cap : Nat) (r : RS) (h : RIn w p A cap r) : Calls Try.prog 14 #[.pointer (some ⟨p, 0, none⟩)] w fun e w' => e = .returned (.int .i64 r.held.length) ∧ w = w' := by
  obtain ⟨_, _, c2, _⟩ := h.cells
  have hl := h.own.le
  have hm := h.own.max
  unfold maxLen at hm
  clear h
  go_enter Try.func14, Try.ntmps14
  go_wp2
  go_ret
  exact ⟨rfl, rfl⟩

theorem rfeed_take (r : RS) (bs : List UInt8) (k : Nat) (hk : k < bs.length) : rfeed r (bs.take (k + 1)) = rone (rfeed r (bs.take k)) bs[k] := by
  rw [List.take_succ_eq_append_getElem hk, rfeed_app]
  rfl

set_option maxRecDepth 100000 in
set_option maxHeartbeats 1000000 in
theorem RFeed_calls (w : World) (p : Nat) (A : Option Addr) (cap : Nat) (r : RS) (h : RIn w p A cap r) (Ab : Option Addr) (n capb : Nat) (bs : List UInt8) (hb : RdB w Ab n capb bs) (hab : bs ≠ [] → ∀ k, InB Ab k → k < w.heap.size ∧ ¬ foot p A k)
    (hsz : r.held.length + n ≤ 140737488355328) : Calls Try.prog 41 #[.pointer (some ⟨p, 0, none⟩), .slice Ab n capb] w (Gives fun v w' => v = .tuple #[] ∧ RPost w p A (rfeed r bs) w') := by
  have hn := hb.blen
  have hle := hb.le
  have hmx := hb.max
  unfold maxLen at hmx
  have H := Lib.hid (And.intro hb (And.intro hab hn))
  have HS : Hid (∃ A' cap', RIn w p A' cap' (rfeed r (bs.take 0)) ∧ Mod (foot p A) w w ∧ (∀ k, InB A' k → InB A k ∨ w.heap.size ≤ k)) := ⟨A, cap, h, Mod.refl _ _, fun k hk => .inl hk⟩
  clear h hb hab hn
  go_enter Try.func41, Try.ntmps41
  go_wp2_with fail
  go_loopg [8] n (fun g i wr => ∃ k : Nat, k ≤ n ∧ g = n - k ∧ i = .int .i64 k ∧ Hid (∃ A' cap', RIn wr p A' cap' (rfeed r (bs.take k)) ∧ Mod (foot p A) w wr ∧ (∀ k, InB A' k → InB A k ∨ w.heap.size ≤ k)))
  case atStart => exact ⟨0, by omega, by omega, rfl, HS⟩
  case round =>
    clear HS
    obtain ⟨k, hk, rfl, rfl, HS⟩ := hrel
    obtain ⟨A1, cap1, hin, hmod, hA⟩ := HS.out
    have hn := H.out.2.2
    by_cases hlt : k < n
    · have hne : bs ≠ [] := by
        intro e
        rw [e] at hn
        simp at hn
        omega
      have hab := H.out.2.1 hne
      have hrb : RdB wr Ab n capb bs := Rd.mod H.out.1 hmod fun j hj => (hab j hj).2
      obtain ⟨g, off, rfl, hg, hc⟩ := hrb.byte (by omega)
      have hck := hc k (by omega)
      have hs := rfeed_take r bs k (by omega)
      have hlen := rfeed_held r (bs.take k)
      have htk : (bs.take k).length ≤ k := List.length_take_le _ _
      clear hc HS
      generalize bs[k] = c at hck hs
      generalize rfeed r (bs.take k) = r1 at hin hs hlen
      have HS := Lib.hid hs
      clear hs
      obtain ⟨_, c1, c2, c3, c4, c5⟩ := hin.cells
      have f2 := hin.frozen 2
      have f3 := hin.frozen 3
      have f4 := hin.frozen 4
      have f5 := hin.frozen 5
      have hl1 := hin.own.le
      have hm1 := hin.own.max
      have hn1 := hin.ok.n
      unfold maxLen at hm1
      have HX := Lib.hid (And.intro hin (And.intro hmod (And.intro hA hrb)))
      clear hin hmod hA hrb hab hn
      by_cases hA1 : r1.mode = 1 ∧ r1.ended = false
      · obtain ⟨h1, he⟩ := hA1
        rw [h1] at c1
        rw [he] at c5
        have hone : rone r1 c = { r1 with ended := r1.cr && c == 10, cr := c == 13 } := by unfold rone; rw [if_pos ⟨h1, he⟩]
        have HO := Lib.hid hone
        clear hone he
        have hput : Hid (RIn ((wr.setCell ⟨p, 5, none⟩ (.bool (r1.cr && c == 10))).setCell ⟨p, 4, none⟩ (.bool (c == 13))) p A1 cap1 { r1 with ended := r1.cr && c == 10, cr := c == 13 }) :=
          (HX.out.1.put 5 (.bool (r1.cr && c == 10)) { r1 with ended := r1.cr && c == 10 } (by simp [RCells]) rfl ⟨HX.out.1.ok.mode, HX.out.1.ok.n⟩).put 4 (.bool (c == 13)) { r1 with ended := r1.cr && c == 10, cr := c == 13 } (by simp [RCells]) rfl ⟨HX.out.1.ok.mode, HX.out.1.ok.n⟩
        have hm2 : Hid (Mod (foot p A) w ((wr.setCell ⟨p, 5, none⟩ (.bool (r1.cr && c == 10))).setCell ⟨p, 4, none⟩ (.bool (c == 13)))) :=
          (HX.out.2.1.setCell (p := ⟨p, 5, none⟩) (fun _ => .inl rfl) _).setCell (p := ⟨p, 4, none⟩) (fun _ => .inl rfl) _
        have hfin : Hid (RIn ((wr.setCell ⟨p, 5, none⟩ (.bool (r1.cr && c == 10))).setCell ⟨p, 4, none⟩ (.bool (c == 13))) p A1 cap1 (rfeed r (bs.take (k + 1)))) := by rw [HS.out, HO.out]; exact hput.out
        clear hput HS HO
        rw [← u8_beq c 10, ← u8_beq c 13] at hfin hm2
        generalize r1.cr = b at c4 hfin hm2
        cases b
        · simp only [Bool.false_and] at hfin hm2
          go_wp2_with fail
          go_roundg (n - (k + 1))
          case measure => omega
          case rel => exact ⟨k + 1, by omega, rfl, by go_num, _, _, hfin.out, hm2.out, HX.out.2.2.1⟩
        · simp only [Bool.true_and] at hfin hm2
          go_wp2_with fail
          go_roundg (n - (k + 1))
          case measure => omega
          case rel => exact ⟨k + 1, by omega, rfl, by go_num, _, _, hfin.out, hm2.out, HX.out.2.2.1⟩
      · by_cases hA3 : r1.mode = 3 ∧ 0 < r1.n
        · obtain ⟨h3, h0⟩ := hA3
          rw [h3] at c1
          have hone : rone r1 c = { r1 with n := r1.n - 1 } := by unfold rone; rw [if_neg (by rw [h3]; simp), if_pos ⟨h3, h0⟩]
          have hput : Hid (RIn (wr.setCell ⟨p, 3, none⟩ (.int .i64 (r1.n - 1))) p A1 cap1 (rfeed r (bs.take (k + 1)))) := by
            rw [HS.out, hone]
            exact HX.out.1.put 3 _ { r1 with n := r1.n - 1 } (by simp [RCells]) rfl ⟨HX.out.1.ok.mode, by simp only []; omega⟩
          have hm2 : Hid (Mod (foot p A) w (wr.setCell ⟨p, 3, none⟩ (.int .i64 (r1.n - 1)))) := HX.out.2.1.setCell (p := ⟨p, 3, none⟩) (fun _ => .inl rfl) _
          clear hone HS h3 hA1
          go_wp2_with fail
          go_roundg (n - (k + 1))
          case measure => omega
          case rel => exact ⟨k + 1, by omega, rfl, by go_num, _, _, hput.out, hm2.out, HX.out.2.2.1⟩
        · have hone : Hid (rfeed r (bs.take (k + 1)) = { r1 with held := r1.held ++ [c] }) := Lib.hid (by rw [HS.out]; unfold rone; rw [if_neg hA1, if_neg hA3])
          have hways : (r1.mode = 1 ∧ r1.ended = true) ∨ (r1.mode = 3 ∧ r1.n = 0) ∨ ((r1.mode == 1) = false ∧ (r1.mode == 3) = false) := by
            by_cases e1 : r1.mode = 1
            · exact .inl ⟨e1, by simpa [e1] using hA1⟩
            · by_cases e3 : r1.mode = 3
              · exact .inr (.inl ⟨e3, by simp only [e3, true_and] at hA3; omega⟩)
              · exact .inr (.inr ⟨by simpa using e1, by simpa using e3⟩)
          clear HS hA1 hA3
          have hlr : r1.held.length + 1 ≤ 140737488355328 := by omega
          rcases hways with ⟨e1, e2⟩ | ⟨e1, e2⟩ | ⟨e1, e2⟩
          · rw [e1] at c1
            rw [e2] at c5
            clear e1 e2
            go_wp2_with (at_builtin; refine wpList_append _ rfl (.tmp 63) (.tmp 65) 30 30 rfl Try.elt30 A1 r1.held.length cap1 (bc r1.held) rfl (HX.out.1.own.alloc _) (.slice (some ⟨wr.heap.size, 0, none⟩) 1 1) 1 (bc [c]) rfl (Rd.src (Own.row _ 5 1 1 (bc [c]) rfl (by decide)).rd Try.underlying30 (bc_one _)) ?h63 ?hby ?_)
            case h63 => unfold maxLen; omega
            case hby => omega
            intro A' cap' w2 ho2 hmod2 hin2 _
            have hfp : ¬ InB A1 p := HX.out.1.apart
            have hm1a : Mod (InB A1) wr w2 := ((Mod.refl _ wr).alloc _).trans hmod2
            have j2 := hm1a.cell c2 hfp
            have jf : w2.frozen? ⟨p, 2, none⟩ = false := (HX.out.1.blk.mod hm1a hfp).frozen 2 (by simp [RCells])
            have hnp : ¬ InB A' p := fun hf => by
              rcases hin2 p hf with hf | hf
              · exact hfp hf
              · have := HX.out.1.blk.lt
                omega
            have hr2 := HX.out.1.held_ (A' := A') (cap' := cap') (l := r1.held ++ [c]) hm1a hfp (by unfold OwnB; rw [bc_append, List.length_append]; exact ho2) hnp
            rw [← hone.out] at hr2
            rw [List.length_append] at hr2
            have hm3 : Mod (foot p A) w (w2.setCell ⟨p, 2, none⟩ (.slice A' (r1.held.length + [c].length) cap')) := (HX.out.2.1.trans' hm1a fun i hi hf => by
              rcases HX.out.2.2.1 i hf with h | h
              · exact .inr h
              · omega).setCell (p := ⟨p, 2, none⟩) (fun _ => .inl rfl) _
            have hA3 : ∀ k, InB A' k → InB A k ∨ w.heap.size ≤ k := fun k hk => by
              rcases hin2 k hk with hk | hk
              · exact HX.out.2.2.1 k hk
              · have := HX.out.2.1.size
                exact .inr (by omega)
            have HF := Lib.hid (And.intro hr2 (And.intro hm3 hA3))
            clear hm1a hfp hnp hr2 hm3 hA3 ho2 hmod2 hin2 c2
            go_wp2_with fail
            go_roundg (n - (k + 1))
            case measure => omega
            case rel => exact ⟨k + 1, by omega, rfl, by go_num, _, _, HF.out.1, HF.out.2.1, HF.out.2.2⟩
          · rw [e1] at c1
            rw [e2] at c3
            clear e1 e2
            go_wp2_with (at_builtin; refine wpList_append _ rfl (.tmp 63) (.tmp 65) 30 30 rfl Try.elt30 A1 r1.held.length cap1 (bc r1.held) rfl (HX.out.1.own.alloc _) (.slice (some ⟨wr.heap.size, 0, none⟩) 1 1) 1 (bc [c]) rfl (Rd.src (Own.row _ 5 1 1 (bc [c]) rfl (by decide)).rd Try.underlying30 (bc_one _)) ?h63 ?hby ?_)
            case h63 => unfold maxLen; omega
            case hby => omega
            intro A' cap' w2 ho2 hmod2 hin2 _
            have hfp : ¬ InB A1 p := HX.out.1.apart
            have hm1a : Mod (InB A1) wr w2 := ((Mod.refl _ wr).alloc _).trans hmod2
            have j2 := hm1a.cell c2 hfp
            have jf : w2.frozen? ⟨p, 2, none⟩ = false := (HX.out.1.blk.mod hm1a hfp).frozen 2 (by simp [RCells])
            have hnp : ¬ InB A' p := fun hf => by
              rcases hin2 p hf with hf | hf
              · exact hfp hf
              · have := HX.out.1.blk.lt
                omega
            have hr2 := HX.out.1.held_ (A' := A') (cap' := cap') (l := r1.held ++ [c]) hm1a hfp (by unfold OwnB; rw [bc_append, List.length_append]; exact ho2) hnp
            rw [← hone.out] at hr2
            rw [List.length_append] at hr2
            have hm3 : Mod (foot p A) w (w2.setCell ⟨p, 2, none⟩ (.slice A' (r1.held.length + [c].length) cap')) := (HX.out.2.1.trans' hm1a fun i hi hf => by
              rcases HX.out.2.2.1 i hf with h | h
              · exact .inr h
              · omega).setCell (p := ⟨p, 2, none⟩) (fun _ => .inl rfl) _
            have hA3 : ∀ k, InB A' k → InB A k ∨ w.heap.size ≤ k := fun k hk => by
              rcases hin2 k hk with hk | hk
              · exact HX.out.2.2.1 k hk
              · have := HX.out.2.1.size
                exact .inr (by omega)
            have HF := Lib.hid (And.intro hr2 (And.intro hm3 hA3))
            clear hm1a hfp hnp hr2 hm3 hA3 ho2 hmod2 hin2 c2
            go_wp2_with fail
            go_roundg (n - (k + 1))
            case measure => omega
            case rel => exact ⟨k + 1, by omega, rfl, by go_num, _, _, HF.out.1, HF.out.2.1, HF.out.2.2⟩
          · skip
            go_wp2_with (at_builtin; refine wpList_append _ rfl (.tmp 63) (.tmp 65) 30 30 rfl Try.elt30 A1 r1.held.length cap1 (bc r1.held) rfl (HX.out.1.own.alloc _) (.slice (some ⟨wr.heap.size, 0, none⟩) 1 1) 1 (bc [c]) rfl (Rd.src (Own.row _ 5 1 1 (bc [c]) rfl (by decide)).rd Try.underlying30 (bc_one _)) ?h63 ?hby ?_)
            case h63 => unfold maxLen; omega
            case hby => omega
            intro A' cap' w2 ho2 hmod2 hin2 _
            have hfp : ¬ InB A1 p := HX.out.1.apart
            have hm1a : Mod (InB A1) wr w2 := ((Mod.refl _ wr).alloc _).trans hmod2
            have j2 := hm1a.cell c2 hfp
            have jf : w2.frozen? ⟨p, 2, none⟩ = false := (HX.out.1.blk.mod hm1a hfp).frozen 2 (by simp [RCells])
            have hnp : ¬ InB A' p := fun hf => by
              rcases hin2 p hf with hf | hf
              · exact hfp hf
              · have := HX.out.1.blk.lt
                omega
            have hr2 := HX.out.1.held_ (A' := A') (cap' := cap') (l := r1.held ++ [c]) hm1a hfp (by unfold OwnB; rw [bc_append, List.length_append]; exact ho2) hnp
            rw [← hone.out] at hr2
            rw [List.length_append] at hr2
            have hm3 : Mod (foot p A) w (w2.setCell ⟨p, 2, none⟩ (.slice A' (r1.held.length + [c].length) cap')) := (HX.out.2.1.trans' hm1a fun i hi hf => by
              rcases HX.out.2.2.1 i hf with h | h
              · exact .inr h
              · omega).setCell (p := ⟨p, 2, none⟩) (fun _ => .inl rfl) _
            have hA3 : ∀ k, InB A' k → InB A k ∨ w.heap.size ≤ k := fun k hk => by
              rcases hin2 k hk with hk | hk
              · exact HX.out.2.2.1 k hk
              · have := HX.out.2.1.size
                exact .inr (by omega)
            have HF := Lib.hid (And.intro hr2 (And.intro hm3 hA3))
            clear hm1a hfp hnp hr2 hm3 hA3 ho2 hmod2 hin2 c2
            go_wp2_with fail
            go_roundg (n - (k + 1))
            case measure => omega
            case rel => exact ⟨k + 1, by omega, rfl, by go_num, _, _, HF.out.1, HF.out.2.1, HF.out.2.2⟩
    · obtain rfl : k = n := by omega
      have HX := Lib.hid (And.intro hin (And.intro hmod hA))
      clear hin hmod hA hn
      go_wp2_with fail
      go_end0
      refine Gives.mk ⟨rfl, ?_⟩
      obtain ⟨hin, hmod, hA⟩ := HX.out
      rw [List.take_of_length_le (by rw [H.out.2.2]; exact Nat.le_refl _)] at hin
      exact ⟨_, _, hin, hmod, hA⟩
end Go.Proofs.Ytoeaaomgilgncaa
