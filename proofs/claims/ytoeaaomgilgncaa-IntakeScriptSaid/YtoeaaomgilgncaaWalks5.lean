/-
  The walk of package intake's Next, where it stands at a line.
-/
import Derived.Test.YtoeaaomgilgncaaWalks4
namespace Go.Proofs.Ytoeaaomgilgncaa
open Go.RowKit Go.Mem Go.Intake
set_option linter.unusedVariables false

/-! ### bytes.Index of CR LF -/
theorem bytesOf_map (l : List UInt8) : Lib.bytesOf (l.map fun b => (b.toNat : Int)) = l := by
  induction l with
  | nil => rfl
  | cons a l ih =>
    simp only [Lib.bytesOf, List.map_cons, List.map_map] at ih ⊢
    rw [ih]
    congr 1
    simp
theorem index_find (l : List UInt8) : Lib.index l [13, 10] = match find l with | some k => (k : Int) | none => -1 := by
  induction l with
  | nil => rfl
  | cons a l ih =>
    cases l with
    | nil => simp [Lib.index, find, List.isPrefixOf]
    | cons b r =>
      unfold Lib.index find
      by_cases h : a = 13 ∧ b = 10
      · obtain ⟨rfl, rfl⟩ := h
        simp [List.isPrefixOf]
      · rw [if_neg, if_neg h, ih]
        · cases hf : find (b :: r) with
          | none => simp
          | some k =>
            simp
        · simp [List.isPrefixOf]
          intro h1 h2
          exact h ⟨h1.symm, h2.symm⟩
theorem find_lt {l : List UInt8} {k : Nat} (h : find l = some k) : k + 2 ≤ l.length := by
  induction l generalizing k with
  | nil => cases h
  | cons a l ih =>
    cases l with
    | nil => cases h
    | cons b r =>
      unfold find at h
      split at h
      · cases h
        simp
      · cases hf : find (b :: r) with
        | none => rw [hf] at h; cases h
        | some j =>
          rw [hf] at h
          cases h
          have := ih hf
          simp at this ⊢
          omega
/-- The word of the library's variable on how long a short text is. -/
def Lw (w : World) : Prop := ∃ m, w.cell? ⟨0, 0, none⟩ = some (.int .i64 m)
theorem Lw.mod {S : Nat → Prop} {w w' : World} (h : Lw w) (hm : Mod S w w') (hn : ¬ S 0) : Lw w' := by
  obtain ⟨m, h⟩ := h
  exact ⟨m, hm.cell h hn⟩
theorem Index_calls (w : World) (A : Option Addr) (n cap : Nat) (l : List UInt8) (hr : RdB w A n cap l) (hn : n < 4294967281) (b : Nat) (hb : Blk w b [.int .u8 13, .int .u8 10] 5) (hG : Lw w) :
    Calls Try.prog 37 #[.slice A n cap, .slice (some ⟨b, 0, none⟩) 2 2] w fun e w' => e = .returned (.int .i64 (match find l with | some k => (k : Int) | none => -1)) ∧ ∃ q, w' = w.drewN q := by
  have hle := hr.le
  have hln := hr.blen
  obtain ⟨m, hm⟩ := hG
  cases A with
  | none =>
    have h0 := hr.2.2.2.1 rfl
    subst h0
    obtain rfl : n = 0 := by omega
    have hl : l = [] := List.eq_nil_of_length_eq_zero (by omega)
    subst hl
    exact (Try.bytes_Index_nil (some ⟨b, 0, none⟩) 2 2 w (by omega) (by omega)).mono fun e w' ⟨he, hw⟩ => ⟨by rw [he]; rfl, 0, by rw [hw]; rfl⟩
  | some a =>
    have key := Try.bytes_Index_at a ⟨b, 0, none⟩ n cap 2 2 (l.map fun b => (b.toNat : Int)) [13, 10] m w (by simpa using hln) rfl
      (fun x hx => by
        obtain ⟨c, _, rfl⟩ := List.mem_map.1 hx
        have := c.toNat_lt
        omega)
      (fun y hy => by simp at hy; omega)
      (fun i hi => by
        obtain ⟨g, off, he, hc⟩ := hr.2.2.2.2 i _ (bc_get l i (by omega))
        cases he
        rw [Addr.add_lit, hc]
        simp [List.getD, show i < l.length by omega])
      (fun i hi => by
        rw [Addr.add_lit, Nat.zero_add, hb.cell]
        match i, hi with
        | 0, _ => rfl
        | 1, _ => rfl)
      hle hn (by omega) hm
    refine key.mono fun e w' ⟨he, hw⟩ => ⟨?_, hw⟩
    rw [he, bytesOf_map, show Lib.bytesOf [13, 10] = [13, 10] from rfl, index_find]

theorem Index_some (w : World) (A : Option Addr) (n cap : Nat) (l : List UInt8) (hr : RdB w A n cap l) (hn : n < 4294967281) (b : Nat) (hb : Blk w b [.int .u8 13, .int .u8 10] 5) (hG : Lw w) (k : Nat) (hk : find l = some k) :
    Calls Try.prog 37 #[.slice A n cap, .slice (some ⟨b, 0, none⟩) 2 2] w fun e w' => e = .returned (.int .i64 k) ∧ ∃ q, w' = w.drewN q :=
  (Index_calls w A n cap l hr hn b hb hG).mono fun e w' ⟨he, hw⟩ => ⟨by rw [he, hk], hw⟩
theorem Index_none (w : World) (A : Option Addr) (n cap : Nat) (l : List UInt8) (hr : RdB w A n cap l) (hn : n < 4294967281) (b : Nat) (hb : Blk w b [.int .u8 13, .int .u8 10] 5) (hG : Lw w) (hk : find l = none) :
    Calls Try.prog 37 #[.slice A n cap, .slice (some ⟨b, 0, none⟩) 2 2] w fun e w' => e = .returned (.int .i64 (-1)) ∧ ∃ q, w' = w.drewN q :=
  (Index_calls w A n cap l hr hn b hb hG).mono fun e w' ⟨he, hw⟩ => ⟨by rw [he, hk], hw⟩
theorem Locals.start0 (w : World) : Locals w ((w.alloc (.cells #[.int .i64 0, .string ⟨#[]⟩, .slice none 0 0] 54)).alloc (.cells #[.int .i64 0, .string ⟨#[]⟩, .slice none 0 0] 54)) zi zi := Locals.start w 0
theorem Locals.later {w W W' : World} {l0 l1 : List Value} (h : Locals w W l0 l1) (hm : Mod (fun _ => False) W W') : Locals w W' l0 l1 :=
  ⟨h.mod.trans hm, h.b0.mod hm id, h.b1.mod hm id⟩
theorem take_q {l : List UInt8} {q : Nat} (hq : min 224 l.length = q) : l.take 224 = l.take q := by
  subst hq
  rw [← List.take_eq_take_min]
/-- The world at the call of bytes.Index. -/
theorem at_index (w : World) : Locals w ((((w.alloc (.cells #[.int .i64 0, .string ⟨#[]⟩, .slice none 0 0] 54)).alloc (.cells #[.int .i64 0, .string ⟨#[]⟩, .slice none 0 0] 54)).alloc (.cells #[.int .u8 13, .int .u8 10] 5)).drew) zi zi ∧
    Blk ((((w.alloc (.cells #[.int .i64 0, .string ⟨#[]⟩, .slice none 0 0] 54)).alloc (.cells #[.int .i64 0, .string ⟨#[]⟩, .slice none 0 0] 54)).alloc (.cells #[.int .u8 13, .int .u8 10] 5)).drew) (w.heap.size + 1 + 1) [.int .u8 13, .int .u8 10] 5 := by
  refine ⟨(Locals.start0 w).later (((Mod.refl _ _).alloc _).drew), ?_⟩
  have := (Blk.new ((w.alloc (.cells #[.int .i64 0, .string ⟨#[]⟩, .slice none 0 0] 54)).alloc (.cells #[.int .i64 0, .string ⟨#[]⟩, .slice none 0 0] 54)) [.int .u8 13, .int .u8 10] 5).drew
  rw [World.size_alloc, World.size_alloc] at this
  exact this

set_option maxRecDepth 100000 in
set_option maxHeartbeats 1000000 in
/-- Where it stands at a line, and one is whole. -/
theorem Next_line (w : World) (p : Nat) (A : Option Addr) (cap : Nat) (s : St) (h : IsIn w p A cap s) (hs : s.stands = 0) (hsz : s.held.length ≤ 140737488355328) (hG : Lw w) (h0 : ¬ foot p A 0) (k : Nat) (hk : find (s.held.take 224) = some k) :
    Calls Try.prog 25 #[.pointer (some ⟨p, 0, none⟩)] w (Gives (NextPost w p A s)) := by
  obtain ⟨c0, c1, c2, c3, c4, c5, c6⟩ := h.cells
  have hlt := h.blk.lt
  have hmx := h.own.max
  have hle := h.own.le
  have f1 := h.frozen 1
  have f2 := h.frozen 2
  rw [hs] at c1
  obtain ⟨q, hq⟩ : ∃ q : Nat, min 224 s.held.length = q := ⟨_, rfl⟩
  have hq' : min (224 : Int) (s.held.length : Int) = (q : Int) := by omega
  have hql : q ≤ s.held.length ∧ q ≤ 224 := by omega
  have hsl := fun W => slice_hi W A s.held.length cap q (by omega)
  have hkl : k + 2 ≤ 224 ∧ k + 2 ≤ s.held.length := by
    have := find_lt hk
    rw [List.length_take] at this
    omega
  have H := Lib.hid (And.intro h (And.intro hs (And.intro hk (And.intro hG (And.intro h0 hq)))))
  unfold maxLen at hmx
  clear h hs hk hG h0 c0 c3 c4 c5 c6 hq
  go_enter Try.func25, Try.ntmps25
  go_wp2_with fail
  go_step3
  go_wp2_with fail
  go_step3
  go_wp2_with fail
  refine wp_loop_rounds 1 ?_
  rw [rounds_succ]
  go_wp2_with fail
  obtain ⟨hL, hB⟩ := at_index w
  have hI := H.out.1.mod hL.mod (fun _ _ h => h)
  have hr := hI.own.rd.bcut 0 q (Nat.zero_le _) (by omega)
  simp only [cutA_zero, List.drop_zero, Nat.sub_zero] at hr
  have hf : find (s.held.take q) = some k := by rw [← take_q H.out.2.2.2.2.2]; exact H.out.2.2.1
  have hGW := H.out.2.2.2.1.mod hL.mod id
  have hcall := Index_some _ A q cap _ hr (by omega) _ hB hGW k hf
  have HC := Lib.hid hcall
  have HK := Lib.hid hI.cells.2.2.1
  have HW := Lib.hid (And.intro hL (And.intro hB hI))
  clear hL hB hI hr hf hGW hcall
  go_cut [5] (fun v W => v = .int .i64 k ∧ Locals w W zi zi ∧ IsIn W p A cap s)
  case first =>
    go_region_held3 (fun w' => w'.cell? ⟨p, 2, none⟩ = some (.slice A s.held.length cap)) (first | exact HK.out | go_keep) (first | (go_at_call 37; refine HC.out.mono ?_; rintro e w' ⟨rfl, nq, rfl⟩))
    all_goals
      have hm := (Mod.refl (fun _ => False) ((((w.alloc (.cells #[.int .i64 0, .string ⟨#[]⟩, .slice none 0 0] 54)).alloc (.cells #[.int .i64 0, .string ⟨#[]⟩, .slice none 0 0] 54)).alloc (.cells #[.int .u8 13, .int .u8 10] 5)).drew)).drewN nq
      rw [World.drewN_drew] at hm
      go_wp2_with fail
      go_meet
      exact ⟨rfl, HW.out.1.later hm, HW.out.2.2.mod hm fun _ _ h => h⟩
  case rest =>
  obtain ⟨rfl, hL, hI⟩ := hcut
  generalize wc = W at hL hI ⊢
  have HL := Lib.hid (And.intro hL hI)
  clear HC HK HW hL hI
  go_wp2_with fail
  obtain ⟨hL, hI⟩ := HL.out
  have ht := take_calls W p A s.held.length cap (k + 2) hI.cells.2.2.1 (hI.frozen 2) (by omega) hle (by unfold maxLen; omega)
  rw [show (((k + 2 : Nat)) : Int) = (k : Int) + 2 from by omega] at ht
  with_reducible refine ht.mono ?_
  clear ht
  rintro e w1 ⟨rfl, rfl⟩
  have hmt := Mod.set W p 2 (.slice (cutA A cap (k + 2) 1) (s.held.length - (k + 2)) (cap - (k + 2)))
  have hbp := hI.blk.store 2 (.slice (cutA A cap (k + 2) 1) (s.held.length - (k + 2)) (cap - (k + 2)))
  have ho := (hI.own.bcut (k + 2) s.held.length (by omega) (Nat.le_refl _)).mod hmt fun j hj e => hI.apart (e ▸ cutA_in hj)
  rw [List.take_of_length_le (by rw [List.length_drop]; omega)] at ho
  have hr := Rd.mod (hI.own.rd.bcut 0 k (Nat.zero_le _) (by omega)) hmt fun j hj e => hI.apart (e ▸ cutA_in hj)
  simp only [cutA_zero, List.drop_zero, Nat.sub_zero] at hr
  have hpl := H.out.1.blk.lt
  have g0 := hL.b0.mod hmt (by omega)
  have g1 := hL.b1.mod hmt (by omega)
  have hM := hL.mod
  have hWs := hL.b1.lt
  clear hI hL
  generalize W.setCell ⟨p, 2, none⟩ (.slice (cutA A cap (k + 2) 1) (s.held.length - (k + 2)) (cap - (k + 2))) = W1 at hbp ho hr g0 g1 hmt ⊢
  have hst := Rd.string (P := Try.prog) hr Try.underlying30 Try.underlying5 Try.underlying9
  have hsl2 := fun W => slice_hi W A (k + 2) cap k (by omega)
  have k10 := g1.cell 0
  have k11 := g1.cell 1
  have k12 := g1.cell 2
  have k00 := g0.cell 0
  have k01 := g0.cell 1
  have k02 := g0.cell 2
  have r10 := g1.frozen 0 (by simp [zi, InCells])
  have r11 := g1.frozen 1 (by simp [zi, InCells])
  have r12 := g1.frozen 2 (by simp [zi, InCells])
  have r00 := g0.frozen 0 (by simp [zi, InCells])
  have r01 := g0.frozen 1 (by simp [zi, InCells])
  have r02 := g0.frozen 2 (by simp [zi, InCells])
  have kp := hbp.cell 1
  have rp := hbp.frozen 1 (by simp [zi, InCells])
  have hz := g1.lt
  simp only [zi, InCells, List.set_cons_zero, List.set_cons_succ, List.getElem?_cons_zero, List.getElem?_cons_succ] at k10 k11 k12 k00 k01 k02 kp
  have HX := Lib.hid (And.intro hbp (And.intro ho (And.intro hmt hM)))
  clear hbp ho hr g0 g1 hmt hM hsl c1 c2 f1 f2
  go_wp2_with fail
  rw [Exit.noGoto_ret]
  refine bodyPost_ret (v := .tuple #[.agg #[.int .i64 1, .string ⟨(s.held.take k).toArray⟩, .slice none 0 0], .bool true]) (by simp [results, Try.results25, go_sem, k00, k01, k02, hz]) rfl ?_
  obtain ⟨h, hs, hk, hG, h0, hq⟩ := H.out
  obtain ⟨hbp, ho, hmt, hM⟩ := HX.out
  have hl2 : (s.held.drop (k + 2)).length = s.held.length - (k + 2) := List.length_drop
  have h2 : IsIn W1 p (cutA A cap (k + 2) 1) (cap - (k + 2)) { s with held := s.held.drop (k + 2) } :=
    ⟨by simp only [InCells, hl2]; simpa [InCells] using hbp, by simp only [hl2]; exact ho, ⟨h.ok.1, h.ok.2, h.ok.3, h.ok.4⟩⟩
  have hm : Mod (foot p A) w W1 := (hM.mono (S' := foot p A) fun _ _ h => h.elim).trans' hmt fun i hi e => .inl e
  refine next_end (s2 := { s with held := s.held.drop (k + 2) }) h.lt hm h2 (fun j hj => .inl (cutA_in hj)) (bd := []) (Own.nil _ _ _) (fun j hj => by simp at hj) ?_ _ _ _ _ _ _
  unfold next
  rw [if_pos hs, hk]
  simp only [hs, item]


set_option maxRecDepth 100000 in
set_option maxHeartbeats 1000000 in
/-- Where it stands at a line, and none is whole yet. -/
theorem Next_short (w : World) (p : Nat) (A : Option Addr) (cap : Nat) (s : St) (h : IsIn w p A cap s) (hs : s.stands = 0) (hsz : s.held.length < 224) (hG : Lw w) (h0 : ¬ foot p A 0) (hk : find (s.held.take 224) = none) :
    Calls Try.prog 25 #[.pointer (some ⟨p, 0, none⟩)] w (Gives (NextPost w p A s)) := by
  obtain ⟨c0, c1, c2, c3, c4, c5, c6⟩ := h.cells
  have hlt := h.blk.lt
  have hmx := h.own.max
  have hle := h.own.le
  rw [hs] at c1
  obtain ⟨q, hq⟩ : ∃ q : Nat, min 224 s.held.length = q := ⟨_, rfl⟩
  have hq' : min (224 : Int) (s.held.length : Int) = (q : Int) := by omega
  have hql : q ≤ s.held.length ∧ q ≤ 224 := by omega
  have hsl := fun W => slice_hi W A s.held.length cap q (by omega)
  have hds : decide ((s.held.length : Int) < 224) = true := by simp; omega
  have H := Lib.hid (And.intro h (And.intro hs (And.intro hk (And.intro hG (And.intro h0 hq)))))
  unfold maxLen at hmx
  clear h hs hk hG h0 c0 c3 c4 c5 c6 hq
  go_enter Try.func25, Try.ntmps25
  go_wp2_with fail
  go_step3
  go_wp2_with fail
  go_step3
  go_wp2_with fail
  refine wp_loop_rounds 1 ?_
  rw [rounds_succ]
  go_wp2_with fail
  obtain ⟨hL, hB⟩ := at_index w
  have hI := H.out.1.mod hL.mod (fun _ _ h => h)
  have hr := hI.own.rd.bcut 0 q (Nat.zero_le _) (by omega)
  simp only [cutA_zero, List.drop_zero, Nat.sub_zero] at hr
  have hf : find (s.held.take q) = none := by rw [← take_q H.out.2.2.2.2.2]; exact H.out.2.2.1
  have hGW := H.out.2.2.2.1.mod hL.mod id
  have hcall := Index_none _ A q cap _ hr (by omega) _ hB hGW hf
  have HC := Lib.hid hcall
  have HK := Lib.hid hI.cells.2.2.1
  have HW := Lib.hid (And.intro hL (And.intro hB hI))
  clear hL hB hI hr hf hGW hcall
  go_cut [5] (fun v W => v = .int .i64 (-1) ∧ Locals w W zi zi ∧ IsIn W p A cap s)
  case first =>
    go_region_held3 (fun w' => w'.cell? ⟨p, 2, none⟩ = some (.slice A s.held.length cap)) (first | exact HK.out | go_keep) (first | (go_at_call 37; refine HC.out.mono ?_; rintro e w' ⟨rfl, nq, rfl⟩))
    all_goals
      have hm := (Mod.refl (fun _ => False) ((((w.alloc (.cells #[.int .i64 0, .string ⟨#[]⟩, .slice none 0 0] 54)).alloc (.cells #[.int .i64 0, .string ⟨#[]⟩, .slice none 0 0] 54)).alloc (.cells #[.int .u8 13, .int .u8 10] 5)).drew)).drewN nq
      rw [World.drewN_drew] at hm
      go_wp2_with fail
      go_meet
      exact ⟨rfl, HW.out.1.later hm, HW.out.2.2.mod hm fun _ _ h => h⟩
  case rest =>
  obtain ⟨rfl, hL, hI⟩ := hcut
  generalize wc = W at hL hI ⊢
  have k2 := hI.cells.2.2.1
  have k00 := hL.b0.cell 0
  have k01 := hL.b0.cell 1
  have k02 := hL.b0.cell 2
  have r00 := hL.b0.frozen 0 (by simp [zi, InCells])
  have r01 := hL.b0.frozen 1 (by simp [zi, InCells])
  have r02 := hL.b0.frozen 2 (by simp [zi, InCells])
  have hz := hL.b0.lt
  simp only [zi, List.getElem?_cons_zero, List.getElem?_cons_succ] at k00 k01 k02
  have HL := Lib.hid (And.intro hL hI)
  clear HC HK HW hL hI c1 c2
  go_wp2_with fail
  rw [Exit.noGoto_ret]
  refine bodyPost_ret (v := .tuple #[.agg #[.int .i64 0, .string ⟨#[]⟩, .slice none 0 0], .bool false]) (by simp [results, Try.results25, go_sem, k00, k01, k02, hz]) rfl (Gives.mk ?_)
  obtain ⟨h, hs, hk, hG, h0, hq⟩ := H.out
  obtain ⟨hL, hI⟩ := HL.out
  have e : next s = (s, none) := by
    unfold next
    rw [if_pos hs, hk]
    simp only []
    rw [if_pos hsz]
  unfold NextPost
  rw [e]
  have hn : ∀ k, foot p A k → ¬ k = w.heap.size := fun k hk => by
    have := h.lt k hk
    omega
  refine ⟨A, cap, none, 0, 0, rfl, ((hI.far _ _ fun hk => hn _ hk rfl).far _ _ fun hk => hn _ hk rfl).far _ _ fun hk => hn _ hk rfl, Own.nil _ _ _, fun k hk => by simp at hk, ?_, fun k hk => .inl hk⟩
  refine Mod.setCell (Mod.setCell (Mod.setCell (hL.mod.mono fun _ _ h => h.elim) ?_ _) ?_ _) ?_ _
  all_goals exact fun h => absurd h (Nat.lt_irrefl _)

theorem long_held (s : St) : (long s).held.length ≤ s.held.length := by
  unfold long feed
  have := skipLine_len false s.held
  simpa using this
theorem long_stands (s : St) : (long s).stands = 1 := by
  unfold long feed
  simp
set_option maxRecDepth 100000 in
set_option maxHeartbeats 2000000 in
/-- Where it stands at a line that is too long. -/
theorem Next_toolong (w : World) (p : Nat) (A : Option Addr) (cap : Nat) (s : St) (h : IsIn w p A cap s) (hs : s.stands = 0) (hsz : 224 ≤ s.held.length) (hsz2 : s.held.length ≤ 140737488355328) (hG : Lw w) (h0 : ¬ foot p A 0) (hk : find (s.held.take 224) = none) :
    Calls Try.prog 25 #[.pointer (some ⟨p, 0, none⟩)] w (Gives (NextPost w p A s)) := by
  obtain ⟨c0, c1, c2, c3, c4, c5, c6⟩ := h.cells
  have hlt := h.blk.lt
  have hmx := h.own.max
  have hle := h.own.le
  rw [hs] at c1
  obtain ⟨q, hq⟩ : ∃ q : Nat, min 224 s.held.length = q := ⟨_, rfl⟩
  have hq' : min (224 : Int) (s.held.length : Int) = (q : Int) := by omega
  have hql : q ≤ s.held.length ∧ q ≤ 224 := by omega
  have hsl := fun W => slice_hi W A s.held.length cap q (by omega)
  have hds : decide ((s.held.length : Int) < 224) = false := by simp; omega
  have H := Lib.hid (And.intro h (And.intro hs (And.intro hk (And.intro hG (And.intro h0 hq)))))
  unfold maxLen at hmx
  clear h hs hk hG h0 c0 c3 c4 c5 c6 hq
  go_enter Try.func25, Try.ntmps25
  go_wp2_with fail
  go_step3
  go_wp2_with fail
  go_step3
  go_wp2_with fail
  refine wp_loop_rounds 2 ?_
  rw [rounds_succ]
  go_wp2_with fail
  obtain ⟨hL, hB⟩ := at_index w
  have hI := H.out.1.mod hL.mod (fun _ _ h => h)
  have hr := hI.own.rd.bcut 0 q (Nat.zero_le _) (by omega)
  simp only [cutA_zero, List.drop_zero, Nat.sub_zero] at hr
  have hf : find (s.held.take q) = none := by rw [← take_q H.out.2.2.2.2.2]; exact H.out.2.2.1
  have hGW := H.out.2.2.2.1.mod hL.mod id
  have hcall := Index_none _ A q cap _ hr (by omega) _ hB hGW hf
  have HC := Lib.hid hcall
  have HK := Lib.hid hI.cells.2.2.1
  have HW := Lib.hid (And.intro hL (And.intro hB hI))
  clear hL hB hI hr hf hGW hcall
  go_cut [5] (fun v W => v = .int .i64 (-1) ∧ Locals w W zi zi ∧ IsIn W p A cap s)
  case first =>
    go_region_held3 (fun w' => w'.cell? ⟨p, 2, none⟩ = some (.slice A s.held.length cap)) (first | exact HK.out | go_keep) (first | (go_at_call 37; refine HC.out.mono ?_; rintro e w' ⟨rfl, nq, rfl⟩))
    all_goals
      have hm := (Mod.refl (fun _ => False) ((((w.alloc (.cells #[.int .i64 0, .string ⟨#[]⟩, .slice none 0 0] 54)).alloc (.cells #[.int .i64 0, .string ⟨#[]⟩, .slice none 0 0] 54)).alloc (.cells #[.int .u8 13, .int .u8 10] 5)).drew)).drewN nq
      rw [World.drewN_drew] at hm
      go_wp2_with fail
      go_meet
      exact ⟨rfl, HW.out.1.later hm, HW.out.2.2.mod hm fun _ _ h => h⟩
  case rest =>
  obtain ⟨rfl, hL, hI⟩ := hcut
  generalize wc = W at hL hI ⊢
  obtain ⟨k0, k1, k2, k3, k4, k5, k6⟩ := hI.cells
  have f1 := hI.frozen 1
  have f2 := hI.frozen 2
  have f5 := hI.frozen 5
  have f6 := hI.frozen 6
  have HL := Lib.hid (And.intro hL hI)
  clear HC HK HW hL hI c1 c2
  go_wp2_with fail
  obtain ⟨hL, hI⟩ := HL.out
  -- the intake, in a long line, all its bytes taken
  have hb1 := ((hI.blk.store 1 (.int .i64 1)).store 5 (.bool false)).store 6 (.bool false)
  have hm1 := ((Mod.set W p 1 (.int .i64 1)).trans (Mod.set _ p 5 (.bool false))).trans (Mod.set _ p 6 (.bool false))
  refine at_world fun W1 hW1 => ?_
  rw [← hW1] at hb1 hm1
  clear hW1
  have ht := take_calls W1 p A s.held.length cap s.held.length (by rw [hb1.cell]; simp [InCells]) (hb1.frozen 2 (by simp [InCells])) (Nat.le_refl _) hle (by unfold maxLen; omega)
  with_reducible refine ht.mono ?_
  clear ht
  rintro e w1 ⟨rfl, rfl⟩
  have hb2 := hb1.store 2 (.slice (cutA A cap s.held.length 1) (s.held.length - s.held.length) (cap - s.held.length))
  have hm2 := hm1.trans (Mod.set W1 p 2 (.slice (cutA A cap s.held.length 1) (s.held.length - s.held.length) (cap - s.held.length)))
  generalize W1.setCell ⟨p, 2, none⟩ (.slice (cutA A cap s.held.length 1) (s.held.length - s.held.length) (cap - s.held.length)) = W2 at hb2 hm2 ⊢
  have hr2 := Rd.mod hI.own.rd hm2 fun j hj e => hI.apart (e ▸ hj)
  have ho2 := (hI.own.bcut s.held.length s.held.length (Nat.le_refl _) (Nat.le_refl _)).mod hm2 fun j hj e => hI.apart (e ▸ cutA_in hj)
  have hI2 : IsIn W2 p (cutA A cap s.held.length 1) (cap - s.held.length) { s with stands := 1, half := false, ended := false, held := [] } := by
    refine ⟨?_, ?_, ⟨hI.ok.1, .inr (.inl rfl), hI.ok.3, hI.ok.4⟩⟩
    · simp only [InCells]
      simpa [InCells] using hb2
    · have ho3 := ho2
      simp only [Nat.sub_self, List.take_zero, List.drop_length] at ho3
      exact ho3
  have hg0 := hL.b0.mod hm2 (by omega)
  have hg1 := hL.b1.mod hm2 (by omega)
  have hM2 := hL.mod
  have HX := Lib.hid (And.intro hI2 (And.intro hg0 (And.intro hg1 (And.intro hM2 (And.intro hm2 hr2)))))
  clear hL hI hb1 hm1 hb2 hm2 hr2 ho2 hI2 hg0 hg1 hM2 k0 k1 k2 k3 k4 k5 k6 f1 f2 f5 f6 HL hsl
  go_wp2_with fail
  have hF := Feed_calls W2 p _ _ _ HX.out.1 A s.held.length cap s.held HX.out.2.2.2.2.2 (fun _ => H.out.1.apart) (by simp only [List.length_nil]; omega)
  with_reducible refine hF.mono ?_
  clear hF
  rintro e w3 ⟨v, rfl, A', cap', rfl, hI3, hm3, hin3⟩
  have hst3 := long_stands s
  have hlg : feed { s with stands := 1, half := false, ended := false, held := [] } s.held = long s := rfl
  rw [hlg] at hI3
  clear hlg
  have hA2 : ∀ j, foot p (cutA A cap s.held.length 1) j → j < w.heap.size := fun j hj => by
    rcases hj with rfl | hj
    · exact hlt
    · exact H.out.1.lt j (.inr (cutA_in hj))
  have hg0 := HX.out.2.1.mod hm3 fun hj => absurd (hA2 _ hj) (by omega)
  have hg1 := HX.out.2.2.1.mod hm3 fun hj => absurd (hA2 _ hj) (by omega)
  have hmm : Mod (foot p A) w w3 := ((HX.out.2.2.2.1.mono (S' := foot p A) fun _ _ h => h.elim).trans' HX.out.2.2.2.2.1 fun i hi e => .inl e).trans' hm3 fun j hj hf => by
    rcases hf with rfl | hf
    · exact .inl rfl
    · exact .inr (cutA_in hf)
  have hin4 : ∀ j, InB A' j → InB A j ∨ w.heap.size + 1 < j := fun j hj => by
    rcases hin3 j hj with h | h
    · exact .inl (cutA_in h)
    · have := HX.out.2.2.1.lt
      exact .inr (by omega)
  have k10 := hg1.cell 0
  have k11 := hg1.cell 1
  have k12 := hg1.cell 2
  have k00 := hg0.cell 0
  have k01 := hg0.cell 1
  have k02 := hg0.cell 2
  have r10 := hg1.frozen 0 (by simp [zi, InCells])
  have r11 := hg1.frozen 1 (by simp [zi, InCells])
  have r12 := hg1.frozen 2 (by simp [zi, InCells])
  have r00 := hg0.frozen 0 (by simp [zi, InCells])
  have r01 := hg0.frozen 1 (by simp [zi, InCells])
  have r02 := hg0.frozen 2 (by simp [zi, InCells])
  obtain ⟨_, kp, _, _, _, _, ke⟩ := hI3.cells
  have rp := hI3.frozen 1
  have hz := hg1.lt
  rw [hst3] at kp
  simp only [zi, List.getElem?_cons_zero, List.getElem?_cons_succ] at k10 k11 k12 k00 k01 k02
  have hnx : next s = next1 (long s) := by
    unfold next
    rw [if_pos H.out.2.1, H.out.2.2.1]
    simp only []
    rw [if_neg (by omega)]
  generalize long s = s3 at *
  have HY := Lib.hid (And.intro hI3 (And.intro hmm (And.intro hin4 (And.intro hnx hst3))))
  clear hI3 hmm hin4 hnx hst3 hg0 hg1 hA2 hin3 hm3 HX
  cases he : s3.ended with
  | false =>
    rw [he] at ke
    have HE := Lib.hid he
    clear he
    go_wp2_with fail
    rw [rounds_succ]
    go_wp2_with fail
    rw [Exit.noGoto_ret]
    refine bodyPost_ret (v := .tuple #[.agg #[.int .i64 0, .string ⟨#[]⟩, .slice none 0 0], .bool false]) (by simp [results, Try.results25, go_sem, k00, k01, k02, hz]) rfl (Gives.mk ?_)
    obtain ⟨hI3, hmm, hin4, hnx, hst3⟩ := HY.out
    have e : next s = (s3, none) := by
      rw [hnx]
      unfold next1
      rw [if_pos hst3, HE.out]
      rfl
    unfold NextPost
    rw [e]
    have hn : ∀ k, foot p A' k → ¬ k = w.heap.size := fun k hk => by
      rcases hk with rfl | hk
      · omega
      · rcases hin4 k hk with h | h
        · have := H.out.1.lt k (.inr h); omega
        · omega
    refine ⟨A', cap', none, 0, 0, rfl, ((hI3.far _ _ fun hk => hn _ hk rfl).far _ _ fun hk => hn _ hk rfl).far _ _ fun hk => hn _ hk rfl, Own.nil _ _ _, fun k hk => by simp at hk, ?_, fun k hk => ?_⟩
    · refine Mod.setCell (Mod.setCell (Mod.setCell hmm ?_ _) ?_ _) ?_ _
      all_goals exact fun h => absurd h (Nat.lt_irrefl _)
    · rcases hin4 k hk with h | h
      · exact .inl h
      · exact .inr (by omega)
  | true =>
    rw [he] at ke
    have HE := Lib.hid he
    clear he
    go_wp2_with fail
    rw [rounds_succ]
    go_wp2_with fail
    rw [Exit.noGoto_ret]
    refine bodyPost_ret (v := .tuple #[.agg #[.int .i64 2, .string ⟨#[]⟩, .slice none 0 0], .bool true]) (by simp [results, Try.results25, go_sem, k00, k01, k02, hz]) rfl ?_
    obtain ⟨hI3, hmm, hin4, hnx, hst3⟩ := HY.out
    refine next_end (s2 := s3) H.out.1.lt hmm hI3 hin4 (bd := []) (Own.nil _ _ _) (fun j hj => by simp at hj) ?_ _ _ _ _ _ _
    rw [hnx]
    unfold next1
    rw [if_pos hst3, HE.out]
    rfl

/-! ### Next -/
theorem Next_calls (w : World) (p : Nat) (A : Option Addr) (cap : Nat) (s : St) (h : IsIn w p A cap s) (hsz : s.held.length ≤ 140737488355328) (hG : Lw w) (h0 : ¬ foot p A 0) :
    Calls Try.prog 25 #[.pointer (some ⟨p, 0, none⟩)] w (Gives (NextPost w p A s)) := by
  rcases h.ok.stands with hs | hs | hs | hs
  · cases hk : find (s.held.take 224) with
    | some k => exact Next_line w p A cap s h hs hsz hG h0 k hk
    | none =>
      by_cases hl : s.held.length < 224
      · exact Next_short w p A cap s h hs hl hG h0 hk
      · exact Next_toolong w p A cap s h hs (by omega) hsz hG h0 hk
  · exact Next_long w p A cap s h hs
  · exact Next_body w p A cap s h hs hsz
  · exact Next_big w p A cap s h hs
end Go.Proofs.Ytoeaaomgilgncaa
