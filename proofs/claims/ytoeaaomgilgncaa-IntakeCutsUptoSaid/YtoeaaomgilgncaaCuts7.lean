/-
  IntakeCuts: the walk of the statement itself.
-/
import Derived.Test.YtoeaaomgilgncaaCuts6e
import Derived.Test.YtoeaaomgilgncaaWalks7
namespace Go.Proofs.Ytoeaaomgilgncaa
open Go.RowKit Go.Mem Go.Intake
set_option linter.unusedVariables false

theorem cellsOf_get : ∀ (its : List It) (bs : List Loc) (j : Nat) (hj : j < its.length) (hb : j < bs.length) (c : Nat), c < 3 → (cellsOf its bs)[j * 3 + c]? = (itCells its[j] bs[j])[c]?
  | [], _, j, hj, _, _, _ => absurd hj (Nat.not_lt_zero _)
  | _ :: _, [], j, _, hb, _, _ => absurd hb (Nat.not_lt_zero _)
  | it :: its, b :: bs, 0, _, _, c, hc => by
    simp only [cellsOf, List.zipWith_cons_cons, List.flatten_cons, Nat.zero_mul, Nat.zero_add, List.getElem_cons_zero]
    rw [List.getElem?_append_left (by simpa [itCells] using hc)]
  | it :: its, b :: bs, j + 1, hj, hb, c, hc => by
    have := cellsOf_get its bs j (by simpa using hj) (by simpa using hb) c hc
    simp only [cellsOf, List.zipWith_cons_cons, List.flatten_cons, List.getElem_cons_succ] at this ⊢
    rw [List.getElem?_append_right (by simp [itCells]; omega), ← this]
    congr 1
    simp [itCells]
    omega
theorem RD.item {w : World} {r p : Nat} {A Ai : Option Addr} {cap ci : Nat} {bs : List Loc} {Az : Option Addr} {nz cz : Nat} {s : St} {k : Nat} {its : List It} (h : RD w r p A cap Ai ci bs Az nz cz s k its) (j : Nat) (hj : j < its.length) :
    ∃ g off, ∃ hb : j < bs.length, Ai = some ⟨g, off, none⟩ ∧ w.cell? ⟨g, off + j * 3, none⟩ = some (.int .i64 its[j].kind) ∧ w.cell? ⟨g, off + j * 3 + 1, none⟩ = some (.string ⟨its[j].text.toArray⟩) ∧ w.cell? ⟨g, off + j * 3 + 2, none⟩ = some (.slice bs[j].addr its[j].body.length bs[j].cap) ∧
      RdB w bs[j].addr its[j].body.length bs[j].cap its[j].body := by
  have hb : j < bs.length := by rw [h.len]; exact hj
  have hc := fun c hc => cellsOf_get its bs j hj hb c hc
  have hr := h.own.rd.2.2.2.2
  obtain ⟨g, off, rfl, c0⟩ := hr (j * 3 + 0) (.int .i64 its[j].kind) (by rw [hc 0 (by omega)]; rfl)
  obtain ⟨g1, off1, e1, c1⟩ := hr (j * 3 + 1) (.string ⟨its[j].text.toArray⟩) (by rw [hc 1 (by omega)]; rfl)
  obtain ⟨g2, off2, e2, c2⟩ := hr (j * 3 + 2) (.slice bs[j].addr its[j].body.length bs[j].cap) (by rw [hc 2 (by omega)]; rfl)
  cases e1
  cases e2
  exact ⟨g, off, hb, rfl, c0, by rw [← Nat.add_assoc] at c1; exact c1, by rw [← Nat.add_assoc] at c2; exact c2, (h.bod j hj hb).1.rd⟩
theorem Two.below' {w W : World} {Az : Option Addr} {nz cz : Nat} {rx px : Nat} {sx : St} {kx : Nat} {lx : List It} {ry py : Nat} {sy : St} {ky : Nat} {ly : List It} (h : Two w W Az nz cz rx px sx kx lx ry py sy ky ly) : Below w.heap.size w W := by
  obtain ⟨_, _, _, _, _, _, _, _, _, _, _, _, _, _, h5⟩ := h
  exact h5
set_option maxRecDepth 200000 in
set_option maxHeartbeats 4000000 in
theorem Cuts_calls (w : World) (max : Int) (At : Option Addr) (nt ct : Nat) (text : List UInt8) (ht : RdB w At nt ct text) (Ac : Option Addr) (nc cc : Nat) (cuts : List Int) (hc : RdI w Ac nc cc cuts) (hcb : ∀ z ∈ cuts, -9223372036854775808 ≤ z ∧ z ≤ 9223372036854775807)
    (Az : Option Addr) (nz cz : Nat) (sizes : List Int) (hz : RdI w Az nz cz sizes) (hzb : ∀ z ∈ sizes, -9223372036854775808 ≤ z ∧ z ≤ 9223372036854775807) (hzl : ∀ j, InB Az j → j < w.heap.size)
    (hn : nt ≤ 100000000000) (hG : Lw w) (hmax : -9223372036854775808 ≤ max ∧ max ≤ 9223372036854775807) :
    Calls Try.prog 4 #[.int .i64 max, .slice At nt ct, .slice Ac nc cc, .slice Az nz cz] w (Gives fun v w' => v = .bool true ∧ Below w.heap.size w w') := by
  have htl := ht.blen
  have hcl : cuts.length = nc := by simpa using hc.len
  have hcle := hc.le
  have hcm := hc.max
  simp only [maxLen] at hcm
  have H := Lib.hid (And.intro ht (And.intro hc (And.intro hcb (And.intro hz (And.intro hzb (And.intro hzl (And.intro hG (And.intro htl hcl))))))))
  clear ht hc hcb hz hzb hzl hG htl hcl
  go_enter Try.func4, Try.ntmps4
  go_wp2_with fail
  with_reducible refine (shown_calls w H.out.2.2.2.2.2.2.1).mono ?_
  rintro e w1 ⟨v, rfl, rfl, hm1⟩
  have HM := Lib.hid (hm1.below (Nat.le_refl _) fun _ _ h => h)
  clear hm1
  go_wp2_with fail
  by_cases hbad : max < 1 ∨ 65535 < max
  · with_reducible refine (New_no w1 max hbad).mono ?_
    rintro e w2 ⟨rfl, rfl⟩
    go_wp2_with fail
    with_reducible refine (New_no w1 max hbad).mono ?_
    rintro e w2 ⟨rfl, rfl⟩
    by_cases hb1 : max < 1
    · go_wp2
      go_ret
      exact Gives.mk ⟨rfl, HM.out⟩
    · go_wp2
      go_ret
      exact Gives.mk ⟨rfl, HM.out⟩
  · with_reducible refine (New_ok w1 max (by omega) (by omega)).mono ?_
    rintro e w2 ⟨rfl, rfl⟩
    go_wp2_with fail
    with_reducible refine (New_ok _ max (by omega) (by omega)).mono ?_
    rintro e w3 ⟨rfl, rfl⟩
    go_wp2_with fail
    have hT := two_start w w1 HM.out max (by omega) Az nz cz
    have hx0 := (Blk.new ((w1.alloc (.cells (InCells (new max) none 0).toArray 76)).alloc (.cells (InCells (new max) none 0).toArray 76)) [.pointer (some ⟨w1.heap.size, 0, none⟩), .slice Az nz cz, .int .i64 0, .slice none 0 0] 49)
    refine at_world fun W hW => ?_
    rw [← hW] at hT
    generalize w1.heap.size = p at hT ⊢
    clear hx0 hW
    with_reducible refine (hT.feed At nt ct text H.out.1 (by simp [new]; omega)).mono ?_
    rintro e w4 ⟨v, rfl, rfl, hT⟩
    have HT := Lib.hid hT
    clear hT
    go_wp2_with fail
    with_reducible refine (HT.out.drain sizes H.out.2.2.2.1 H.out.2.2.2.2.1 H.out.2.2.2.2.2.1 (Nat.le_refl _) (by have := feed_meas (new max) text; have : meas (new max) = 0 := rfl; have := H.out.2.2.2.2.2.2.2.1; simp; omega) H.out.2.2.2.2.2.2.1).mono ?_
    rintro e w5 ⟨v, rfl, rfl, sx, kx, lx, hdx, hokx, hT⟩
    have HX := Lib.hid (And.intro hdx hokx)
    have HT2 := Lib.hid (hT.swap)
    clear hT HT hdx hokx
    go_wp2_with fail
    have HL : Hid (Same sizes (new max) (text.take 0) (new max) 0 [] ∧ Two w w5 Az nz cz (p + 1 + 1 + 1) (p + 1) (new max) 0 [] (p + 1 + 1) p sx kx ([] ++ lx) ∧ ([] : List It).length + meas (new max) ≤ 2 * 0 ∧ 0 ≤ ([] : List It).length) :=
      ⟨Same.start ⟨by simp [new]; omega, .inl rfl, by simp [new], by simp [new]⟩, HT2.out, Nat.le_refl _, Nat.le_refl _⟩
    clear HT2
    go_loopg [15, 69] nc (fun gg vf i wr => ∃ (k fr : Nat) (sy : St) (ky : Nat) (ly : List It), k ≤ nc ∧ gg = nc - k ∧ i = .int .i64 k ∧ vf = .int .i64 fr ∧ fr ≤ nt ∧ Hid (Same sizes (new max) (text.take fr) sy ky ly ∧ Two w wr Az nz cz (p + 1 + 1 + 1) (p + 1) sy ky ly (p + 1 + 1) p sx kx ([] ++ lx) ∧ ly.length + meas sy ≤ 2 * fr ∧ ky ≤ ly.length))
    case atStart => exact ⟨0, 0, _, 0, [], by omega, by omega, rfl, rfl, by omega, HL⟩
    case round =>
      clear HL
      obtain ⟨k, fr, sy, ky, ly, hk, rfl, rfl, rfl, hfr, HL⟩ := hrel
      by_cases hlt : k < nc
      · have hcw := H.out.2.1.below HL.out.2.1.below'
        have hclen := H.out.2.2.2.2.2.2.2.2
        obtain ⟨gc, oc, hAc, hcell⟩ := hcw.at_ k (by simp; omega)
        simp only [List.getElem_map] at hcell
        have hzc := H.out.2.2.1 _ (List.getElem_mem (show k < cuts.length by omega))
        generalize cuts[k] = z at hcell hzc
        subst hAc
        obtain ⟨h1, h2⟩ := among_range z ((nt : Int) - fr + 1) (by omega)
        obtain ⟨m, hm⟩ := Int.eq_ofNat_of_zero_le h1
        have hmn : fr + m ≤ nt := by omega
        have hs : ∀ W, (Instr.slice 30 (.slice At nt ct) (some (.int .i64 (fr : Int))) (some (.int .i64 ((fr : Int) + (m : Int)))) none).run Try.prog W = .ok (.slice (cutA At ct fr 1) m (ct - fr)) W := fun W => by
          have := slice_both W At nt ct fr (fr + m) (by omega) (by have := H.out.1.le; omega)
          simpa using this
        have hpc : RdB w (cutA At ct fr 1) m (ct - fr) ((text.drop fr).take m) := by
          have := H.out.1.bcut fr (fr + m) (by omega) (by omega)
          simpa using this
        have hheld : sy.held.length ≤ fr := by have := HL.out.2.2.1; unfold meas at this; omega
        have HM := Lib.hid (And.intro hm hpc)
        clear h1 h2 hm hpc hcw hclen
        go_wp2_with fail
        with_reducible refine (among_calls wr z ((nt : Int) - fr + 1) hzc (by omega)).mono ?_
        rintro e w' ⟨rfl, rfl⟩
        rw [HM.out.1]
        go_wp2_with fail
        with_reducible refine (HL.out.2.1.feed (cutA At ct fr 1) m (ct - fr) _ HM.out.2 (by omega)).mono ?_
        rintro e w6 ⟨v, rfl, rfl, hT6⟩
        have HT6 := Lib.hid hT6
        clear hT6
        have hfm := feed_meas sy ((text.drop fr).take m)
        have hlm : ((text.drop fr).take m).length ≤ m := List.length_take_le _ _
        have hsame := HL.out.1.feed ((text.drop fr).take m)
        rw [← List.take_add] at hsame
        have hcount := HL.out.2.2.1
        have hky := HL.out.2.2.2
        have HS := Lib.hid hsame
        clear hsame hs
        by_cases h3 : (k : Int) % 3 = 2
        · have h3b : ((k : Int) % 3 != 2) = false := by simp [h3]
          have HI : Hid (Same sizes (new max) (text.take (fr + m)) (Intake.feed sy ((text.drop fr).take m)) ky ly ∧ Two w w6 Az nz cz (p + 1 + 1 + 1) (p + 1) (Intake.feed sy ((text.drop fr).take m)) ky ly (p + 1 + 1) p sx kx ([] ++ lx) ∧ ly.length + meas (Intake.feed sy ((text.drop fr).take m)) ≤ 2 * (fr + m) ∧ ky ≤ ly.length) := ⟨HS.out, HT6.out, by omega, hky⟩
          clear HS HT6 hfm hlm hcount hky
          go_wp2_with fail
          go_roundg (nc - (k + 1))
          case measure => omega
          case rel => exact ⟨k + 1, fr + m, _, ky, ly, by omega, rfl, by go_num, by go_num, by omega, HI⟩
        · have h3b : ((k : Int) % 3 != 2) = true := by simp [h3]
          go_wp2_with fail
          with_reducible refine (HT6.out.drain sizes H.out.2.2.2.1 H.out.2.2.2.2.1 H.out.2.2.2.2.2.1 hky (by omega) H.out.2.2.2.2.2.2.1).mono ?_
          rintro e w7 ⟨v, rfl, rfl, s', k', l, hd, hok, hT7⟩
          have h1 := drains_count hd
          have h2 := drains_lines hd
          have HI : Hid (Same sizes (new max) (text.take (fr + m)) s' k' (ly ++ l) ∧ Two w w7 Az nz cz (p + 1 + 1 + 1) (p + 1) s' k' (ly ++ l) (p + 1 + 1) p sx kx ([] ++ lx) ∧ (ly ++ l).length + meas s' ≤ 2 * (fr + m) ∧ k' ≤ (ly ++ l).length) := ⟨HS.out.drain hd hok, hT7, by rw [List.length_append]; omega, by rw [List.length_append]; omega⟩
          clear HS HT6 hfm hlm hcount hky hd hok hT7 h1 h2
          go_wp2_with fail
          go_roundg (nc - (k + 1))
          case measure => omega
          case rel => exact ⟨k + 1, fr + m, s', k', ly ++ l, by omega, rfl, by go_num, by go_num, by omega, HI⟩
      · obtain rfl : k = nc := by omega
        have hs : ∀ W, (Instr.slice 30 (.slice At nt ct) (some (.int .i64 (fr : Int))) none none).run Try.prog W = .ok (.slice (cutA At ct fr 1) (nt - fr) (ct - fr)) W := fun W => slice_lo W At nt ct fr (by omega)
        have htl := H.out.2.2.2.2.2.2.2.1
        have hpc : RdB w (cutA At ct fr 1) (nt - fr) (ct - fr) (text.drop fr) := by
          have := H.out.1.bcut fr nt (by omega) (by omega)
          rwa [List.take_of_length_le (by rw [List.length_drop]; omega)] at this
        have hheld : sy.held.length ≤ fr := by have := HL.out.2.2.1; unfold meas at this; omega
        have HM := Lib.hid hpc
        clear hpc htl
        go_wp2_with fail
        with_reducible refine (HL.out.2.1.feed (cutA At ct fr 1) (nt - fr) (ct - fr) _ HM.out (by omega)).mono ?_
        rintro e w6 ⟨v, rfl, rfl, hT6⟩
        have htl := H.out.2.2.2.2.2.2.2.1
        have hfm := feed_meas sy (text.drop fr)
        have hlm : (text.drop fr).length = nt - fr := by rw [List.length_drop]; omega
        have hsame := HL.out.1.feed (text.drop fr)
        rw [List.take_append_drop] at hsame
        have hcount := HL.out.2.2.1
        have hky := HL.out.2.2.2
        have HS := Lib.hid hsame
        have HT6 := Lib.hid hT6
        clear hT6 hsame hs HM
        go_wp2_with fail
        with_reducible refine (HT6.out.drain sizes H.out.2.2.2.1 H.out.2.2.2.2.1 H.out.2.2.2.2.2.1 hky (by omega) H.out.2.2.2.2.2.2.1).mono ?_
        rintro e w7 ⟨v, rfl, rfl, s', k', l, hd, hok, hT7⟩
        have h1 := drains_count hd
        obtain ⟨e1, e2⟩ := HS.out.end_ hd HX.out.1
        rw [List.nil_append, e1, e2] at hT7
        have hlb0 : (ly ++ l).length ≤ 1000000000000 := by rw [List.length_append]; omega
        generalize ly ++ l = its at hT7 hlb0
        have HT7 := Lib.hid (And.intro hT7 hlb0)
        clear hlb0
        clear hT7 HS HT6 hfm hlm hcount hky hd hok h1 e1 e2 htl HL HX
        go_wp2_with fail
        obtain ⟨⟨Ay, capy, Aiy, ciy, by_, Ax, capx, Aix, cix, bx, hry, hrx, -, -, hbel⟩, hlb⟩ := HT7.out
        have y3 := hry.blk.cell 3
        have x3 := hrx.blk.cell 3
        simp only [List.getElem?_cons_zero, List.getElem?_cons_succ] at y3 x3
        have HCy := Lib.hid (fun n => (Held_calls (w7.drewN n) _ _ _ _ (hry.inn.mod ((Mod.refl (fun _ => False) w7).drewN n) fun _ _ h => h)).mono fun e w' (he : e = .returned (.int .i64 s'.held.length) ∧ w7.drewN n = w') => (⟨he.1, he.2.symm⟩ : e = .returned (.int .i64 s'.held.length) ∧ w' = w7.drewN n))
        have HCx := Lib.hid (fun n => (Held_calls (w7.drewN n) _ _ _ _ (hrx.inn.mod ((Mod.refl (fun _ => False) w7).drewN n) fun _ _ h => h)).mono fun e w' (he : e = .returned (.int .i64 s'.held.length) ∧ w7.drewN n = w') => (⟨he.1, he.2.symm⟩ : e = .returned (.int .i64 s'.held.length) ∧ w' = w7.drewN n))
        have HR := Lib.hid (And.intro hry (And.intro hrx hbel))
        clear hry hrx hbel HT7
        go_quiet ((go_at_call 13; first | exact Calls.quiet_of_same (HCx.out _) | exact Calls.quiet_of_same (HCy.out _)))
        generalize hw8 : w7.drewN _ = w8
        have hm8 : Mod (fun _ => False) w7 w8 := by rw [← hw8]; exact (Mod.refl _ w7).drewN _
        have hry := HR.out.1.mod hm8 fun _ _ h => h
        have hrx := HR.out.2.1.mod hm8 fun _ _ h => h
        have hbel := HR.out.2.2.trans (hm8.below HR.out.2.2.size fun _ _ h => h)
        clear HR x3 y3 hw8 hm8
        have y3 := hry.blk.cell 3
        have x3 := hrx.blk.cell 3
        simp only [List.getElem?_cons_zero, List.getElem?_cons_succ] at y3 x3
        have HR := Lib.hid (And.intro hry (And.intro hrx hbel))
        clear hry hrx hbel HCx HCy
        go_wp2_with fail
        go_loopg [126] its.length (fun gg i wr => ∃ j : Nat, j ≤ its.length ∧ gg = its.length - j ∧ i = .int .i64 j ∧ Hid (Mod (fun _ => False) w8 wr))
        case atStart => exact ⟨0, by omega, by omega, rfl, Mod.refl _ _⟩
        case round =>
          obtain ⟨j, hj, rfl, rfl, HMr⟩ := hrel
          have hry := HR.out.1.mod HMr.out fun _ _ h => h
          have hrx := HR.out.2.1.mod HMr.out fun _ _ h => h
          by_cases hlt2 : j < its.length
          · obtain ⟨gy, oy, hyb, rfl, y0, y1, y2, hyr⟩ := hry.item j hlt2
            obtain ⟨gx, ox, hxb, rfl, x0, x1, x2, hxr⟩ := hrx.item j hlt2
            have y3 := hry.blk.cell 3
            have x3 := hrx.blk.cell 3
            simp only [List.getElem?_cons_zero, List.getElem?_cons_succ] at y3 x3
            have HC := Lib.hid (alike_calls wr.drew its[j].kind its[j].kind ⟨its[j].text.toArray⟩ ⟨its[j].text.toArray⟩ _ _ _ _ _ _ _ _ (hxr.mod ((Mod.refl (fun _ => False) wr).drew) fun _ _ h => h) (hyr.mod ((Mod.refl (fun _ => False) wr).drew) fun _ _ h => h))
            generalize its[j] = it at *
            have ht : alikeB it.kind it.kind ⟨it.text.toArray⟩ ⟨it.text.toArray⟩ it.body it.body = true := by simp [alikeB]
            rw [ht] at HC
            have HKS := Lib.hid (And.intro x3 (And.intro y3 (And.intro x0 (And.intro x1 (And.intro x2 (And.intro y0 (And.intro y1 y2)))))))
            have HQ : Hid (∀ W, Mod (fun _ => False) wr.drew W → W.cell? ⟨p + 1 + 1, 3, none⟩ = some (.slice (some ⟨gx, ox, none⟩) its.length cix) ∧ W.cell? ⟨p + 1 + 1 + 1, 3, none⟩ = some (.slice (some ⟨gy, oy, none⟩) its.length ciy) ∧ W.cell? ⟨gx, ox + j * 3, none⟩ = some (.int .i64 it.kind) ∧ W.cell? ⟨gx, ox + j * 3 + 1, none⟩ = some (.string ⟨it.text.toArray⟩) ∧ W.cell? ⟨gx, ox + j * 3 + 2, none⟩ = some (.slice bx[j].addr it.body.length bx[j].cap) ∧ W.cell? ⟨gy, oy + j * 3, none⟩ = some (.int .i64 it.kind) ∧ W.cell? ⟨gy, oy + j * 3 + 1, none⟩ = some (.string ⟨it.text.toArray⟩) ∧ W.cell? ⟨gy, oy + j * 3 + 2, none⟩ = some (.slice by_[j].addr it.body.length by_[j].cap)) := fun W hm => ⟨hm.cell x3 id, hm.cell y3 id, hm.cell x0 id, hm.cell x1 id, hm.cell x2 id, hm.cell y0 id, hm.cell y1 id, hm.cell y2 id⟩
            clear hry hrx hyr hxr ht
            go_wp2_with fail
            go_region_held3 (fun w' => w'.cell? ⟨p + 1 + 1, 3, none⟩ = some (.slice (some ⟨gx, ox, none⟩) its.length cix) ∧ w'.cell? ⟨p + 1 + 1 + 1, 3, none⟩ = some (.slice (some ⟨gy, oy, none⟩) its.length ciy) ∧ w'.cell? ⟨gx, ox + j * 3, none⟩ = some (.int .i64 it.kind) ∧ w'.cell? ⟨gx, ox + j * 3 + 1, none⟩ = some (.string ⟨it.text.toArray⟩) ∧ w'.cell? ⟨gx, ox + j * 3 + 2, none⟩ = some (.slice bx[j].addr it.body.length bx[j].cap) ∧ w'.cell? ⟨gy, oy + j * 3, none⟩ = some (.int .i64 it.kind) ∧ w'.cell? ⟨gy, oy + j * 3 + 1, none⟩ = some (.string ⟨it.text.toArray⟩) ∧ w'.cell? ⟨gy, oy + j * 3 + 2, none⟩ = some (.slice by_[j].addr it.body.length by_[j].cap)) (first | exact HKS.out | exact HQ.out _ (by assumption) | go_keep) (first | (go_at_call 20; refine HC.out.mono ?_; rintro e w9 ⟨rfl, hm9⟩))
            all_goals
              have HM9 : Hid (Mod (fun _ => False) w8 w9) := HMr.out.drew.trans hm9
              clear hm9 x0 x1 x2 x3 y0 y1 y2 y3
              go_wp2_with fail
              go_roundg (its.length - (j + 1))
              case measure => omega
              case rel => exact ⟨j + 1, by omega, rfl, by go_num, HM9⟩
          · obtain rfl : j = its.length := by omega
            clear hry hrx
            go_wp2_with fail
            go_ret
            exact Gives.mk ⟨rfl, HR.out.2.2.trans (HMr.out.below HR.out.2.2.size fun _ _ h => h)⟩
