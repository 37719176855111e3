/-
  IntakeScript: the walk of the statement itself.
-/
import Derived.Test.YtoeaaomgilgncaaDesk10
namespace Go.Proofs.Ytoeaaomgilgncaa
open Go.RowKit Go.Mem Go.Intake
set_option linter.unusedVariables false

theorem Desk.quiet {w0 w w' : World} {d : Nat} {L : List PR} {T K : Nat} (h : Desk w0 w d L T K) (hm : Mod (fun _ => False) w w') : Desk w0 w' d L T K := by
  obtain ⟨a, h1, h2⟩ := h
  exact ⟨a, h1, h2.quiet hm⟩
theorem Desk.below {w0 w : World} {d : Nat} {L : List PR} {T K : Nat} (h : Desk w0 w d L T K) : Below w0.heap.size w0 w := by
  obtain ⟨a, h1, h2⟩ := h
  exact h2.below
theorem desk_both {w0 w : World} {d : Nat} {a : DA} {L : List PR} {T K : Nat} (hok : DeskOk a L T K) (h : Holds w0 w (deskL d a L)) : Both w (a.oo ++ a.fo) (a.ow ++ a.fw) := by
  have h1 := book_owned (book_owned (show Holds w0 w (bookL d _ _ _ _ _ _ _ _ _ _ _ _ (a.oo ++ a.ow) ++ (a.fo.map aO ++ (a.fw.map aO ++ _))) from h))
  have h2 := Holds.old_get (Holds.front (l := [aBlk d _ 32, aOwn 30 1 _ _ _ _, aOwn 30 1 _ _ _ _]) (P := aOld (a.oo ++ a.ow ++ a.fo ++ a.fw)) h1)
  refine ⟨fun o ho => h2 o ?_, fun o ho => h2 o ?_, by rw [List.map_append, List.map_append, hok.e1, hok.e2]⟩
  · simp only [List.mem_append] at ho ⊢
    rcases ho with ho | ho
    · exact .inl (.inl (.inl ho))
    · exact .inl (.inr ho)
  · simp only [List.mem_append] at ho ⊢
    rcases ho with ho | ho
    · exact .inl (.inl (.inr ho))
    · exact .inr ho
theorem dholds_calls {w0 w : World} {d : Nat} {L : List PR} {T K : Nat} (h : Desk w0 w d L T K) : Calls Try.prog 11 #[.pointer (some ⟨d, 2, none⟩)] w fun e w' => e = .returned (.bool true) ∧ ∃ q, w' = w.drewN q := by
  obtain ⟨a, hok, hh⟩ := h
  obtain ⟨R, hb⟩ := desk_blk hh
  exact holds_calls w d _ _ _ _ _ _ _ _ _ _ _ _ hb.blk.1 (book_out (show Holds w0 w (bookL d _ _ _ _ _ _ _ _ _ _ _ _ (a.oo ++ a.ow) ++ _) from hh)).rd (book_want (show Holds w0 w (bookL d _ _ _ _ _ _ _ _ _ _ _ _ (a.oo ++ a.ow) ++ _) from hh)).rd (desk_both hok hh)
theorem dwrite_calls {w0 w : World} {d : Nat} {L : List PR} {T K : Nat} (h : Desk w0 w d L T K) (hT : T ≤ 100000000000) (hK : K ≤ 10000000000) :
    Calls Try.prog 15 #[.pointer (some ⟨d, 2, none⟩)] w (Gives fun v w' => v = .bool true ∧ Below w0.heap.size w0 w') := by
  obtain ⟨a, hok, hh⟩ := h
  have hcnt := hok.cnt
  refine (write_calls w0 w d (.slice a.Aa L.length a.ca) (.slice a.Ab L.length a.cb) (.slice a.Al a.nl a.cl) a.Ao a.no a.co a.Aw a.no a.cw a.oo a.ow a.fo a.fw _ hh hok.e1 hok.e2 (by omega) (fun o ho => Nat.le_trans (hok.fb o ho) hT)).mono ?_
  rintro e w' ⟨v, rfl, rfl, _, _, _, _, _, _, _, _, _, hh'⟩
  exact Gives.mk ⟨rfl, hh'.below⟩
/-- A new desk. -/
theorem desk_new (w : World) : Desk w (w.alloc (.cells #[.slice none 0 0, .slice none 0 0, .slice none 0 0, .slice none 0 0, .int .i64 0, .slice none 0 0] 32)) w.heap.size [] 0 0 := by
  have hn : ∀ {l : List Ast} {e size : Nat}, Holds w w l → Holds w w (aOwn e size none 0 0 [] :: l) := fun {l e size} h =>
    h.cons (P := aOwn e size none 0 0 []) (S := fun _ => False) (Mod.refl _ _) ⟨Own.nil _ _ _, fun k => by simp⟩ fun _ h => h.elim
  have h := Holds.alloc_blk (hn (e := 30) (size := 1) (hn (e := 30) (size := 1) (Holds.old_nil (hn (e := 38) (size := 1) (hn (e := 40) (size := 1) (hn (e := 5) (size := 1) (Holds.start (w0 := w)))))))) (deskCells (.slice none 0 0) (.slice none 0 0) none 0 0 none 0 0 0 (.slice none 0 0)) 32
  exact ⟨⟨none, none, none, none, none, 0, 0, 0, 0, 0, 0, 0, [], [], [], [], []⟩, ⟨rfl, rfl, fun o ho => by simp at ho, Nat.le_refl _, fun x hx => by simp at hx⟩, h⟩

/-- The desk, its rows and what they point to. -/
def DP (w0 : World) (d m : Nat) (va vb : List Value) (T : Nat) (Aa : Option Addr) (ca : Nat) (Ab : Option Addr) (cb K : Nat) (W : World) : Prop :=
  ∃ L : List PR, L.length = m ∧ L.map PR.va = va ∧ L.map PR.vb = vb ∧ DeskA w0 W d L T K Aa ca Ab cb
section
variable {w0 W : World} {d m T ca cb K j p q : Nat} {va vb : List Value} {Aa Ab : Option Addr}
theorem dp_at {L : List PR} (h : L.map PR.va = va) (hp : va[j]? = some (.pointer (some ⟨p, 0, none⟩))) (hj : j < L.length) : L[j].p = p := by
  subst h
  simp only [List.getElem?_map, List.getElem?_eq_getElem hj, Option.map_some, PR.va, Option.some.injEq, Value.pointer.injEq, Addr.mk.injEq] at hp
  exact hp.1
theorem dp_bt {L : List PR} (h : L.map PR.vb = vb) (hp : vb[j]? = some (.pointer (some ⟨q, 0, none⟩))) (hj : j < L.length) : L[j].q = q := by
  subst h
  simp only [List.getElem?_map, List.getElem?_eq_getElem hj, Option.map_some, PR.vb, Option.some.injEq, Value.pointer.injEq, Addr.mk.injEq] at hp
  exact hp.1
theorem DP.next (h : DP w0 d m va vb T Aa ca Ab cb K W) (hK : K ≤ 9999999999) (hj : j < m) (hm : m ≤ 4) (hT : T ≤ 100000000000) (hG : Lw w0) :
    Calls Try.prog 12 #[.pointer (some ⟨d, 0, none⟩), .int .i64 j] W (Gives fun v w' => v = .bool true ∧ DP w0 d m va vb T Aa ca Ab cb (K + 1) w') := by
  obtain ⟨L, h1, h2, h3, h4⟩ := h
  refine (dnextA_calls w0 W d L T K Aa ca Ab cb h4 j (by omega) hT (by omega) (by omega) hG).mono ?_
  rintro e w' ⟨v, rfl, rfl, hk, h5⟩
  exact Gives.mk ⟨rfl, _, by rw [List.length_set]; exact h1, (map_set_same PR.va L j ⟨L[j].p, (Intake.next L[j].s).1, L[j].q, (rnext L[j].r).1⟩ hk rfl).trans h2, (map_set_same PR.vb L j ⟨L[j].p, (Intake.next L[j].s).1, L[j].q, (rnext L[j].r).1⟩ hk rfl).trans h3, h5⟩
theorem DP.held (h : DP w0 d m va vb T Aa ca Ab cb K W) (hj : j < m) (hp : va[j]? = some (.pointer (some ⟨p, 0, none⟩))) (hq : vb[j]? = some (.pointer (some ⟨q, 0, none⟩))) :
    ∃ n : Nat, (Calls Try.prog 13 #[.pointer (some ⟨p, 0, none⟩)] W fun e w' => e = .returned (.int .i64 n) ∧ W = w') ∧ (Calls Try.prog 14 #[.pointer (some ⟨q, 0, none⟩)] W fun e w' => e = .returned (.int .i64 n) ∧ W = w') := by
  obtain ⟨L, h1, h2, h3, a, _, hok, hh⟩ := h
  have hjl : j < L.length := by omega
  obtain ⟨RZ, HZ, _⟩ := desk_zoom (R0 := []) hh j hjl
  obtain ⟨A, cap, hI, _, _⟩ := Holds.ain HZ
  obtain ⟨A', cap', hR, _, _⟩ := Holds.rin HZ.swap
  rw [dp_at h2 hp hjl] at hI
  rw [dp_bt h3 hq hjl] at hR
  refine ⟨L[j].s.held.length, Held_calls W p A cap _ hI, ?_⟩
  have := RHeld_calls W q A' cap' _ hR
  rwa [← (hok.eqv _ (List.getElem_mem hjl)).1.held] at this
theorem DP.cells {gA oA gB oB : Nat} (h : DP w0 d m va vb T (some ⟨gA, oA, none⟩) ca (some ⟨gB, oB, none⟩) cb K W) (hj : j < m) (hp : va[j]? = some (.pointer (some ⟨p, 0, none⟩))) (hq : vb[j]? = some (.pointer (some ⟨q, 0, none⟩))) :
    W.cell? ⟨d, 0, none⟩ = some (.slice (some ⟨gA, oA, none⟩) m ca) ∧ W.cell? ⟨d, 1, none⟩ = some (.slice (some ⟨gB, oB, none⟩) m cb) ∧ W.cell? ⟨gA, oA + j, none⟩ = some (.pointer (some ⟨p, 0, none⟩)) ∧ W.cell? ⟨gB, oB + j, none⟩ = some (.pointer (some ⟨q, 0, none⟩)) := by
  obtain ⟨L, h1, h2, h3, a, ⟨e1, e2, e3, e4⟩, hok, hh⟩ := h
  have hjl : j < L.length := by omega
  obtain ⟨c0, c1, -⟩ := desk_cells hh
  obtain ⟨⟨g1, o1, f1, y1, -⟩, ⟨g2, o2, f2, y2, -⟩⟩ := desk_at hh j hjl
  rw [e1] at f1 c0
  rw [e3] at f2 c1
  cases f1
  cases f2
  rw [h1, e2] at c0
  rw [h1, e4] at c1
  rw [dp_at h2 hp hjl] at y1
  rw [dp_bt h3 hq hjl] at y2
  exact ⟨c0, c1, y1, y2⟩
theorem DP.quiet {W' : World} (h : DP w0 d m va vb T Aa ca Ab cb K W) (hm : Mod (fun _ => False) W W') : DP w0 d m va vb T Aa ca Ab cb K W' := by
  obtain ⟨L, h1, h2, h3, a, h4, hok, hh⟩ := h
  exact ⟨L, h1, h2, h3, a, h4, hok, hh.quiet hm⟩
end
def Made (w : World) (d : Nat) (W : World) : Prop := ∃ L : List PR, L.length ≤ 2 ∧ Desk w W d L 0 0
/-- What made leaves, whatever it is given. -/
theorem made_any (w0 w : World) (d : Nat) (j : Nat) (hj : j ≤ 1) (m : Int) (h : ∃ L : List PR, L.length ≤ j ∧ Desk w0 w d L 0 0) :
    Calls Try.prog 9 #[.pointer (some ⟨d, 0, none⟩), .int .i64 m] w (Gives fun v w' => v = .bool true ∧ ∃ L : List PR, L.length ≤ j + 1 ∧ Desk w0 w' d L 0 0) := by
  obtain ⟨L, hL, hD⟩ := h
  by_cases hm : m < 1 ∨ 65535 < m
  · refine (made_no w d m hm).mono ?_
    rintro e w' ⟨rfl, rfl⟩
    exact Gives.mk ⟨rfl, L, by omega, hD⟩
  · refine (made_ok w0 w d L 0 0 hD m (by omega) (by omega) (by omega)).mono ?_
    rintro e w' ⟨v, rfl, rfl, p, q, hD'⟩
    exact Gives.mk ⟨rfl, _, by simp; omega, hD'⟩
set_option maxRecDepth 200000 in
set_option maxHeartbeats 4000000 in
theorem Script_calls (w : World) (one two : Int) (h1 : -9223372036854775808 ≤ one ∧ one ≤ 9223372036854775807) (h2 : -9223372036854775808 ≤ two ∧ two ≤ 9223372036854775807) (A : Option Addr) (n cap : Nat) (l : List Act) (h : Acts w A n cap l) (hcap : cap ≤ 4398046511104) (hda : ∀ a ∈ l, a.data.length ≤ 140737488355328) (hG : Lw w) :
    Calls Try.prog 3 #[.int .i64 one, .int .i64 two, .slice A n cap] w (Gives fun v w' => v = .bool true ∧ Below w.heap.size w w') := by
  have hln := h.len
  have hle := h.le
  have HB := Lib.hid (beyond_calls w A n cap l h hcap hda)
  have H := Lib.hid (And.intro h (And.intro hG hln))
  clear h hG hln hda
  go_enter Try.func3, Try.ntmps3
  go_wp2_with fail
  with_reducible refine HB.out.mono ?_
  rintro e w' ⟨rfl, rfl⟩
  cases hby : beyond l
  · have hbl : l.length + bytesIn l ≤ 2147483647 := by
      unfold beyond at hby
      simpa using hby
    have HBL := Lib.hid hbl
    clear hby HB hbl
    have hD := desk_new w
    have hGd := Lw.mod H.out.2.1 (Mod.of_below hD.below (fun _ => False)) id
    have HD := Lib.hid (And.intro hD hGd)
    clear hD hGd
    go_upto_region 4 with (fail)
    go_cut [28] (fun v W => v = .bool false ∧ Made w w.heap.size W)
    case first =>
      go_wp2_with fail
      with_reducible refine (shown_calls _ HD.out.2).mono ?_
      rintro e w1 ⟨v, rfl, rfl, hm1⟩
      have h1 := Lib.hid (made_any w w1 w.heap.size 0 (by omega) one ⟨[], Nat.le_refl _, HD.out.1.quiet hm1⟩)
      clear hm1
      go_wp2_with fail
      with_reducible refine h1.out.mono ?_
      rintro e w2 ⟨v, rfl, rfl, hx⟩
      have h2 := Lib.hid (made_any w w2 w.heap.size 1 (by omega) two hx)
      clear hx h1
      go_wp2_with fail
      with_reducible refine h2.out.mono ?_
      rintro e w3 ⟨v, rfl, rfl, hx⟩
      have HX : Hid (Made w w.heap.size w3) := hx
      clear hx h2
      go_wp2_with fail
      go_meet
      exact ⟨rfl, HX.out⟩
    case rest =>
      obtain ⟨rfl, L, hL, hD⟩ := hcut
      clear HD
      generalize w.heap.size = d at hD ⊢
      have hc0 : ∃ Ax cx, wc.cell? ⟨d, 0, none⟩ = some (.slice Ax L.length cx) := by
        obtain ⟨a, _, hh⟩ := hD
        exact ⟨_, _, (desk_cells hh).1⟩
      obtain ⟨Ax, cx, c0⟩ := hc0
      have HD := Lib.hid hD
      clear hD
      by_cases hL0 : L.length = 0
      · rw [hL0] at c0
        clear hL0 hL
        go_wp2_with fail
        go_ret
        exact Gives.mk ⟨rfl, HD.out.below⟩
      · have HLP := Lib.hid (And.intro (show 0 < L.length by omega) hL)
        obtain ⟨m, hm⟩ : ∃ m, m = L.length := ⟨_, rfl⟩
        rw [← hm] at c0 hL0
        have hm0 : (m == 0) = false := by simpa using hL0
        have hm1 : 1 ≤ m := by omega
        have hm2 : ((m : Int) == 0) = false := by simp; omega
        clear hL0 hL hm
        go_wp2_with fail
        clear c0 hm0 hm1 hm2
        have HI : Hid (∃ L' : List PR, 0 < L'.length ∧ L'.length ≤ 4 ∧ Desk w wc d L' (bytesIn (l.take 0)) 0) := ⟨L, HLP.out.1, by have := HLP.out.2; omega, HD.out⟩
        clear HD HLP
        go_loopg [37] n (fun gg v wr => ∃ k : Nat, k ≤ n ∧ gg = n - k ∧ v = .int .i64 k ∧ Hid (∃ L' : List PR, 0 < L'.length ∧ L'.length ≤ 4 ∧ Desk w wr d L' (bytesIn (l.take k)) k))
        case atStart => exact ⟨0, by omega, by omega, rfl, HI⟩
        case round =>
          clear HI
          obtain ⟨k, hk, rfl, rfl, HI⟩ := hrel
          obtain ⟨L', hl0, hl4, hD⟩ := HI.out
          by_cases hlt : k < n
          · have hln := H.out.2.2
            obtain ⟨gx, ox, hAe, hact⟩ := H.out.1.at_ (by omega)
            have ha := (hact k (by omega)).below hD.below
            have htk := bytesIn_take l k (by omega)
            have hle2 := bytesIn_le l (k + 1)
            have hbl := HBL.out
            obtain ⟨y0, y1, y2, ⟨Ad, nd, cd, y3, hrd⟩, hb1, hb2, hb3⟩ := ha
            have hrd0 : ∃ Ad' nd' cd', w.cell? ⟨gx, ox + k * 4 + 3, none⟩ = some (.slice Ad' nd' cd') ∧ RdB w Ad' nd' cd' l[k].data := by
              obtain ⟨_, _, _, ⟨Ad', nd', cd', z3, z4⟩, _⟩ := hact k (by omega)
              exact ⟨Ad', nd', cd', z3, z4⟩
            obtain ⟨Ad', nd', cd', z3, z4⟩ := hrd0
            have hz : wr.cell? ⟨gx, ox + k * 4 + 3, none⟩ = some (.slice Ad' nd' cd') := (hD.below.cell (p := ⟨gx, ox + k * 4 + 3, none⟩) (World.block_lt_of_cell? _ _ z3)).trans z3
            rw [y3] at hz
            simp only [Option.some.injEq, Value.slice.injEq] at hz
            obtain ⟨rfl, rfl, rfl⟩ := hz
            have hnd : l[k].data.length = nd := z4.blen
            generalize l[k] = ac at *
            subst hAe
            have HA := Lib.hid (And.intro z4 (And.intro htk hnd))
            have hTn : bytesIn (l.take k) + nd ≤ 100000000000 := by omega
            have hkb : k ≤ 2147483647 := by omega
            have hD1 := Lib.hid (hD.quiet ((Mod.refl (fun _ => False) wr).alloc (.cells #[.int .i64 ac.kind, .int .i64 ac.at_, .int .i64 ac.n, .slice Ad nd cd] 36)))
            clear hact htk hle2 hbl hrd z3 z4 hnd hln hD HI
            go_wp2_with fail
            with_reducible refine (dact_calls w _ d L' (bytesIn (l.take k)) k hD1.out ac.kind ac.at_ ac.n hb1 hb2 hb3 Ad nd cd ac.data HA.out.1 hTn (by omega) hl4 hl0 H.out.2.1).mono ?_
            rintro e w3 ⟨v, rfl, rfl, L2, hm4, hm0, hD3⟩
            rw [← HA.out.2.2, ← HA.out.2.1] at hD3
            have HE := Lib.hid (And.intro (show 0 < L2.length by omega) (And.intro hm4 hD3))
            clear hm4 hm0 hD3 hD1
            by_cases h3 : k < 300
            · have hd3 : decide ((k : Int) < 300) = true := by simp; omega
              go_wp2_with fail
              with_reducible refine (dholds_calls HE.out.2.2).mono ?_
              rintro e w4 ⟨rfl, q, rfl⟩
              have HE2 : Hid (∃ L' : List PR, 0 < L'.length ∧ L'.length ≤ 4 ∧ Desk w (w3.drewN q) d L' (bytesIn (l.take (k + 1))) (k + 1)) := ⟨L2, HE.out.1, HE.out.2.1, HE.out.2.2.quiet ((Mod.refl _ w3).drewN q)⟩
              clear HE
              go_wp2_with fail
              go_roundg (n - (k + 1))
              case measure => omega
              case rel => exact ⟨k + 1, by omega, rfl, by go_num, HE2⟩
            · have hd3 : decide ((k : Int) < 300) = false := by simp; omega
              have HE2 : Hid (∃ L' : List PR, 0 < L'.length ∧ L'.length ≤ 4 ∧ Desk w w3 d L' (bytesIn (l.take (k + 1))) (k + 1)) := ⟨L2, HE.out.1, HE.out.2.1, HE.out.2.2⟩
              clear HE
              go_wp2_with fail
              go_roundg (n - (k + 1))
              case measure => omega
              case rel => exact ⟨k + 1, by omega, rfl, by go_num, HE2⟩
          · obtain rfl : k = n := by omega
            have hT0 : bytesIn (l.take k) ≤ 100000000000 := by have := bytesIn_le l k; have := HBL.out; omega
            have hK0 : k ≤ 2147483647 := by have := HBL.out; have := H.out.2.2; omega
            generalize bytesIn (l.take k) = T at hD hT0
            have hc0 : ∃ Ax cx, wr.cell? ⟨d, 0, none⟩ = some (.slice Ax L'.length cx) := by
              obtain ⟨a, _, hh⟩ := hD
              exact ⟨_, _, (desk_cells hh).1⟩
            obtain ⟨Ay, cy, c0⟩ := hc0
            have HD := Lib.hid hD
            clear hD HI
            go_wp2_with fail
            clear c0
            have HI : Hid (∃ L2 : List PR, L2.length = L'.length ∧ Desk w wr d L2 T (k + 2 * 0)) := ⟨L', rfl, HD.out⟩
            clear HD
            go_loopg [63] L'.length (fun gg v wr => ∃ j : Nat, j ≤ L'.length ∧ gg = L'.length - j ∧ v = .int .i64 j ∧ Hid (∃ L2 : List PR, L2.length = L'.length ∧ Desk w wr d L2 T (k + 2 * j)))
            case atStart => exact ⟨0, by omega, by omega, rfl, HI⟩
            case round =>
              clear HI
              obtain ⟨j, hj, rfl, rfl, HI⟩ := hrel
              obtain ⟨L2, hl2, hD⟩ := HI.out
              by_cases hlt2 : j < L'.length
              · obtain ⟨Aa, ca, Ab, cb, hDA⟩ := hD.rows
                have hra : ∃ gA oA gB oB, Aa = some ⟨gA, oA, none⟩ ∧ Ab = some ⟨gB, oB, none⟩ := by
                  obtain ⟨a, ⟨e1, _, e3, _⟩, _, hh⟩ := hDA
                  obtain ⟨⟨g1, o1, f1, _⟩, ⟨g2, o2, f2, _⟩⟩ := desk_at hh j (by omega)
                  exact ⟨g1, o1, g2, o2, e1.symm.trans f1, e3.symm.trans f2⟩
                obtain ⟨gA, oA, gB, oB, rfl, rfl⟩ := hra
                have hp : (L2.map PR.va)[j]? = some (.pointer (some ⟨L2[j].p, 0, none⟩)) := by rw [List.getElem?_map, List.getElem?_eq_getElem (by omega)]; rfl
                have hq : (L2.map PR.vb)[j]? = some (.pointer (some ⟨L2[j].q, 0, none⟩)) := by rw [List.getElem?_map, List.getElem?_eq_getElem (by omega)]; rfl
                have hx : DP w d L'.length (L2.map PR.va) (L2.map PR.vb) T (some ⟨gA, oA, none⟩) ca (some ⟨gB, oB, none⟩) cb (k + 2 * j) wr := ⟨L2, hl2, rfl, rfl, hDA⟩
                have hx0 := hx.quiet ((Mod.refl (fun _ => False) wr).drew)
                generalize L2[j].p = p at hp
                generalize L2[j].q = q at hq
                generalize L2.map PR.va = va at hp hx hx0
                generalize L2.map PR.vb = vb at hq hx hx0
                have HN := Lib.hid (fun W' K' (h : DP w d L'.length va vb T (some ⟨gA, oA, none⟩) ca (some ⟨gB, oB, none⟩) cb K' W') (hK : K' ≤ 9999999999) => h.next hK hlt2 hl4 hT0 H.out.2.1)
                have HS : Hid (∀ (w' : World) K', DP w d L'.length va vb T (some ⟨gA, oA, none⟩) ca (some ⟨gB, oB, none⟩) cb K' w' → w'.cell? ⟨d, 0, none⟩ = some (.slice (some ⟨gA, oA, none⟩) L'.length ca) ∧ w'.cell? ⟨d, 1, none⟩ = some (.slice (some ⟨gB, oB, none⟩) L'.length cb) ∧ w'.cell? ⟨gA, oA + j, none⟩ = some (.pointer (some ⟨p, 0, none⟩)) ∧ w'.cell? ⟨gB, oB + j, none⟩ = some (.pointer (some ⟨q, 0, none⟩))) := fun w' K' h => h.cells hlt2 hp hq
                have HH := Lib.hid (fun W' K' (h : DP w d L'.length va vb T (some ⟨gA, oA, none⟩) ca (some ⟨gB, oB, none⟩) cb K' W') => h.held hlt2 hp hq)
                clear hp hq hDA hD HI hl2
                go_wp2_with fail
                go_region_held3 (fun w' => w'.cell? ⟨d, 0, none⟩ = some (.slice (some ⟨gA, oA, none⟩) L'.length ca) ∧ w'.cell? ⟨d, 1, none⟩ = some (.slice (some ⟨gB, oB, none⟩) L'.length cb) ∧ w'.cell? ⟨gA, oA + j, none⟩ = some (.pointer (some ⟨p, 0, none⟩)) ∧ w'.cell? ⟨gB, oB + j, none⟩ = some (.pointer (some ⟨q, 0, none⟩))) (first | exact HS.out _ _ (by assumption) | go_keep) (first | (go_at_call 12; refine (HN.out _ _ (by assumption) (by omega)).mono ?_; rintro e w9 ⟨v, rfl, rfl, hz⟩) | (go_at_call 13; refine (HH.out _ _ (by assumption)).choose_spec.1.mono ?_; rintro e w8 ⟨rfl, rfl⟩) | (go_at_call 14; refine (HH.out _ _ (by assumption)).choose_spec.2.mono ?_; rintro e w8 ⟨rfl, rfl⟩))
                all_goals
                  have HF : Hid (∃ L2 : List PR, L2.length = L'.length ∧ Desk w w9 d L2 T (k + 2 * (j + 1))) := by
                    obtain ⟨L3, a1, a2, a3, a4⟩ := hz
                    refine ⟨L3, a1, ?_⟩
                    rw [show k + 2 * (j + 1) = k + 2 * j + 1 + 1 from by omega]
                    exact a4.desk
                  generalize (HH.out w9 (k + 2 * j + 1 + 1) hz).choose = hl
                  clear hz hx hx0 HN HS HH
                  go_wp2_with fail
                  go_roundg (L'.length - (j + 1))
                  case measure => omega
                  case rel => exact ⟨j + 1, by omega, rfl, by go_num, HF⟩
              · obtain rfl : j = L'.length := by omega
                have hw := dwrite_calls hD hT0 (by omega)
                have HW := Lib.hid hw
                clear hw hD HI hl2
                go_wp2_with fail
                with_reducible refine HW.out.mono ?_
                rintro e w5 ⟨v, rfl, rfl, hb5⟩
                have HB5 := Lib.hid hb5
                clear hb5 HW
                go_wp2_with fail
                go_ret
                exact Gives.mk ⟨rfl, HB5.out⟩
  · clear hby
    go_wp2_with fail
    go_ret
    exact Gives.mk ⟨rfl, Below.refl _ _⟩
end Go.Proofs.Ytoeaaomgilgncaa
