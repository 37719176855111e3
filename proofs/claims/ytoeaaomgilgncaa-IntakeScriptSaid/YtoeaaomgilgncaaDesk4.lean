/-
  IntakeScript: the book of bodies that were handed out: write.
-/
import Derived.Test.YtoeaaomgilgncaaDesk3
namespace Go.Proofs.Ytoeaaomgilgncaa
open Go.RowKit Go.Mem Go.Intake
set_option linter.unusedVariables false

/-- The things of a book that is written. -/
def bookL (d : Nat) (va vb vl : Value) (fr : Int) (Ao : Option Addr) (no co : Nat) (Aw : Option Addr) (nw cw : Nat) (xs ys : List Value) (Y : List OB) : List Ast :=
  [aBlk d (deskCells va vb Ao no co Aw nw cw fr vl) 32, aOwn 30 1 Ao no co xs, aOwn 30 1 Aw nw cw ys, aOld Y]
section
variable {w0 w : World} {d : Nat} {va vb vl : Value} {fr : Int} {Ao Aw : Option Addr} {no co nw cw : Nat} {xs ys : List Value} {Y : List OB} {R : List Ast} {P Q : Ast}
/-- What a walk reads of it. -/
theorem book_cells (h : Holds w0 w (bookL d va vb vl fr Ao no co Aw nw cw xs ys Y ++ R)) : w.cell? ⟨d, 2, none⟩ = some (.slice Ao no co) ∧ w.cell? ⟨d, 3, none⟩ = some (.slice Aw nw cw) ∧ w.cell? ⟨d, 4, none⟩ = some (.int .i64 fr) := by
  have hb := (show Holds w0 w (aBlk d (deskCells va vb Ao no co Aw nw cw fr vl) 32 :: _) from h).blk.1
  have c2 := hb.cell 2
  have c3 := hb.cell 3
  have c4 := hb.cell 4
  simp only [deskCells, List.getElem?_cons_zero, List.getElem?_cons_succ] at c2 c3 c4
  exact ⟨c2, c3, c4⟩
theorem book_out (h : Holds w0 w (bookL d va vb vl fr Ao no co Aw nw cw xs ys Y ++ R)) : Own w 30 1 Ao no co xs := (Holds.swap (show Holds w0 w (aBlk d (deskCells va vb Ao no co Aw nw cw fr vl) 32 :: aOwn 30 1 Ao no co xs :: _) from h)).own.1
theorem book_want (h : Holds w0 w (bookL d va vb vl fr Ao no co Aw nw cw xs ys Y ++ R)) : Own w 30 1 Aw nw cw ys := (Holds.get3 (show Holds w0 w (aBlk d (deskCells va vb Ao no co Aw nw cw fr vl) 32 :: aOwn 30 1 Ao no co xs :: aOwn 30 1 Aw nw cw ys :: _) from h)).own.1
theorem book_first (h : Holds w0 w (bookL d va vb vl fr Ao no co Aw nw cw xs ys Y ++ P :: R)) : Holds w0 w (P :: (bookL d va vb vl fr Ao no co Aw nw cw xs ys Y ++ R)) := h.front
theorem book_second (h : Holds w0 w (bookL d va vb vl fr Ao no co Aw nw cw xs ys Y ++ P :: Q :: R)) : Holds w0 w (Q :: (bookL d va vb vl fr Ao no co Aw nw cw xs ys Y ++ P :: R)) := Holds.swap (Holds.front (l := P :: bookL d va vb vl fr Ao no co Aw nw cw xs ys Y) (h.front)) |> fun h => Holds.perm h (by
  refine List.Perm.trans (List.Perm.swap _ _ _) ?_
  exact List.Perm.cons _ (List.perm_middle.symm))
theorem book_unsecond (h : Holds w0 w (Q :: (bookL d va vb vl fr Ao no co Aw nw cw xs ys Y ++ P :: R))) : Holds w0 w (bookL d va vb vl fr Ao no co Aw nw cw xs ys Y ++ P :: Q :: R) :=
  h.perm (by
    refine List.Perm.trans (List.Perm.cons _ List.perm_middle) ?_
    refine List.Perm.trans (List.Perm.swap _ _ _) ?_
    refine List.Perm.trans (List.Perm.cons _ (List.perm_middle.symm)) ?_
    exact List.perm_middle.symm)
theorem book_unfirst (h : Holds w0 w (P :: (bookL d va vb vl fr Ao no co Aw nw cw xs ys Y ++ R))) : Holds w0 w (bookL d va vb vl fr Ao no co Aw nw cw xs ys Y ++ P :: R) := Holds.back h
theorem book_grown {o b m : OB} (h : Holds w0 w (bookL d va vb vl fr Ao no co Aw nw cw xs ys Y ++ (aGrow o b :: aO m :: R))) : Holds w0 w (bookL d va vb vl fr Ao no co Aw nw cw xs ys (Y ++ [o, b] ++ [m]) ++ R) := by
  have h1 := Holds.front (l := [aBlk d (deskCells va vb Ao no co Aw nw cw fr vl) 32, aOwn 30 1 Ao no co xs, aOwn 30 1 Aw nw cw ys, aOld Y]) (r := aO m :: R) (P := aGrow o b) h
  have h2 := Holds.front (l := [aGrow o b, aBlk d (deskCells va vb Ao no co Aw nw cw fr vl) 32, aOwn 30 1 Ao no co xs, aOwn 30 1 Aw nw cw ys]) (r := aO m :: R) (P := aOld Y) h1
  have h3 := Holds.grow_end (Holds.swap h2)
  have h4 := Holds.front (l := [aOld (Y ++ [o, b]), aBlk d (deskCells va vb Ao no co Aw nw cw fr vl) 32, aOwn 30 1 Ao no co xs, aOwn 30 1 Aw nw cw ys]) (r := R) (P := aO m) h3
  exact Holds.back (l := [aBlk d (deskCells va vb Ao no co Aw nw cw fr vl) 32, aOwn 30 1 Ao no co xs, aOwn 30 1 Aw nw cw ys]) (Holds.old_own h4)
theorem book_owned {m : List OB} (h : Holds w0 w (bookL d va vb vl fr Ao no co Aw nw cw xs ys Y ++ (m.map aO ++ R))) : Holds w0 w (bookL d va vb vl fr Ao no co Aw nw cw xs ys (Y ++ m) ++ R) := by
  have h1 := Holds.front (l := [aBlk d (deskCells va vb Ao no co Aw nw cw fr vl) 32, aOwn 30 1 Ao no co xs, aOwn 30 1 Aw nw cw ys]) (r := m.map aO ++ R) (P := aOld Y) h
  have h2 : Holds w0 w (aOld Y :: (m.map aO ++ ([aBlk d (deskCells va vb Ao no co Aw nw cw fr vl) 32, aOwn 30 1 Ao no co xs, aOwn 30 1 Aw nw cw ys] ++ R))) := h1.perm (List.Perm.cons _ (by
    rw [← List.append_assoc, ← List.append_assoc]
    exact List.Perm.append_right _ List.perm_append_comm))
  exact Holds.back (l := [aBlk d (deskCells va vb Ao no co Aw nw cw fr vl) 32, aOwn 30 1 Ao no co xs, aOwn 30 1 Aw nw cw ys]) (Holds.old_owns h2)
theorem book_sub {m : List OB} (h : Holds w0 w (bookL d va vb vl fr Ao no co Aw nw cw xs ys Y ++ R)) (hs : ∀ o ∈ m, o ∈ Y) : Holds w0 w (bookL d va vb vl fr Ao no co Aw nw cw xs ys m ++ R) := by
  have h1 := Holds.front (l := [aBlk d (deskCells va vb Ao no co Aw nw cw fr vl) 32, aOwn 30 1 Ao no co xs, aOwn 30 1 Aw nw cw ys]) (r := R) (P := aOld Y) h
  exact Holds.back (l := [aBlk d (deskCells va vb Ao no co Aw nw cw fr vl) 32, aOwn 30 1 Ao no co xs, aOwn 30 1 Aw nw cw ys]) (Holds.old_sub h1 hs)
end
theorem ob_get {l m : List OB} (h : l.map OB.val = m.map OB.val) (j : Nat) (hl : j < l.length) (hm : j < m.length) : l[j].val = m[j].val := by
  have := congrArg (fun l => l[j]?) h
  simpa [List.getElem?_map, List.getElem?_eq_getElem hl, List.getElem?_eq_getElem hm] using this
theorem ob_get_bytes {l m : List OB} (h : l.map OB.bytes = m.map OB.bytes) (j : Nat) (hl : j < l.length) (hm : j < m.length) : l[j].bytes = m[j].bytes := by
  have := congrArg (fun l => l[j]?) h
  simpa [List.getElem?_map, List.getElem?_eq_getElem hl, List.getElem?_eq_getElem hm] using this
/-- After the marks. -/
def Marked (w0 : World) (l0 R : List Ast) (fo fw : List OB) (w : World) : Prop :=
  ∃ fo' fw' : List OB, fo'.map OB.val = fo.map OB.val ∧ fw'.map OB.val = fw.map OB.val ∧ fo'.map OB.bytes = fw'.map OB.bytes ∧ Holds w0 w (l0 ++ (fo'.map aO ++ (fw'.map aO ++ R)))
theorem mark_byte (x : Int) (h0 : 0 ≤ x) : ∃ c : UInt8, (x % 256) = (c.toNat : Int) := ⟨UInt8.ofNat (x % 256).toNat, by
  have := Int.emod_lt_of_pos x (show (0 : Int) < 256 by omega)
  have := Int.emod_nonneg x (show (256 : Int) ≠ 0 by omega)
  simp only [UInt8.toNat_ofNat']
  omega⟩

/-- While they grow. -/
def Growing (w0 : World) (d : Nat) (va vb vl : Value) (nw : Nat) (oo ow fo fw fo' fw' : List OB) (R : List Ast) (j : Nat) (w : World) : Prop :=
  ∃ Ao co Aw cw G Gw Z, G.length = j ∧ Gw.length = j ∧ G.map OB.bytes = Gw.map OB.bytes ∧ (∀ o ∈ fo'.take j ++ (G ++ Gw), o ∈ Z) ∧
    Holds w0 w (bookL d va vb vl oo.length Ao (nw + j) co Aw (nw + j) cw ((oo ++ fo).map OB.val ++ G.map OB.val) ((ow ++ fw).map OB.val ++ Gw.map OB.val) (oo ++ ow ++ Z) ++ ((fo'.drop j).map aO ++ (fw'.map aO ++ R)))

def WritePost (w0 : World) (d : Nat) (va vb vl : Value) (n2 : Nat) (R : List Ast) (v : Value) (w' : World) : Prop :=
  v = .bool true ∧ ∃ Ao' co' Aw' cw' O' W', O'.length = n2 ∧ W'.length = n2 ∧ O'.map OB.bytes = W'.map OB.bytes ∧
    Holds w0 w' (bookL d va vb vl n2 Ao' n2 co' Aw' n2 cw' (O'.map OB.val) (W'.map OB.val) (O' ++ W') ++ R)

set_option maxRecDepth 100000 in
set_option maxHeartbeats 4000000 in
theorem write_calls (w0 w : World) (d : Nat) (va vb vl : Value) (Ao : Option Addr) (no co : Nat) (Aw : Option Addr) (nw cw : Nat) (oo ow fo fw : List OB) (R : List Ast)
    (h : Holds w0 w (bookL d va vb vl oo.length Ao no co Aw nw cw ((oo ++ fo).map OB.val) ((ow ++ fw).map OB.val) (oo ++ ow) ++ (fo.map aO ++ (fw.map aO ++ R))))
    (he : oo.map OB.bytes = ow.map OB.bytes) (he2 : fo.map OB.bytes = fw.map OB.bytes) (hbd : no ≤ 100000000000) (hbb : ∀ o ∈ fo, o.bytes.length ≤ 100000000000) :
    Calls Try.prog 15 #[.pointer (some ⟨d, 2, none⟩)] w (Gives (WritePost w0 d va vb vl (no + fo.length) R)) := by
  have hno : oo.length + fo.length = no := by simpa using (book_out h).len
  have hnw : ow.length + fw.length = nw := by simpa using (book_want h).len
  have hl1 : oo.length = ow.length := by simpa using congrArg List.length he
  have hl2 : fo.length = fw.length := by simpa using congrArg List.length he2
  have hnn : nw = no := by omega
  subst hnn
  have hB : Both w (oo ++ fo) (ow ++ fw) := by
    have ho := Holds.old_get (Holds.get4 (show Holds w0 w (aBlk d (deskCells va vb Ao nw co Aw nw cw oo.length vl) 32 :: aOwn 30 1 Ao nw co ((oo ++ fo).map OB.val) :: aOwn 30 1 Aw nw cw ((ow ++ fw).map OB.val) :: aOld (oo ++ ow) :: _) from h))
    have h2 := Holds.old_owns (R := fw.map aO ++ R) (Holds.drop (l := [aBlk d (deskCells va vb Ao nw co Aw nw cw oo.length vl) 32, aOwn 30 1 Ao nw co ((oo ++ fo).map OB.val), aOwn 30 1 Aw nw cw ((ow ++ fw).map OB.val)]) h)
    have h3 := Holds.old_get (Holds.old_owns (R := R) h2)
    refine ⟨fun o ho => h3 o ?_, fun o ho => h3 o ?_, by rw [List.map_append, List.map_append, he, he2]⟩
    · simp at ho ⊢
      rcases ho with ho | ho
      · exact .inl ho
      · exact .inr (.inr (.inl ho))
    · simp at ho ⊢
      rcases ho with ho | ho
      · exact .inr (.inl ho)
      · exact .inr (.inr (.inr ho))
  have hcall := holds_calls w d va vb vl oo.length Ao nw co Aw nw cw (oo ++ fo) (ow ++ fw) (show Holds w0 w (aBlk d (deskCells va vb Ao nw co Aw nw cw oo.length vl) 32 :: _) from h).blk.1 (book_out h).rd (book_want h).rd hB
  have HB := Lib.hid hcall
  have H := Lib.hid h
  have HE := Lib.hid (And.intro he (And.intro he2 hbb))
  have HN := Lib.hid (And.intro hno (And.intro hnw (And.intro hl1 hl2)))
  clear h he he2 hB hcall hno hnw hl1 hl2 hbb
  go_enter Try.func15, Try.ntmps15
  go_wp2_with fail
  with_reducible refine HB.out.mono ?_
  rintro e w' ⟨rfl, q, rfl⟩
  have H1 := H.out.drewN q
  obtain ⟨c2, c3, c4⟩ := book_cells H.out
  have H1 := Lib.hid H1
  clear HB
  go_wp2_with fail
  go_quiet (fail)
  have H2 := H1.out.quiet (w' := (w.drewN q).drewN nq) ((Mod.refl _ _).drewN nq)
  generalize hw2 : (w.drewN q).drewN nq = w2 at H2
  have HM : Hid (Marked w0 (bookL d va vb vl oo.length Ao nw co Aw nw cw ((oo ++ fo).map OB.val) ((ow ++ fw).map OB.val) (oo ++ ow)) R fo fw w2) := ⟨fo, fw, rfl, rfl, HE.out.2.1, H2⟩
  clear H1 H2 c2 c3 c4
  go_wp2_with fail
  go_loopg [6] (nw - oo.length) (fun gg v wr => ∃ i : Nat, oo.length ≤ i ∧ i ≤ nw ∧ gg = nw - i ∧ v = .int .i64 i ∧ Hid (Marked w0 (bookL d va vb vl oo.length Ao nw co Aw nw cw ((oo ++ fo).map OB.val) ((ow ++ fw).map OB.val) (oo ++ ow)) R fo fw wr))
  case atStart => exact ⟨oo.length, Nat.le_refl _, by have := HN.out; omega, rfl, rfl, HM⟩
  case round =>
    clear HM
    obtain ⟨i, hi1, hi2, rfl, rfl, HM⟩ := hrel
    by_cases hlt : i < nw
    · obtain ⟨fo', fw', e1, e2, e3, HZ⟩ := HM.out
      have hl1 : fo'.length = fo.length := by simpa using congrArg List.length e1
      have hl2 : fw'.length = fw.length := by simpa using congrArg List.length e2
      have hn4 := HN.out
      obtain ⟨R', HA, HBK⟩ := Holds.zoom2 HZ (i - oo.length) (by omega) (by omega)
      have v1 := ob_get e1 (i - oo.length) (by omega) (by omega)
      have v2 := ob_get e2 (i - oo.length) (by omega) (by omega)
      have v3 := ob_get_bytes e3 (i - oo.length) (by omega) (by omega)
      obtain ⟨gO, oO, hAo⟩ := (book_out HA).some_of (by simp; omega)
      obtain ⟨gW, oW, hAw⟩ := (book_want HA).some_of (by simp; omega)
      have x0 : ((oo ++ fo).map OB.val)[i]? = some (fo'[i - oo.length]).val := by
        rw [v1, List.getElem?_map, List.getElem?_append_right (by omega), List.getElem?_eq_getElem (by omega)]
        rfl
      have x1 : ((ow ++ fw).map OB.val)[i]? = some (fw'[i - oo.length]).val := by
        rw [v2, List.getElem?_map, List.getElem?_append_right (by omega), show i - ow.length = i - oo.length from by omega, List.getElem?_eq_getElem (by omega)]
        rfl
      have HZ := Lib.hid (And.intro e1 (And.intro e2 (And.intro e3 (And.intro hl1 hl2))))
      have HBK : ∀ (wx : World) (x y : OB), Holds w0 wx ((bookL d va vb vl oo.length Ao nw co Aw nw cw ((oo ++ fo).map OB.val) ((ow ++ fw).map OB.val) (oo ++ ow)) ++ (aO x :: aO y :: R')) → x.val = (fo'[i - oo.length]'(by omega)).val → y.val = (fw'[i - oo.length]'(by omega)).val → x.bytes = y.bytes → Marked w0 (bookL d va vb vl oo.length Ao nw co Aw nw cw ((oo ++ fo).map OB.val) ((ow ++ fw).map OB.val) (oo ++ ow)) R fo fw wx := fun wx x y hx k1 k2 k3 =>
        ⟨fo'.set (i - oo.length) x, fw'.set (i - oo.length) y, by rw [List.map_set, k1, ← List.map_set, List.set_getElem_self]; exact e1, by rw [List.map_set, k2, ← List.map_set, List.set_getElem_self]; exact e2, by rw [List.map_set, List.map_set, k3, e3], HBK hx⟩
      generalize fo'[i - oo.length] = q1 at HA HBK v3 x0
      generalize fw'[i - oo.length] = q2 at HA HBK v3 x1
      clear v1 v2 hn4 e1 e2 e3 hl1 hl2
      obtain ⟨A1, n1, p1, b1⟩ := q1
      obtain ⟨A2, n2, p2, b2⟩ := q2
      simp only [] at v3
      subst v3
      have hq1 : b1.length = n1 := (book_first HA).own.1.blen
      have hq2 : b1.length = n2 := (book_second HA).own.1.blen
      subst hq1
      obtain rfl : n2 = b1.length := hq2.symm
      subst hAo hAw
      have HBK := Lib.hid HBK
      have HX := Lib.hid (And.intro x0 x1)
      have HI : Hid (∃ b : List UInt8, b.length = b1.length ∧ Holds w0 wr ((bookL d va vb vl oo.length (some ⟨gO, oO, none⟩) nw co (some ⟨gW, oW, none⟩) nw cw ((oo ++ fo).map OB.val) ((ow ++ fw).map OB.val) (oo ++ ow)) ++ (aO ⟨A1, b1.length, p1, b⟩ :: aO ⟨A2, b1.length, p2, b⟩ :: R'))) := ⟨b1, rfl, HA⟩
      obtain ⟨c2, c3, c4⟩ := book_cells HA
      have xr : wr.cell? ⟨gO, oO + i, none⟩ = some (.slice A1 b1.length p1) := by
        obtain ⟨g', o', e', hc⟩ := (book_out HA).rd.2.2.2.2 i _ HX.out.1
        cases e'
        exact hc
      have hb1m := (book_first HA).own.1.max
      unfold maxLen at hb1m
      have hb1l : b1.length ≤ p1 := (book_first HA).own.1.le
      clear HM HA hq2 x0 x1
      go_wp2_with fail
      clear c2 c3 c4 xr
      obtain ⟨wo, rfl⟩ : ∃ wo : World, wo = wr := ⟨_, rfl⟩
      go_loopg [36] b1.length (fun gg v wr => ∃ k : Nat, k ≤ b1.length ∧ gg = b1.length - k ∧ v = .int .i64 k ∧ Hid (∃ b : List UInt8, b.length = b1.length ∧ Holds w0 wr ((bookL d va vb vl oo.length (some ⟨gO, oO, none⟩) nw co (some ⟨gW, oW, none⟩) nw cw ((oo ++ fo).map OB.val) ((ow ++ fw).map OB.val) (oo ++ ow)) ++ (aO ⟨A1, b1.length, p1, b⟩ :: aO ⟨A2, b1.length, p2, b⟩ :: R'))))
      case atStart => exact ⟨0, by omega, by omega, rfl, HI⟩
      case round =>
        clear HI
        obtain ⟨k, hk, rfl, rfl, HI⟩ := hrel
        obtain ⟨b, hb, HA⟩ := HI.out
        by_cases hlt2 : k < b1.length
        · obtain ⟨c2, c3, c4⟩ := book_cells HA
          obtain ⟨g1, f1, hA1⟩ := (book_first HA).own.1.some_of (by simp; omega)
          obtain ⟨g2, f2, hA2⟩ := (book_second HA).own.1.some_of (by simp; omega)
          simp only [] at hA1 hA2
          have xr : wr.cell? ⟨gO, oO + i, none⟩ = some (.slice A1 b1.length p1) := by
            obtain ⟨g', o', e', hc⟩ := (book_out HA).rd.2.2.2.2 i _ HX.out.1
            cases e'
            exact hc
          subst hA1 hA2
          obtain ⟨u1, y1⟩ : ∃ u, wr.cell? ⟨g1, f1 + k, none⟩ = some u := ⟨_, (book_first HA).own.1.cell k (by simp; omega)⟩
          have z1 := (book_first HA).own.1.frozen k (by simp; omega)
          have HJ := Lib.hid (And.intro HA hb)
          clear HA hb HI
          go_upto_region 10 with (fail)
          obtain ⟨c, hc⟩ := mark_byte (7 * (i : Int) + 1) (by omega)
          refine wp_at fun W2 hW2 => ?_
          have H2 : Holds w0 W2 ((bookL d va vb vl oo.length (some ⟨gO, oO, none⟩) nw co (some ⟨gW, oW, none⟩) nw cw ((oo ++ fo).map OB.val) ((ow ++ fw).map OB.val) (oo ++ ow)) ++ (aO ⟨some ⟨g1, f1, none⟩, b1.length, p1, b.set k c⟩ :: aO ⟨some ⟨g2, f2, none⟩, b1.length, p2, b⟩ :: R')) := by
            rw [hW2]
            exact book_unfirst (Holds.own_set (o := ⟨some ⟨g1, f1, none⟩, b1.length, p1, b⟩) (book_first HJ.out.1) rfl k (by have := HJ.out.2; simp only []; omega) c _ (by rw [hc]))
          clear c2 c3 c4 xr y1 z1 hW2
          obtain ⟨c2, c3, c4⟩ := book_cells H2
          have xr : W2.cell? ⟨gW, oW + i, none⟩ = some (.slice (some ⟨g2, f2, none⟩) b1.length p2) := by
            obtain ⟨g', o', e', hc⟩ := (book_want H2).rd.2.2.2.2 i _ HX.out.2
            cases e'
            exact hc
          obtain ⟨u2, y2⟩ : ∃ u, W2.cell? ⟨g2, f2 + k, none⟩ = some u := ⟨_, (book_second H2).own.1.cell k (by have := HJ.out.2; simp; omega)⟩
          have z2 := (book_second H2).own.1.frozen k (by have := HJ.out.2; simp; omega)
          have H2 := Lib.hid H2
          have HC := Lib.hid hc
          clear hc
          go_wp2_with fail
          have H3 : Hid (∃ b' : List UInt8, b'.length = b1.length ∧ Holds w0 (W2.setCell ⟨g2, f2 + k, none⟩ (.int .u8 ((7 * (i : Int) + 1) % 256))) ((bookL d va vb vl oo.length (some ⟨gO, oO, none⟩) nw co (some ⟨gW, oW, none⟩) nw cw ((oo ++ fo).map OB.val) ((ow ++ fw).map OB.val) (oo ++ ow)) ++ (aO ⟨some ⟨g1, f1, none⟩, b1.length, p1, b'⟩ :: aO ⟨some ⟨g2, f2, none⟩, b1.length, p2, b'⟩ :: R'))) :=
            ⟨b.set k c, by rw [List.length_set]; exact HJ.out.2, book_unsecond (Holds.own_set (o := ⟨some ⟨g2, f2, none⟩, b1.length, p2, b⟩) (book_second H2.out) rfl k (by have := HJ.out.2; simp only []; omega) c _ (by rw [HC.out]))⟩
          go_roundg (b1.length - (k + 1))
          case measure => omega
          case rel => exact ⟨k + 1, by omega, rfl, by go_num, H3⟩
        · have HM := Lib.hid (HBK.out wr ⟨A1, b1.length, p1, b⟩ ⟨A2, b1.length, p2, b⟩ HA rfl rfl rfl)
          clear HA HI hb
          obtain rfl : k = b1.length := by omega
          go_wp2_with fail
          go_roundg (nw - (i + 1))
          case measure => omega
          case rel => exact ⟨i + 1, by omega, by omega, rfl, by go_num, HM⟩
    · obtain rfl : i = nw := by omega
      go_wp2_with fail
      obtain ⟨fo', fw', e1, e2, e3, HZ⟩ := HM.out
      have hl1 : fo'.length = fo.length := by simpa using congrArg List.length e1
      have hl2 : fw'.length = fw.length := by simpa using congrArg List.length e2
      have HG : Hid (Growing w0 d va vb vl i oo ow fo fw fo' fw' R 0 wr) := ⟨Ao, co, Aw, cw, [], [], [], rfl, rfl, rfl, fun o ho => by simp at ho, by simpa using HZ⟩
      have HF := Lib.hid (And.intro e1 (And.intro e2 (And.intro e3 (And.intro hl1 hl2))))
      have hfb : ∀ o ∈ fo', o.n ≤ 100000000000 := fun o ho => by
        obtain ⟨k, hk, rfl⟩ := List.getElem_of_mem ho
        have v := ob_get e1 k hk (by omega)
        simp only [OB.val, Value.slice.injEq] at v
        have h1 := (holds_rd H.out (fo[k]'(by omega)) (List.getElem_mem _)).blen
        have h2 := HE.out.2.2 (fo[k]'(by omega)) (List.getElem_mem _)
        omega
      have HFB := Lib.hid hfb
      clear e1 e2 e3 hl1 hl2 HZ HM hfb
      go_loopg [8] (i - oo.length) (fun gg v wr => ∃ t : Nat, oo.length ≤ t ∧ t ≤ i ∧ gg = i - t ∧ v = .int .i64 t ∧ Hid (Growing w0 d va vb vl i oo ow fo fw fo' fw' R (t - oo.length) wr))
      case atStart => exact ⟨oo.length, Nat.le_refl _, by omega, rfl, rfl, by rw [Nat.sub_self]; exact HG⟩
      case round =>
        clear HG
        obtain ⟨t, ht1, ht2, rfl, rfl, HG⟩ := hrel
        have hn4 := HN.out
        have hf4 := HF.out
        obtain ⟨j, hj⟩ : ∃ j, j = t - oo.length := ⟨_, rfl⟩
        rw [← hj] at HG
        by_cases hlt : t < i
        · obtain ⟨A1, p1, A2, p2, G, Gw, Z, g1, g2, g3, g4, HZ⟩ := HG.out
          have hdr : fo'.drop j = fo'[j]'(by omega) :: fo'.drop (j + 1) := List.drop_eq_getElem_cons (by omega)
          rw [hdr, List.map_cons, List.cons_append] at HZ
          have hl1 : j < fo'.length := by omega
          have hl2 : j < fw'.length := by omega
          have v1 := ob_get hf4.1 j hl1 (by omega)
          have v2 := ob_get hf4.2.1 j hl2 (by omega)
          have v3 := ob_get_bytes hf4.2.2.1 j hl1 hl2
          have x0 : ((oo ++ fo).map OB.val ++ G.map OB.val)[t]? = some (fo'[j]).val := by
            rw [show t = oo.length + j from by omega, v1, List.getElem?_append_left (by simp; omega), List.getElem?_map, List.getElem?_append_right (by omega), Nat.add_sub_cancel_left, List.getElem?_eq_getElem (by omega)]
            rfl
          have x1 : ((ow ++ fw).map OB.val ++ Gw.map OB.val)[t]? = some (fw'[j]).val := by
            rw [show t = oo.length + j from by omega, v2, List.getElem?_append_left (by simp; omega), List.getElem?_map, List.getElem?_append_right (by omega), show oo.length + j - ow.length = j from by omega, List.getElem?_eq_getElem (by omega)]
            rfl
          have hr2 : RdB wr (fw'[j]).addr (fw'[j]).n (fw'[j]).cap (fw'[j]).bytes := holds_rd (l0 := bookL d va vb vl oo.length A1 (i + j) p1 A2 (i + j) p2 ((oo ++ fo).map OB.val ++ G.map OB.val) ((ow ++ fw).map OB.val ++ Gw.map OB.val) (oo ++ ow ++ Z) ++ (aO fo'[j] :: (fo'.drop (j + 1)).map aO)) (m := fw') (R := R) (by rw [List.append_assoc]; exact HZ) _ (List.getElem_mem hl2)
          have hbn := HFB.out _ (List.getElem_mem hl1)
          have hbl := (book_first HZ).own.1.blen
          have hoa := (book_out HZ).some_of (by simp; omega)
          have hwa := (book_want HZ).some_of (by simp; omega)
          have HT := Lib.hid (And.intro g1 (And.intro g2 (And.intro g3 (And.intro g4 (show fo'.take (j + 1) = fo'.take j ++ [fo'[j]] from List.take_succ_eq_append_getElem hl1)))))
          generalize fo'[j] = o at HZ v3 x0 hbn hbl HT
          generalize fw'[j] = o2 at hr2 v3 x1
          clear v1 v2 hdr g1 g2 g3 g4 HG
          obtain ⟨gO, oO, rfl⟩ := hoa
          obtain ⟨gW, oW, rfl⟩ := hwa
          have xo : wr.cell? ⟨gO, oO + t, none⟩ = some (.slice o.addr o.n o.cap) := by
            obtain ⟨g', o', e', hc⟩ := (book_out HZ).rd.2.2.2.2 _ _ x0
            cases e'
            exact hc
          have xw : wr.cell? ⟨gW, oW + t, none⟩ = some (.slice o2.addr o2.n o2.cap) := by
            obtain ⟨g', o', e', hc⟩ := (book_want HZ).rd.2.2.2.2 _ _ x1
            cases e'
            exact hc
          obtain ⟨c2, c3, c4⟩ := book_cells HZ
          have h2n := hr2.blen
          have HQ := Lib.hid (fun W' (hm : Mod (fun _ => False) wr W') => HZ.quiet hm)
          have HR2 := Lib.hid (fun W' (hm : Mod (fun _ => False) wr W') => hr2.mod hm fun _ _ h => h)
          have HX := Lib.hid (And.intro x0 (And.intro x1 (And.intro v3 (And.intro hbl h2n))))
          have HJ := Lib.hid hj
          have hbn2 : o2.n ≤ 100000000000 := by rw [v3] at hbl; omega
          have hlt3 : t < i + j := by omega
          have hjb : j ≤ i := by omega
          have hdec : (t : Int) < (i : Int) + (j : Int) := by omega
          clear HZ hr2 x0 x1 v3 hbl h2n hn4 hf4 hl1 hl2 hj
          go_wp2_with fail
          go_cut [9, 10] (fun v9 v10 W => v9 = .slice o.addr o.n o.cap ∧ ∃ A5 c5, v10 = .slice A5 o2.n c5 ∧ Hid (Holds w0 W (bookL d va vb vl oo.length (some ⟨gO, oO, none⟩) (i + j) p1 (some ⟨gW, oW, none⟩) (i + j) p2 ((oo ++ fo).map OB.val ++ G.map OB.val) ((ow ++ fw).map OB.val ++ Gw.map OB.val) (oo ++ ow ++ Z) ++ (aO o :: aO ⟨A5, o2.n, c5, o.bytes⟩ :: ((fo'.drop (j + 1)).map aO ++ (fw'.map aO ++ R))))))
          case first =>
            go_region_law (refine step_append rfl (.const (.slice none 0 0)) (.tmp 85) 30 30 rfl Try.elt30 none 0 0 (bc []) (by simp [Act.eval, Act.put]) (Own.nil _ _ _) (.slice o2.addr o2.n o2.cap) o2.n (bc o2.bytes) (by simp [Act.eval, Act.put]) (Rd.src (HR2.out _ (by repeat (first | exact Mod.refl _ _ | apply Mod.alloc | apply Mod.drew | apply Mod.drewN))) Try.underlying30 (bc_one _)) (by unfold maxLen; omega) (by omega) ?_; intro A5 c5 w5 ho5 hm5 hin5; have hq5 : Mod (fun _ => False) wr w5 := Mod.trans (by repeat (first | exact Mod.refl _ _ | apply Mod.alloc | apply Mod.drew | apply Mod.drewN)) (hm5.mono fun i _ hi => by simp at hi); have c25 := hq5.cell c2 id; have c35 := hq5.cell c3 id; have xo5 := hq5.cell xo id; have xw5 := hq5.cell xw id)
            all_goals
              have HF5 := Lib.hid (book_unsecond (Holds.cons (P := aO ⟨A5, o2.n, c5, o.bytes⟩) (HQ.out _ (by repeat (first | exact Mod.refl _ _ | apply Mod.alloc | apply Mod.drew | apply Mod.drewN))) (hm5.mono fun i _ hi => by simp at hi) ⟨by rw [HX.out.2.2.1]; simpa using ho5, fun _ => Iff.rfl⟩ (fun k hk => by simpa using hin5 k hk)))
              clear ho5 hm5 hin5 hq5 c25 c35 xo5 xw5 c2 c3 c4 xo xw
              go_wp2_with fail
              go_meet
              exact ⟨rfl, A5, c5, rfl, HF5⟩
          case rest =>
            obtain ⟨rfl, A5, c5, rfl, HH⟩ := hcut
            have HH := Lib.hid (book_unfirst (Holds.grow_start (book_first HH.out)))
            clear c2 c3 c4 xo xw HQ HR2
            obtain ⟨RR, hRR⟩ : ∃ RR, RR = (fo'.drop (j + 1)).map aO ++ (fw'.map aO ++ R) := ⟨_, rfl⟩
            rw [← hRR] at HH
            have HRR := Lib.hid hRR
            clear hRR
            go_wp2_with fail
            obtain ⟨wo, rfl⟩ : ∃ wo : World, wo = wc := ⟨_, rfl⟩
            go_loopg [9, 10, 87] 40 (fun gg v9 v10 v wr => ∃ k : Nat, k ≤ 40 ∧ gg = 40 - k ∧ v = .int .i64 k ∧ ∃ b m : OB, v9 = .slice b.addr b.n b.cap ∧ v10 = .slice m.addr m.n m.cap ∧ b.n ≤ 100000000000 + k ∧ m.n ≤ 100000000000 + k ∧ Hid (b.bytes = m.bytes ∧ Holds w0 wr ((bookL d va vb vl oo.length (some ⟨gO, oO, none⟩) (i + j) p1 (some ⟨gW, oW, none⟩) (i + j) p2 ((oo ++ fo).map OB.val ++ G.map OB.val) ((ow ++ fw).map OB.val ++ Gw.map OB.val) (oo ++ ow ++ Z)) ++ (aGrow o b :: aO m :: RR))))
            case atStart => exact ⟨0, by omega, by omega, rfl, o, ⟨A5, o2.n, c5, o.bytes⟩, rfl, rfl, by omega, by simp only []; omega, rfl, HH.out⟩
            case round =>
              obtain ⟨k, hk, rfl, rfl, b, m, rfl, rfl, hbn3, hmn3, HI⟩ := hrel
              by_cases hlt4 : k < 40
              · obtain ⟨c, hc⟩ := mark_byte (7 * (t : Int) + 2) (by omega)
                have hob := Holds.grow_own (book_first HI.out.2)
                have HO := Lib.hid (And.intro hc hob)
                clear hc hob
                go_upto_region 19 with (at_builtin; refine wpList_append2 _ rfl (.tmp 89) (.tmp 94) 30 30 rfl Try.elt30 b.addr b.n b.cap (bc b.bytes) rfl (HO.out.2.alloc _) (.slice (some ⟨wr.heap.size, 0, none⟩) 1 1) 1 [.int .u8 ((7 * (t : Int) + 2) % 256)] rfl (Rd.src (Own.row _ 5 1 1 [.int .u8 ((7 * (t : Int) + 2) % 256)] rfl (by decide)).rd Try.underlying30 (by simp [Value.oneCell'])) (by unfold maxLen; omega) (by omega) ?_; intro A6 c6 w6 ho6 hm6 hin6 _ hk6)
                have H6 : Hid (Holds w0 w6 ((bookL d va vb vl oo.length (some ⟨gO, oO, none⟩) (i + j) p1 (some ⟨gW, oW, none⟩) (i + j) p2 ((oo ++ fo).map OB.val ++ G.map OB.val) ((ow ++ fw).map OB.val ++ Gw.map OB.val) (oo ++ ow ++ Z)) ++ (aGrow o ⟨A6, b.n + 1, c6, b.bytes ++ [c]⟩ :: aO m :: RR))) :=
                  book_unfirst (Holds.grow_step (l := [c]) (Holds.alloc (book_first HI.out.2) (.cells #[.int .u8 ((7 * (t : Int) + 2) % 256)] 5)) (by rw [HO.out.1] at ho6; exact ho6) (by simpa using hm6) (fun k hk => by simpa using hin6 k hk) (by simpa using hk6))
                clear ho6 hm6 hin6 hk6
                have hm5 := (book_second H6.out).own.1
                have HM5 := Lib.hid hm5
                clear hm5
                go_wp2_with (at_builtin; refine wpList_append2 _ rfl (.tmp 96) (.tmp 101) 30 30 rfl Try.elt30 m.addr m.n m.cap (bc m.bytes) rfl (HM5.out.alloc _) (.slice (some ⟨w6.heap.size, 0, none⟩) 1 1) 1 [.int .u8 ((7 * (t : Int) + 2) % 256)] rfl (Rd.src (Own.row _ 5 1 1 [.int .u8 ((7 * (t : Int) + 2) % 256)] rfl (by decide)).rd Try.underlying30 (by simp [Value.oneCell'])) (by unfold maxLen; omega) (by omega) ?_; intro A7 c7 w7 ho7 hm7 hin7 _ hk7)
                have H7 : Hid (b.bytes ++ [c] = m.bytes ++ [c] ∧ Holds w0 w7 ((bookL d va vb vl oo.length (some ⟨gO, oO, none⟩) (i + j) p1 (some ⟨gW, oW, none⟩) (i + j) p2 ((oo ++ fo).map OB.val ++ G.map OB.val) ((ow ++ fw).map OB.val ++ Gw.map OB.val) (oo ++ ow ++ Z)) ++ (aGrow o ⟨A6, b.n + 1, c6, b.bytes ++ [c]⟩ :: aO ⟨A7, m.n + 1, c7, m.bytes ++ [c]⟩ :: RR))) :=
                  ⟨by rw [HI.out.1], book_unsecond (Holds.append (Holds.alloc (book_second H6.out) (.cells #[.int .u8 ((7 * (t : Int) + 2) % 256)] 5)) (by rw [bc_append]; rw [HO.out.1] at ho7; exact ho7) (by simpa using hm7) (fun k hk => by simpa using hin7 k hk))⟩
                clear ho7 hm7 hin7 hk7 HM5 H6
                go_wp2_with fail
                go_roundg (40 - (k + 1))
                case measure => omega
                case rel => exact ⟨k + 1, by omega, rfl, by go_num, ⟨A6, b.n + 1, c6, b.bytes ++ [c]⟩, ⟨A7, m.n + 1, c7, m.bytes ++ [c]⟩, rfl, rfl, by simp only []; omega, by simp only []; omega, H7⟩
              · obtain rfl : k = 40 := by omega
                have hblk := (show Holds w0 wr (aBlk d (deskCells va vb (some ⟨gO, oO, none⟩) (i + j) p1 (some ⟨gW, oW, none⟩) (i + j) p2 oo.length vl) 32 :: aOwn 30 1 (some ⟨gO, oO, none⟩) (i + j) p1 ((oo ++ fo).map OB.val ++ G.map OB.val) :: aOwn 30 1 (some ⟨gW, oW, none⟩) (i + j) p2 ((ow ++ fw).map OB.val ++ Gw.map OB.val) :: aOld (oo ++ ow ++ Z) :: (aGrow o b :: aO m :: RR)) from HI.out.2)
                have c2 := hblk.blk.1.cell 2
                have f2 := hblk.blk.1.frozen 2 (by simp [deskCells])
                simp only [deskCells, List.getElem?_cons_zero, List.getElem?_cons_succ] at c2
                have HK := Lib.hid hblk
                have HE2 := Lib.hid HI.out.1
                clear hblk HI
                go_upto_region 22 with (at_builtin; refine wpList_append _ rfl (.tmp 108) (.tmp 110) 27 27 rfl Try.elt27 (some ⟨gO, oO, none⟩) (i + j) p1 ((oo ++ fo).map OB.val ++ G.map OB.val) rfl (HK.out.swap.own.1.alloc _) (.slice (some ⟨wr.heap.size, 0, none⟩) 1 1) 1 [.slice b.addr b.n b.cap] rfl (Rd.src (Own.row _ 30 1 1 [.slice b.addr b.n b.cap] rfl (by decide)).rd Try.underlying27 (by simp [Value.oneCell'])) (by unfold maxLen; omega) (by omega) ?_; intro A8 c8 w8 ho8 hm8 hin8 _; have h8 := Lib.hid (((HK.out.alloc (.cells #[.slice b.addr b.n b.cap] 30)).swap.append ho8 hm8 (fun k hk => by simpa using hin8 k hk)).swap); have j2 := h8.out.blk.1.cell 2; have jf := h8.out.blk.1.frozen 2 (by simp [deskCells]); simp only [deskCells, List.getElem?_cons_zero, List.getElem?_cons_succ] at j2; clear ho8 hm8 hin8 c2 f2)
                refine wp_at fun W8 hW8 => ?_
                have HK8 : Holds w0 W8 (aBlk d (deskCells va vb A8 (i + j + 1) c8 (some ⟨gW, oW, none⟩) (i + j) p2 oo.length vl) 32 :: aOwn 30 1 A8 (i + j + 1) c8 (((oo ++ fo).map OB.val ++ G.map OB.val) ++ [b.val]) :: aOwn 30 1 (some ⟨gW, oW, none⟩) (i + j) p2 ((ow ++ fw).map OB.val ++ Gw.map OB.val) :: aOld (oo ++ ow ++ Z) :: (aGrow o b :: aO m :: RR)) := by
                  rw [hW8]
                  exact h8.out.store 2 (.slice A8 (i + j + 1) c8)
                clear hW8 h8 j2 jf HK
                have c3 := HK8.blk.1.cell 3
                have f3 := HK8.blk.1.frozen 3 (by simp [deskCells])
                simp only [deskCells, List.getElem?_cons_zero, List.getElem?_cons_succ] at c3
                have HK := Lib.hid HK8.get3
                clear HK8
                go_wp2_with (at_builtin; refine wpList_append _ rfl (.tmp 118) (.tmp 120) 27 27 rfl Try.elt27 (some ⟨gW, oW, none⟩) (i + j) p2 ((ow ++ fw).map OB.val ++ Gw.map OB.val) rfl (HK.out.own.1.alloc _) (.slice (some ⟨W8.heap.size, 0, none⟩) 1 1) 1 [.slice m.addr m.n m.cap] rfl (Rd.src (Own.row _ 30 1 1 [.slice m.addr m.n m.cap] rfl (by decide)).rd Try.underlying27 (by simp [Value.oneCell'])) (by unfold maxLen; omega) (by omega) ?_; intro A9 c9 w9 ho9 hm9 hin9 _; have h9 := Lib.hid (((HK.out.alloc (.cells #[.slice m.addr m.n m.cap] 30)).append ho9 hm9 (fun k hk => by simpa using hin9 k hk)).swap); have j3 := h9.out.blk.1.cell 3; have jf3 := h9.out.blk.1.frozen 3 (by simp [deskCells]); simp only [deskCells, List.getElem?_cons_zero, List.getElem?_cons_succ] at j3; clear ho9 hm9 hin9 c3 f3)
                have HG2 : Hid (Growing w0 d va vb vl i oo ow fo fw fo' fw' R (j + 1) (w9.setCell ⟨d, 3, none⟩ (.slice A9 (i + j + 1) c9))) := by
                  obtain ⟨g1, g2, g3, g4, g5⟩ := HT.out
                  have hh := book_grown (show Holds w0 _ (bookL d va vb vl oo.length A8 (i + j + 1) c8 A9 (i + j + 1) c9 (((oo ++ fo).map OB.val ++ G.map OB.val) ++ [b.val]) (((ow ++ fw).map OB.val ++ Gw.map OB.val) ++ [m.val]) (oo ++ ow ++ Z) ++ (aGrow o b :: aO m :: RR)) from (h9.out.store 3 (.slice A9 (i + j + 1) c9)).get3.swap)
                  rw [HRR.out] at hh
                  refine ⟨A8, c8, A9, c9, G ++ [b], Gw ++ [m], Z ++ [o, b] ++ [m], by simp [g1], by simp [g2], by rw [List.map_append, List.map_append, g3]; simp [HE2.out], fun x hx => ?_, ?_⟩
                  · rw [g5] at hx
                    have := g4 x
                    simp only [List.mem_append, List.mem_cons, List.not_mem_nil, or_false] at hx this ⊢
                    rcases hx with (hx | hx) | (hx | hx) | hx | hx
                    · exact .inl (.inl (this (.inl hx)))
                    · exact .inl (.inr (.inl hx))
                    · exact .inl (.inl (this (.inr (.inl hx))))
                    · exact .inl (.inr (.inr hx))
                    · exact .inl (.inl (this (.inr (.inr hx))))
                    · exact .inr hx
                  · rw [show (((oo ++ fo).map OB.val ++ G.map OB.val) ++ [b.val]) = (oo ++ fo).map OB.val ++ (G ++ [b]).map OB.val from by simp, show (((ow ++ fw).map OB.val ++ Gw.map OB.val) ++ [m.val]) = (ow ++ fw).map OB.val ++ (Gw ++ [m]).map OB.val from by simp, show oo ++ ow ++ Z ++ [o, b] ++ [m] = oo ++ ow ++ (Z ++ [o, b] ++ [m]) from by simp] at hh
                    exact hh
                clear HK h9 j3 jf3 HE2
                go_wp2_with fail
                go_roundg (i - (t + 1))
                case measure => omega
                case rel => exact ⟨t + 1, by omega, by omega, rfl, by go_num, by rw [show t + 1 - oo.length = j + 1 from by have := HJ.out; omega]; exact HG2⟩
        · obtain rfl : t = i := by omega
          obtain ⟨A1, p1, A2, p2, G, Gw, Z, g1, g2, g3, g4, HZ⟩ := HG.out
          rw [List.drop_of_length_le (by omega), List.map_nil, List.nil_append] at HZ
          have HZ2 := book_sub (m := (oo ++ fo' ++ G) ++ (ow ++ fw' ++ Gw)) (book_owned HZ) (fun x hx => by
            have := g4 x
            rw [List.take_of_length_le (by omega)] at this
            simp only [List.mem_append] at hx this ⊢
            rcases hx with ((hx | hx) | hx) | (hx | hx) | hx
            · exact .inl (.inl (.inl hx))
            · exact .inl (.inr (this (.inl hx)))
            · exact .inl (.inr (this (.inr (.inl hx))))
            · exact .inl (.inl (.inr hx))
            · exact .inr hx
            · exact .inl (.inr (this (.inr (.inr hx)))))
          have ex : (oo ++ fo).map OB.val ++ G.map OB.val = (oo ++ fo' ++ G).map OB.val := by rw [List.map_append, List.map_append, List.map_append, hf4.1]
          have ey : (ow ++ fw).map OB.val ++ Gw.map OB.val = (ow ++ fw' ++ Gw).map OB.val := by rw [List.map_append, List.map_append, List.map_append, hf4.2.1]
          have eb : (oo ++ fo' ++ G).map OB.bytes = (ow ++ fw' ++ Gw).map OB.bytes := by rw [List.map_append, List.map_append, List.map_append, List.map_append, HE.out.1, hf4.2.2.1, g3]
          rw [ex, ey] at HZ2
          have hlo : (oo ++ fo' ++ G).length = t + j := by simp; omega
          have hlw : (ow ++ fw' ++ Gw).length = t + j := by simp; omega
          generalize oo ++ fo' ++ G = O' at HZ2 eb hlo
          generalize ow ++ fw' ++ Gw = W' at HZ2 eb hlw
          have hB : Both wr O' W' := by
            have h1 := Holds.old_get (Holds.front (l := [aBlk d (deskCells va vb A1 (t + j) p1 A2 (t + j) p2 oo.length vl) 32, aOwn 30 1 A1 (t + j) p1 (O'.map OB.val), aOwn 30 1 A2 (t + j) p2 (W'.map OB.val)]) (r := R) (P := aOld (O' ++ W')) HZ2)
            exact ⟨fun o ho => h1 o (List.mem_append_left _ ho), fun o ho => h1 o (List.mem_append_right _ ho), eb⟩
          obtain ⟨c2, c3, c4⟩ := book_cells HZ2
          have f4 := (show Holds w0 wr (aBlk d (deskCells va vb A1 (t + j) p1 A2 (t + j) p2 oo.length vl) 32 :: _) from HZ2).blk.1.frozen 4 (by simp [deskCells])
          have hjn : j = fo.length := by omega
          have HZ3 : Holds w0 (wr.setCell ⟨d, 4, none⟩ (.int .i64 ((t : Int) + (j : Int)))) (bookL d va vb vl ((t + j : Nat) : Int) A1 (t + j) p1 A2 (t + j) p2 (O'.map OB.val) (W'.map OB.val) (O' ++ W') ++ R) := by
            have := (show Holds w0 wr (aBlk d (deskCells va vb A1 (t + j) p1 A2 (t + j) p2 oo.length vl) 32 :: _) from HZ2).store 4 (.int .i64 ((t : Int) + (j : Int)))
            simpa [bookL, deskCells] using this
          have hcall := holds_calls (wr.setCell ⟨d, 4, none⟩ (.int .i64 ((t : Int) + (j : Int)))) d va vb vl ((t + j : Nat) : Int) A1 (t + j) p1 A2 (t + j) p2 O' W' (show Holds w0 _ (aBlk d _ 32 :: _) from HZ3).blk.1 (book_out HZ3).rd (book_want HZ3).rd (by
            have h1 := Holds.old_get (Holds.front (l := [aBlk d (deskCells va vb A1 (t + j) p1 A2 (t + j) p2 ((t + j : Nat) : Int) vl) 32, aOwn 30 1 A1 (t + j) p1 (O'.map OB.val), aOwn 30 1 A2 (t + j) p2 (W'.map OB.val)]) (r := R) (P := aOld (O' ++ W')) HZ3)
            exact ⟨fun o ho => h1 o (List.mem_append_left _ ho), fun o ho => h1 o (List.mem_append_right _ ho), eb⟩)
          have HC := Lib.hid hcall
          have HF3 := Lib.hid (And.intro HZ3 (And.intro eb (And.intro hlo (And.intro hlw hjn))))
          clear HZ HZ2 HZ3 hcall hB eb hlo hlw g1 g2 g3 g4 ex ey hf4 HG hn4 hj hjn
          go_wp2_with fail
          with_reducible refine HC.out.mono ?_
          rintro e w' ⟨rfl, q2, rfl⟩
          have HF4 := Lib.hid (HF3.out.1.drewN q2)
          go_wp2_with fail
          go_ret
          obtain ⟨_, k1, k2, k3, k4⟩ := HF3.out
          subst k4
          exact Gives.mk ⟨rfl, A1, p1, A2, p2, O', W', k2, k3, k1, HF4.out⟩
end Go.Proofs.Ytoeaaomgilgncaa
