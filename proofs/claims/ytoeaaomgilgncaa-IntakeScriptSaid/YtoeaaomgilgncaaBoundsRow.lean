/-
  IntakeBounds: THE ROW: for every limit and every script of the size a machine has, the law returns true and leaves its arguments as they were.
-/
import Derived.Test.YtoeaaomgilgncaaBounds2
import Derived.Test.YtoeaaomgilgncaaOpen
import Derived.Test.YtoeaaomgilgncaaRows
import Derived.HandedShaped
import Derived.Carry
import Derived.ChangeSame
import Derived.Shelf.Vars
namespace Go.Proofs.Ytoeaaomgilgncaa
open Go.ChangeShapes Go.WideShapes Go.ChangeAt Go.RowKit Go.Deep Go.Mem Go.Intake
set_option linter.unusedVariables false

theorem Tryown : ownKnob Try.prog.godebug = none := by kernel_rfl
theorem TrylaidOut : laidOutB Try.prog = true := by kernel_rfl
theorem Trycells5 : Try.prog.cellsOf 5 = 1 := by kernel_rfl
theorem Trycells30 : Try.prog.cellsOf 30 = 1 := by kernel_rfl
theorem Trycells3 : Try.prog.cellsOf 3 = 1 := by kernel_rfl
theorem Trycells36 : Try.prog.cellsOf 36 = 4 := by kernel_rfl
theorem Trybytes36 : Try.prog.bytesOf 36 = 48 := by kernel_rfl
theorem Trybytes5 : Try.prog.bytesOf 5 = 1 := by kernel_rfl
/-- The world's shape gives the cell of the library's variable. -/
theorem Lw.of_shaped {w : World} (h : w.ShapedOpen Try.prog) : Lw w :=
  cell_of_shapedOpen_int (t := 3) (zero := #[.int .i64 0]) h (of_decide_eq_true (by kernel_rfl)) (by kernel_rfl) rfl (by kernel_rfl) (by kernel_rfl) Try.underlying3

/-- An action, from its four cells. -/
def QAct {H : Type} (a : Act) (d : DataW H) : Prop := ∃ k t n e cap, d = .agg [k, t, n, e] ∧ DB e a.data cap ∧ a.data.length ≤ cap
theorem open_act {H : Type} {enc : TypeId × Value → H} {w : World} {held : Bool} (n : Nat) (cs : List Value) (y : DataW H × List MemPlace) (b off : Nat)
    (hc : ∀ j, j < 4 → w.cell? ⟨b, off + j, none⟩ = cs[j]?) (hl : cs.length = 4) (h : DataW.trod enc Try.prog w 0 (fun _ => true) held n 36 cs = some y) : ∃ a, ActAt w b off a ∧ QAct a y.1 := by
  obtain ⟨xs, k, _, rfl, _, hxl, hf⟩ := DataW.trod_struct Try.underlying36 h
  match xs, hxl, cs, hl with
  | [y0, y1, y2, y3], _, [v0, v1, v2, v3], _ =>
    have g0 : DataW.trod enc Try.prog w 0 (fun _ => true) held k 3 [v0] = some y0 := by simpa [Trycells3] using hf 0 _ rfl
    have g1 : DataW.trod enc Try.prog w 0 (fun _ => true) held k 3 [v1] = some y1 := by simpa [Trycells3] using hf 1 _ rfl
    have g2 : DataW.trod enc Try.prog w 0 (fun _ => true) held k 3 [v2] = some y2 := by simpa [Trycells3] using hf 2 _ rfl
    have g3 : DataW.trod enc Try.prog w 0 (fun _ => true) held k 30 [v3] = some y3 := by simpa [Trycells30] using hf 3 _ rfl
    have e0 := hc 0 (by omega)
    have e1 := hc 1 (by omega)
    have e2 := hc 2 (by omega)
    have e3 := hc 3 (by omega)
    obtain ⟨z0, f0, _, w0⟩ := DataW.trod_int Try.underlying3 g0
    obtain ⟨z1, f1, _, w1⟩ := DataW.trod_int Try.underlying3 g1
    obtain ⟨z2, f2, _, w2⟩ := DataW.trod_int Try.underlying3 g2
    obtain ⟨A, n, cap, l, f3, hr, hd⟩ := open_rdB Try.underlying30 Try.underlying5 Trycells5 g3
    simp only [List.cons.injEq, and_true] at f0 f1 f2
    subst f0 f1 f2 f3
    have bnd : ∀ z, (Lit.int .i64 z).wf = true → -9223372036854775808 ≤ z ∧ z ≤ 9223372036854775807 := fun z hz => by
      simpa [Lit.wf, IntKind.min, IntKind.max, IntKind.signed, IntKind.bits] using hz
    refine ⟨⟨z0, z1, z2, l⟩, ⟨by simpa using e0, by simpa using e1, by simpa using e2, ⟨A, n, cap, by simpa using e3, hr⟩, bnd _ w0, bnd _ w1, bnd _ w2⟩, _, _, _, _, cap, rfl, hd, ?_⟩
    have := hr.blen
    have := hr.le
    show l.length ≤ cap
    omega

set_option maxRecDepth 100000 in
set_option maxHeartbeats 1000000 in
theorem bounds_lifted (os : Os) (started : os.Started) (H : Type) (enc : TypeId × Value → H) :
    ReturnsInHanded {} Try.checked os 6 .any (Rows.intakeBoundsSpec.pre6 enc Try.prog Try.f6 Rows.intakeBoundsRow.domain false) (Rows.intakeBoundsSpec.post enc Try.prog Try.f6 false true false false) := by
  refine returnsInHanded_of_change_shaped (C := Try.checked) Tryown started (by kernel_rfl) Try.func6
    (ChangeSpec.witness6 (enc := enc) (C := Try.checked) false ⟨#[], #[.int .i64 0, .slice none 0 0], []⟩ 8 (by kernel_rfl) (by kernel_rfl) (by kernel_rfl) (by kernel_rfl)) ?_
  intro W base args ds gs before hval0 hW _ hsz hsh _
  have hval : ∀ (j : Nat) t v, Try.f6.params[j]? = some t → args[j]? = some v → Value.okWide Try.prog W .any base t v := hval0
  have hW' := hW
  obtain ⟨p, q, hA0, hV, rfl, _, _⟩ := hW
  have hA : DataW.TrodAll enc Try.prog W 0 (fun _ => true) true Try.f6.params.toList args.toList ds p := hA0
  rw [Try.params6] at hA hval
  have hsz1 : (DataW.weightsEach Try.prog (Try.f6.params.toList ++ Rows.intakeBoundsSpec.plain.varTypes Try.prog) (ds ++ gs)).all (· ≤ reachBytes) = true := hsz
  rw [Try.params6] at hsz1
  obtain ⟨v0, v1, d0, d1, p0, p1, rfl, rfl, rfl, h0, h1⟩ := trodAll_two hA
  obtain ⟨rfl, rfl⟩ := trodVars_none hV
  obtain ⟨max, rfl, rfl, rfl, w0⟩ := open_int Try.underlying3 (hval 0 3 v0 rfl rfl) h0
  have h1k := h1
  obtain ⟨fuel, hf⟩ := h1
  clear hA0 hval0 hA hsz
  simp only [List.append_nil, List.nil_append] at hW'
  have hlt : ∀ x ∈ p1, x.block < W.heap.size := fun x hx => by simpa using hW'.lt x hx
  have hv1 : ∃ a len cap, v1 = .slice a len cap := okWide_slice Try.underlying22 (hval 1 22 v1 rfl rfl)
  have hcells : v1.cells.toList = [v1] := by obtain ⟨a, len, cap, rfl⟩ := hv1; rfl
  rw [hcells] at hf
  haveI : Inhabited Act := ⟨⟨0, 0, 0, []⟩⟩
  obtain ⟨A, n, cap, l, rfl, hacts, hds⟩ := open_rdS (R := ActAt W) (Q := QAct) Try.underlying22 Trycells36 (by omega) (fun n cs y b off => open_act n cs y b off) hf
  obtain ⟨hcap, hdata⟩ := hds.weigh (R := reachBytes) Try.underlying22 fun m hm => by
    have := List.all_eq_true.1 hsz1 m (DataW.weights_mem_each (j := 1) (t := 22) rfl rfl m hm)
    simpa using this
  rw [Trybytes36] at hcap
  have hda : ∀ a ∈ l, a.data.length ≤ 140737488355328 := fun a ha => by
    obtain ⟨d, ⟨_, _, _, e, c, rfl, hd, hle⟩, hm⟩ := hdata a ha
    have := hd.weigh (R := reachBytes) Try.underlying30 Trybytes5 fun m h => hm m (by
      simp only [DataW.weights, Try.underlying36]
      exact DataW.weights_mem_each (j := 3) (t := 30) rfl rfl m h)
    simp only [reachBytes] at this
    omega
  have hmax : -9223372036854775808 ≤ max ∧ max ≤ 9223372036854775807 := by simpa [Lit.wf, IntKind.min, IntKind.max, IntKind.signed, IntKind.bits] using w0
  refine (Bounds_calls W max A n cap l hacts (by simp only [reachBytes] at hcap; omega) hda (Lw.of_shaped hsh) hmax).mono fun e W' he => ?_
  obtain ⟨v, rfl, rfl, hnx⟩ := he
  have hargs : DataW.Trod enc Try.prog W' 0 (fun b => decide (b < W.heap.size)) true 22 (.slice A n cap) d1 p1 :=
    Below.trod TrylaidOut (by kernel_rfl) (of_decide_eq_true (by kernel_rfl)) h1k hnx hlt
  refine ⟨_, rfl, _, _, _, [], _, [], hW', trodAll_mk1 (shut_bool Try.underlying4 _), trodAll_mk2 (shut_int Try.underlying3 w0) hargs, rfl, hnx.frame _, fun h => by cases h⟩

theorem bounds_holds : Rows.IntakeBoundsSaid :=
  OpenClaim.holds_of_wide 6 Try.f6 rfl rfl rfl rfl rfl rfl rfl ⟨rfl, rfl, rfl, rfl, rfl⟩ rfl rfl rfl rfl rfl (by kernel_rfl) Try.func6 (by kernel_rfl)
    (of_decide_eq_true (by kernel_rfl)) (by unfold Func.isWrapper; first | (rw [if_pos (by decide +kernel)]; kernel_rfl) | (rw [if_neg (by decide +kernel)]; exact ⟨rfl, rfl⟩))
    (fun os started H enc _ => bounds_lifted os started H enc)

#print axioms bounds_holds
end Go.Proofs.Ytoeaaomgilgncaa
