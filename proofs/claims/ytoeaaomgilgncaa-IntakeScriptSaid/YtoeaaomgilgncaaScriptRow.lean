/-
  IntakeScript: THE ROW: for every two limits and every script of the size a machine has, the law returns true and leaves its arguments as they were.
-/
import Derived.Test.YtoeaaomgilgncaaDesk11
import Derived.Test.YtoeaaomgilgncaaBoundsRow
namespace Go.Proofs.Ytoeaaomgilgncaa
open Go.ChangeShapes Go.WideShapes Go.ChangeAt Go.RowKit Go.Deep Go.Mem Go.Intake
set_option linter.unusedVariables false

set_option maxRecDepth 100000 in
set_option maxHeartbeats 1000000 in
theorem script_lifted (os : Os) (started : os.Started) (H : Type) (enc : TypeId × Value → H) :
    ReturnsInHanded {} Try.checked os 3 .any (Rows.intakeScriptSpec.pre6 enc Try.prog Try.f3 Rows.intakeScriptRow.domain false) (Rows.intakeScriptSpec.post enc Try.prog Try.f3 false true false false) := by
  refine returnsInHanded_of_change_shaped (C := Try.checked) Tryown started (by kernel_rfl) Try.func3
    (ChangeSpec.witness6 (enc := enc) (C := Try.checked) false ⟨#[], #[.int .i64 0, .int .i64 0, .slice none 0 0], []⟩ 8 (by kernel_rfl) (by kernel_rfl) (by kernel_rfl) (by kernel_rfl)) ?_
  intro W base args ds gs before hval0 hW _ hsz hsh _
  have hval : ∀ (j : Nat) t v, Try.f3.params[j]? = some t → args[j]? = some v → Value.okWide Try.prog W .any base t v := hval0
  have hW' := hW
  obtain ⟨p, q, hA0, hV, rfl, _, _⟩ := hW
  have hA : DataW.TrodAll enc Try.prog W 0 (fun _ => true) true Try.f3.params.toList args.toList ds p := hA0
  rw [Try.params3] at hA hval
  have hsz1 : (DataW.weightsEach Try.prog (Try.f3.params.toList ++ Rows.intakeScriptSpec.plain.varTypes Try.prog) (ds ++ gs)).all (· ≤ reachBytes) = true := hsz
  rw [Try.params3] at hsz1
  obtain ⟨v0, v2, v1, d0, d2, d1, p0, p2, p1, rfl, rfl, rfl, h0, h2, h1⟩ := trodAll_three hA
  obtain ⟨rfl, rfl⟩ := trodVars_none hV
  obtain ⟨one, rfl, rfl, rfl, w0⟩ := open_int Try.underlying3 (hval 0 3 v0 rfl rfl) h0
  obtain ⟨two, rfl, rfl, rfl, w2⟩ := open_int Try.underlying3 (hval 1 3 v2 rfl rfl) h2
  have h1k := h1
  obtain ⟨fuel, hf⟩ := h1
  clear hA0 hval0 hA hsz
  simp only [List.append_nil, List.nil_append] at hW'
  have hlt : ∀ x ∈ p1, x.block < W.heap.size := fun x hx => by simpa using hW'.lt x hx
  have hv1 : ∃ a len cap, v1 = .slice a len cap := okWide_slice Try.underlying22 (hval 2 22 v1 rfl rfl)
  have hcells : v1.cells.toList = [v1] := by obtain ⟨a, len, cap, rfl⟩ := hv1; rfl
  rw [hcells] at hf
  haveI : Inhabited Act := ⟨⟨0, 0, 0, []⟩⟩
  obtain ⟨A, n, cap, l, rfl, hacts, hds⟩ := open_rdS (R := ActAt W) (Q := QAct) Try.underlying22 Trycells36 (by omega) (fun n cs y b off => open_act n cs y b off) hf
  obtain ⟨hcap, hdata⟩ := hds.weigh (R := reachBytes) Try.underlying22 fun m hm => by
    have := List.all_eq_true.1 hsz1 m (DataW.weights_mem_each (j := 2) (t := 22) rfl rfl m hm)
    simpa using this
  rw [Trybytes36] at hcap
  have hda : ∀ a ∈ l, a.data.length ≤ 140737488355328 := fun a ha => by
    obtain ⟨d, ⟨_, _, _, e, c, rfl, hd, hle⟩, hm⟩ := hdata a ha
    have := hd.weigh (R := reachBytes) Try.underlying30 Trybytes5 fun m h => hm m (by
      simp only [DataW.weights, Try.underlying36]
      exact DataW.weights_mem_each (j := 3) (t := 30) rfl rfl m h)
    simp only [reachBytes] at this
    omega
  have hone : -9223372036854775808 ≤ one ∧ one ≤ 9223372036854775807 := by simpa [Lit.wf, IntKind.min, IntKind.max, IntKind.signed, IntKind.bits] using w0
  have htwo : -9223372036854775808 ≤ two ∧ two ≤ 9223372036854775807 := by simpa [Lit.wf, IntKind.min, IntKind.max, IntKind.signed, IntKind.bits] using w2
  refine (Script_calls W one two hone htwo A n cap l hacts (by simp only [reachBytes] at hcap; omega) hda (Lw.of_shaped hsh)).mono fun e W' he => ?_
  obtain ⟨v, rfl, rfl, hnx⟩ := he
  have hargs : DataW.Trod enc Try.prog W' 0 (fun b => decide (b < W.heap.size)) true 22 (.slice A n cap) d1 p1 :=
    Below.trod TrylaidOut (by kernel_rfl) (of_decide_eq_true (by kernel_rfl)) h1k hnx hlt
  refine ⟨_, rfl, _, _, _, [], _, [], hW', trodAll_mk1 (shut_bool Try.underlying4 _), trodAll_mk3 (shut_int Try.underlying3 w0) (shut_int Try.underlying3 w2) hargs, rfl, hnx.frame _, fun h => by cases h⟩

theorem script_holds : Rows.IntakeScriptSaid :=
  OpenClaim.holds_of_wide 3 Try.f3 rfl rfl rfl rfl rfl rfl rfl ⟨rfl, rfl, rfl, rfl, rfl⟩ rfl rfl rfl rfl rfl (by kernel_rfl) Try.func3 (by kernel_rfl)
    (of_decide_eq_true (by kernel_rfl)) (by unfold Func.isWrapper; first | (rw [if_pos (by decide +kernel)]; kernel_rfl) | (rw [if_neg (by decide +kernel)]; exact ⟨rfl, rfl⟩))
    (fun os started H enc _ => script_lifted os started H enc)

#print axioms script_holds
end Go.Proofs.Ytoeaaomgilgncaa
