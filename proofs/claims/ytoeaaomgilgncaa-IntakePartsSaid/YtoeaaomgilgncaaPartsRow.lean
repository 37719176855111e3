/-
  IntakeParts: THE ROW: for every limit, all parts and all cuts of the size a machine has, the law returns true and leaves its arguments as they were.
-/
import Derived.Test.YtoeaaomgilgncaaParts2
import Derived.Test.YtoeaaomgilgncaaBoundsRow
namespace Go.Proofs.Ytoeaaomgilgncaa
open Go.ChangeShapes Go.WideShapes Go.ChangeAt Go.RowKit Go.Deep Go.Mem Go.Intake
set_option linter.unusedVariables false

theorem Trycells9 : Try.prog.cellsOf 9 = 1 := by kernel_rfl
theorem Trycells4 : Try.prog.cellsOf 4 = 1 := by kernel_rfl
theorem Trycells59 : Try.prog.cellsOf 59 = 4 := by kernel_rfl
theorem Trybytes59 : Try.prog.bytesOf 59 = 48 := by kernel_rfl

/-- A slice of numbers, from its reading. -/
theorem open_rdI {H : Type} {enc : TypeId × Value → H} {P : Program} {w : World} {held : Bool} {t e : TypeId} {fuel : Nat} {v : Value} {x : DataW H × List MemPlace} (ht : P.underlying t = some (.slice e)) (he : P.underlying e = some (.int .i64)) (hc : P.cellsOf e = 1)
    (h : DataW.trod enc P w 0 (fun _ => true) held fuel t [v] = some x) :
    ∃ A n cap l, v = .slice A n cap ∧ RdI w A n cap l ∧ ∀ z ∈ l, (Lit.int .i64 z).wf = true := by
  rcases open_ints ht he hc h with ⟨hcs, hx⟩ | ⟨a, len, cap, zs, hcs, _, hl, hm, hz, hx, hcell, hwz⟩
  · obtain rfl : v = .slice none 0 0 := by simpa using hcs
    exact ⟨none, 0, 0, [], rfl, ⟨rfl, Nat.le_refl _, Nat.zero_le _, fun _ => rfl, fun j u hj => by simp at hj⟩, fun z hz => by simp at hz⟩
  · obtain rfl : v = .slice (some a) len cap := by simpa using hcs
    simp only [if_true] at hz
    refine ⟨some a, len, cap, zs.take len, rfl, ⟨by simp; omega, hl, hm, fun h => (by cases h), fun j u hj => ?_⟩, fun z hz' => hwz z (List.mem_of_mem_take hz')⟩
    have hj' : j < len := by
      have := List.getElem?_eq_some_iff.1 hj
      obtain ⟨h1, _⟩ := this
      simp at h1
      omega
    have hcj := hcell j (by omega)
    have hc0 := hcell 0 (by omega)
    obtain ⟨b, off, spot⟩ := a
    obtain rfl : spot = none := by simpa [Addr.add] using World.cell?_spot hc0
    refine ⟨b, off, rfl, ?_⟩
    rw [← add_plain, hcj]
    simp only [List.getElem?_map, List.getElem?_take, if_pos hj'] at hj
    rw [List.getElem?_eq_getElem (by omega : j < zs.length)] at hj
    simp only [Option.map_some, Option.some.injEq] at hj
    rw [← hj, List.getD_eq_getElem?_getD, List.getElem?_eq_getElem (by omega : j < zs.length)]
    rfl

def PartRaw (w : World) (b off : Nat) (a : Part) : Prop :=
  w.cell? ⟨b, off, none⟩ = some (.string a.text) ∧ w.cell? ⟨b, off + 1, none⟩ = some (.bool a.body) ∧ w.cell? ⟨b, off + 2, none⟩ = some (.bool a.broken) ∧ ∃ A n cap, w.cell? ⟨b, off + 3, none⟩ = some (.slice A n cap) ∧ RdB w A n cap a.data
/-- A part, from its four cells. -/
def QPart {H : Type} (a : Part) (d : DataW H) : Prop := ∃ k n e cap, d = .agg [.lit (.string a.text.data.toList), k, n, e] ∧ DB e a.data cap ∧ a.data.length ≤ cap
theorem open_part {H : Type} {enc : TypeId × Value → H} {w : World} {held : Bool} (n : Nat) (cs : List Value) (y : DataW H × List MemPlace) (b off : Nat)
    (hc : ∀ j, j < 4 → w.cell? ⟨b, off + j, none⟩ = cs[j]?) (hl : cs.length = 4) (h : DataW.trod enc Try.prog w 0 (fun _ => true) held n 59 cs = some y) :
    ∃ a : Part, PartRaw w b off a ∧ QPart a y.1 := by
  obtain ⟨xs, k, _, rfl, _, hxl, hf⟩ := DataW.trod_struct Try.underlying59 h
  match xs, hxl, cs, hl with
  | [y0, y1, y2, y3], _, [v0, v1, v2, v3], _ =>
    have g0 : DataW.trod enc Try.prog w 0 (fun _ => true) held k 9 [v0] = some y0 := by simpa [Trycells9] using hf 0 _ rfl
    have g1 : DataW.trod enc Try.prog w 0 (fun _ => true) held k 4 [v1] = some y1 := by simpa [Trycells4] using hf 1 _ rfl
    have g2 : DataW.trod enc Try.prog w 0 (fun _ => true) held k 4 [v2] = some y2 := by simpa [Trycells4] using hf 2 _ rfl
    have g3 : DataW.trod enc Try.prog w 0 (fun _ => true) held k 30 [v3] = some y3 := by simpa [Trycells30] using hf 3 _ rfl
    have e0 := hc 0 (by omega)
    have e1 := hc 1 (by omega)
    have e2 := hc 2 (by omega)
    have e3 := hc 3 (by omega)
    obtain ⟨z0, f0, u0⟩ := DataW.trod_string Try.underlying9 g0
    obtain ⟨z1, f1, _⟩ := DataW.trod_bool Try.underlying4 g1
    obtain ⟨z2, f2, _⟩ := DataW.trod_bool Try.underlying4 g2
    obtain ⟨A, n, cap, l, f3, hr, hd⟩ := open_rdB Try.underlying30 Try.underlying5 Trycells5 g3
    simp only [List.cons.injEq, and_true] at f0 f1 f2
    subst f0 f1 f2 f3
    refine ⟨⟨z0, z1, z2, l⟩, ⟨by simpa using e0, by simpa using e1, by simpa using e2, A, n, cap, by simpa using e3, hr⟩, y1.1, y2.1, y3.1, cap, ?_, hd, ?_⟩
    · simp [u0.1]
    · have := hr.blen
      have := hr.le
      show l.length ≤ cap
      omega

set_option maxRecDepth 100000 in
set_option maxHeartbeats 1000000 in
theorem parts_lifted (os : Os) (started : os.Started) (H : Type) (enc : TypeId × Value → H) :
    ReturnsInHanded {} Try.checked os 5 .any (Rows.intakePartsSpec.pre6 enc Try.prog Try.f5 Rows.intakePartsRow.domain false) (Rows.intakePartsSpec.post enc Try.prog Try.f5 false true false false) := by
  refine returnsInHanded_of_change_shaped (C := Try.checked) Tryown started (by kernel_rfl) Try.func5
    (ChangeSpec.witness6 (enc := enc) (C := Try.checked) false ⟨#[], #[.int .i64 0, .slice none 0 0, .slice none 0 0], []⟩ 8 (by kernel_rfl) (by kernel_rfl) (by kernel_rfl) (by kernel_rfl)) ?_
  intro W base args ds gs before hval0 hW _ hsz hsh _
  have hval : ∀ (j : Nat) t v, Try.f5.params[j]? = some t → args[j]? = some v → Value.okWide Try.prog W .any base t v := hval0
  have hW' := hW
  obtain ⟨p, q, hA0, hV, rfl, _, _⟩ := hW
  have hA : DataW.TrodAll enc Try.prog W 0 (fun _ => true) true Try.f5.params.toList args.toList ds p := hA0
  rw [Try.params5] at hA hval
  have hsz1 : (DataW.weightsEach Try.prog (Try.f5.params.toList ++ Rows.intakePartsSpec.plain.varTypes Try.prog) (ds ++ gs)).all (· ≤ reachBytes) = true := hsz
  rw [Try.params5] at hsz1
  obtain ⟨v0, v1, v2, d0, d1, d2, p0, p1, p2, rfl, rfl, rfl, h0, h1, h2⟩ := trodAll_three hA
  obtain ⟨rfl, rfl⟩ := trodVars_none hV
  obtain ⟨max, rfl, rfl, rfl, w0⟩ := open_int Try.underlying3 (hval 0 3 v0 rfl rfl) h0
  have h1k := h1
  have h2k := h2
  obtain ⟨fuel, hf⟩ := h1
  obtain ⟨fuel2, hf2⟩ := h2
  clear hA0 hval0 hA hsz
  simp only [List.append_nil, List.nil_append] at hW'
  have hlt : ∀ x ∈ p1, x.block < W.heap.size := fun x hx => by simpa using hW'.lt x (List.mem_append_left _ hx)
  have hlt2 : ∀ x ∈ p2, x.block < W.heap.size := fun x hx => by simpa using hW'.lt x (List.mem_append_right _ hx)
  have hv1 : ∃ a len cap, v1 = .slice a len cap := okWide_slice Try.underlying56 (hval 1 56 v1 rfl rfl)
  have hv2 : ∃ a len cap, v2 = .slice a len cap := okWide_slice Try.underlying42 (hval 2 42 v2 rfl rfl)
  have hcells : v1.cells.toList = [v1] := by obtain ⟨a, len, cap, rfl⟩ := hv1; rfl
  have hcells2 : v2.cells.toList = [v2] := by obtain ⟨a, len, cap, rfl⟩ := hv2; rfl
  rw [hcells] at hf
  rw [hcells2] at hf2
  haveI : Inhabited Part := ⟨⟨⟨#[]⟩, false, false, []⟩⟩
  obtain ⟨A, n, cap, l, rfl, hacts, hds⟩ := open_rdS (R := PartRaw W) (Q := QPart) Try.underlying56 Trycells59 (by omega) (fun n cs y b off => open_part n cs y b off) hf
  obtain ⟨hcap, hdata⟩ := hds.weigh (R := reachBytes) Try.underlying56 fun m hm => by
    have := List.all_eq_true.1 hsz1 m (DataW.weights_mem_each (j := 1) (t := 56) rfl rfl m hm)
    simpa using this
  rw [Trybytes59] at hcap
  have hda : ∀ a ∈ l, a.data.length ≤ 140737488355328 ∧ a.text.size ≤ 140737488355328 := fun a ha => by
    obtain ⟨d, ⟨_, _, e, c, rfl, hd, hle⟩, hm⟩ := hdata a ha
    have h1 := hd.weigh (R := reachBytes) Try.underlying30 Trybytes5 fun m h => hm m (by
      simp only [DataW.weights, Try.underlying59]
      exact DataW.weights_mem_each (j := 3) (t := 30) rfl rfl m h)
    have h2 := hm a.text.data.toList.length (by
      simp only [DataW.weights, Try.underlying59]
      exact DataW.weights_mem_each (j := 0) (t := 9) rfl rfl _ (by simp [DataW.weights]))
    have hz : a.text.data.toList.length = a.text.size := by rw [Array.length_toList]; rfl
    simp only [reachBytes] at h1 h2
    omega
  have hparts : Parts W A n cap l := ⟨hacts.1, hacts.2.1, hacts.2.2.1, hacts.2.2.2.1, fun i hi => by
    obtain ⟨g, off, e, k0, k1, k2, k3⟩ := hacts.2.2.2.2 i hi
    exact ⟨g, off, e, k0, k1, k2, k3, (hda _ (List.getElem_mem hi)).2⟩⟩
  obtain ⟨Ac, nc, cc, cuts, rfl, hrc, hcw⟩ := open_rdI Try.underlying42 Try.underlying3 Trycells3 hf2
  have hmax : -9223372036854775808 ≤ max ∧ max ≤ 9223372036854775807 := by simpa [Lit.wf, IntKind.min, IntKind.max, IntKind.signed, IntKind.bits] using w0
  refine (Parts_calls W max A n cap l hparts (by simp only [reachBytes] at hcap; omega) hda Ac nc cc cuts hrc (fun z hz => by simpa [Lit.wf, IntKind.min, IntKind.max, IntKind.signed, IntKind.bits] using hcw z hz) (Lw.of_shaped hsh) hmax).mono fun e W' he => ?_
  obtain ⟨v, rfl, rfl, hnx⟩ := he
  have hargs : DataW.Trod enc Try.prog W' 0 (fun b => decide (b < W.heap.size)) true 56 (.slice A n cap) d1 p1 :=
    Below.trod TrylaidOut (by kernel_rfl) (of_decide_eq_true (by kernel_rfl)) h1k hnx hlt
  have hargs2 : DataW.Trod enc Try.prog W' 0 (fun b => decide (b < W.heap.size)) true 42 (.slice Ac nc cc) d2 p2 :=
    Below.trod TrylaidOut (by kernel_rfl) (of_decide_eq_true (by kernel_rfl)) h2k hnx hlt2
  refine ⟨_, rfl, _, _, _, [], _, [], hW', trodAll_mk1 (shut_bool Try.underlying4 _), trodAll_cons_mk (shut_int Try.underlying3 w0) (trodAll_mk2 hargs hargs2), rfl, hnx.frame _, fun h => by cases h⟩

theorem parts_holds : Rows.IntakePartsSaid :=
  OpenClaim.holds_of_wide 5 Try.f5 rfl rfl rfl rfl rfl rfl rfl ⟨rfl, rfl, rfl, rfl, rfl⟩ rfl rfl rfl rfl rfl (by kernel_rfl) Try.func5 (by kernel_rfl)
    (of_decide_eq_true (by kernel_rfl)) (by unfold Func.isWrapper; first | (rw [if_pos (by decide +kernel)]; kernel_rfl) | (rw [if_neg (by decide +kernel)]; exact ⟨rfl, rfl⟩))
    (fun os started H enc _ => parts_lifted os started H enc)

#print axioms parts_holds
end Go.Proofs.Ytoeaaomgilgncaa
