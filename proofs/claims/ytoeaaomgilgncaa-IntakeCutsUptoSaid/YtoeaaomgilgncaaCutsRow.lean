/-
  IntakeCuts: THE ROW: for every limit, text, cuts and sizes of bulk at most 1048576 the law returns true and leaves its arguments as they were.
-/
import Derived.Test.YtoeaaomgilgncaaCuts7
import Derived.Test.YtoeaaomgilgncaaBoundsRow
import Derived.Test.YtoeaaomgilgncaaCondShaped
import Derived.JoinedCond
namespace Go.Proofs.Ytoeaaomgilgncaa
open Go.ChangeShapes Go.WideShapes Go.ChangeAt Go.RowKit Go.Deep Go.Mem Go.Intake
set_option linter.unusedVariables false

theorem Trybytes3 : Try.prog.bytesOf 3 = 8 := by kernel_rfl
theorem bulk_all_len {H : Type} : ∀ l : List (DataW H), l.length ≤ Rows.uptoBulkAll l
  | [] => Nat.zero_le _
  | d :: l => by
    have h1 : 1 ≤ Rows.uptoBulk d := by
      cases d with
      | lit l => cases l <;> simp [Rows.uptoBulk]
      | nil => simp [Rows.uptoBulk]
      | ptr d => simp [Rows.uptoBulk]
      | slice elems spare => simp [Rows.uptoBulk]
      | agg parts => simp [Rows.uptoBulk]
      | iface t d => simp [Rows.uptoBulk]
      | map entries => simp [Rows.uptoBulk]
      | held h => simp [Rows.uptoBulk]
    have := bulk_all_len l
    simp only [Rows.uptoBulkAll, List.length_cons]
    omega
theorem bulk_mem {H : Type} {d : DataW H} {l : List (DataW H)} (h : d ∈ l) : Rows.uptoBulk d ≤ Rows.uptoBulkAll l := by
  induction l with
  | nil => cases h
  | cons x r ih =>
    simp only [Rows.uptoBulkAll]
    cases List.mem_cons.1 h with
    | inl e => subst e; omega
    | inr e => have := ih e; omega
theorem db_bulk {H : Type} {d : DataW H} {l : List UInt8} {cap : Nat} (h : DB d l cap) : l.length ≤ Rows.uptoBulk d := by
  rcases h with ⟨rfl, rfl, rfl⟩ | ⟨r, rfl, rfl⟩
  · exact Nat.zero_le _
  · have := bulk_all_len (lits (H := H) .u8 (l.map fun b => (b.toNat : Int)))
    simp only [lits, List.length_map] at this
    simp only [Rows.uptoBulk, lits]
    omega

/-- A slice of numbers, from its reading. -/
theorem open_rdI {H : Type} {enc : TypeId × Value → H} {P : Program} {w : World} {held : Bool} {t e : TypeId} {fuel : Nat} {v : Value} {x : DataW H × List MemPlace} (ht : P.underlying t = some (.slice e)) (he : P.underlying e = some (.int .i64)) (hc : P.cellsOf e = 1)
    (h : DataW.trod enc P w 0 (fun _ => true) held fuel t [v] = some x) :
    ∃ A n cap l, v = .slice A n cap ∧ RdI w A n cap l ∧ ∀ z ∈ l, (Lit.int .i64 z).wf = true := by
  rcases open_ints ht he hc h with ⟨hcs, hx⟩ | ⟨a, len, cap, zs, hcs, _, hl, hm, hz, hx, hcell, hwz⟩
  · obtain rfl : v = .slice none 0 0 := by simpa using hcs
    exact ⟨none, 0, 0, [], rfl, ⟨rfl, Nat.le_refl _, Nat.zero_le _, fun _ => rfl, fun j u hj => by simp at hj⟩, fun z hz => by simp at hz⟩
  · obtain rfl : v = .slice (some a) len cap := by simpa using hcs
    simp only [if_true] at hz
    refine ⟨some a, len, cap, zs.take len, rfl, ⟨by simp; omega, hl, hm, fun h => (by cases h), fun j u hj => ?_⟩, fun z hz' => hwz z (List.mem_of_mem_take hz')⟩
    have hj' : j < len := by
      have := List.getElem?_eq_some_iff.1 hj
      obtain ⟨h1, _⟩ := this
      simp at h1
      omega
    have hcj := hcell j (by omega)
    have hc0 := hcell 0 (by omega)
    obtain ⟨b, off, spot⟩ := a
    obtain rfl : spot = none := by simpa [Addr.add] using World.cell?_spot hc0
    refine ⟨b, off, rfl, ?_⟩
    rw [← add_plain, hcj]
    simp only [List.getElem?_map, List.getElem?_take, if_pos hj'] at hj
    rw [List.getElem?_eq_getElem (by omega : j < zs.length)] at hj
    simp only [Option.map_some, Option.some.injEq] at hj
    rw [← hj, List.getD_eq_getElem?_getD, List.getElem?_eq_getElem (by omega : j < zs.length)]
    rfl

/-- A slice that came in lies in a block that is there. -/
theorem okWide_slice_lt {P : Program} {w : World} {r : Reach} {base : Nat} {t e : TypeId} (ht : P.underlying t = some (.slice e)) {A : Option Addr} {n cap : Nat} (h : Value.okWide P w r base t (.slice A n cap)) (j : Nat) (hj : InB A j) : j < w.heap.size := by
  obtain ⟨a, rfl, rfl⟩ := hj
  simp only [Value.okWide, ht, Cell.okWide, Cell.ok] at h
  obtain ⟨_, _, _, _, row, cells, hs, _⟩ := h
  simp only [World.shape?] at hs
  by_cases hlt : a.block < w.heap.size
  · exact hlt
  · rw [Array.getElem?_eq_none (by omega)] at hs
    simp at hs

set_option maxRecDepth 100000 in
set_option maxHeartbeats 1000000 in
theorem cuts_lifted (os : Os) (started : os.Started) (H : Type) (enc : TypeId × Value → H) (F : Stop.Interp) :
    ReturnsInHanded {} Try.checked os 4 .any ((Rows.OpenSpec.upto Rows.intakeCutsSpec).pre6 enc Try.prog Try.f4 Rows.intakeCutsUptoRow.domain false) (((Rows.OpenSpec.upto Rows.intakeCutsSpec).at F).post enc Try.prog Try.f4 false true false false) := by
  refine returnsInHanded_of_cond_shaped (C := Try.checked) (s := Rows.OpenSpec.upto Rows.intakeCutsSpec) (k := Rows.uptoSmall) rfl Tryown started (by kernel_rfl) Try.func4
    (OpenSpec.witness (enc := enc) (C := Try.checked) (s := Rows.OpenSpec.upto Rows.intakeCutsSpec) (k := Rows.uptoSmall) rfl false ⟨#[], #[.int .i64 0, .slice none 0 0, .slice none 0 0, .slice none 0 0], []⟩ 8 (by kernel_rfl) (by kernel_rfl) (by kernel_rfl)
      (x := ([.lit (.int .i64 0), .nil, .nil, .nil], [], [])) (by kernel_rfl) rfl (by kernel_rfl)) ?_
  intro W base args ds gs before hval0 hW _ hk _ hsh _
  have hval : ∀ (j : Nat) t v, Try.f4.params[j]? = some t → args[j]? = some v → Value.okWide Try.prog W .any base t v := hval0
  have hW' := hW
  obtain ⟨p, q, hA0, hV, rfl, _, _⟩ := hW
  have hA : DataW.TrodAll enc Try.prog W 0 (fun _ => true) true Try.f4.params.toList args.toList ds p := hA0
  rw [Try.params4] at hA hval
  have hk1 := of_decide_eq_true hk
  obtain ⟨v0, v1, v2, v3, d0, d1, d2, d3, p0, p1, p2, p3, rfl, rfl, rfl, h0, h1, h2, h3⟩ := trodAll_four hA
  obtain ⟨rfl, rfl⟩ := trodVars_none hV
  obtain ⟨max, rfl, rfl, rfl, w0⟩ := open_int Try.underlying3 (hval 0 3 v0 rfl rfl) h0
  have h1k := h1
  have h2k := h2
  have h3k := h3
  obtain ⟨fuel, hf⟩ := h1
  obtain ⟨fuel2, hf2⟩ := h2
  obtain ⟨fuel3, hf3⟩ := h3
  clear hA0 hval0 hA
  simp only [List.append_nil, List.nil_append] at hW'
  have hlt : ∀ x ∈ p1 ++ (p2 ++ p3), x.block < W.heap.size := fun x hx => by simpa using hW'.lt x (by simpa using hx)
  have hv1 : ∃ a len cap, v1 = .slice a len cap := okWide_slice Try.underlying30 (hval 1 30 v1 rfl rfl)
  have hv2 : ∃ a len cap, v2 = .slice a len cap := okWide_slice Try.underlying42 (hval 2 42 v2 rfl rfl)
  have hv3 : ∃ a len cap, v3 = .slice a len cap := okWide_slice Try.underlying42 (hval 3 42 v3 rfl rfl)
  have hcells1 : v1.cells.toList = [v1] := by obtain ⟨a, len, cap, rfl⟩ := hv1; rfl
  have hcells2 : v2.cells.toList = [v2] := by obtain ⟨a, len, cap, rfl⟩ := hv2; rfl
  have hcells3 : v3.cells.toList = [v3] := by obtain ⟨a, len, cap, rfl⟩ := hv3; rfl
  rw [hcells1] at hf
  rw [hcells2] at hf2
  rw [hcells3] at hf3
  obtain ⟨At, nt, ct, text, rfl, hrt, hdt⟩ := open_rdB Try.underlying30 Try.underlying5 Trycells5 hf
  obtain ⟨Ac, nc, cc, cuts, rfl, hrc, hcw⟩ := open_rdI Try.underlying42 Try.underlying3 Trycells3 hf2
  obtain ⟨Az, nz, cz, sizes, rfl, hrz, hzw⟩ := open_rdI Try.underlying42 Try.underlying3 Trycells3 hf3
  have hmax : -9223372036854775808 ≤ max ∧ max ≤ 9223372036854775807 := by simpa [Lit.wf, IntKind.min, IntKind.max, IntKind.signed, IntKind.bits] using w0
  have hb := db_bulk hdt
  have hnt := hrt.blen
  simp only [Rows.uptoBulkAll, List.append_nil] at hk1 hb
  refine (Cuts_calls W max At nt ct text hrt Ac nc cc cuts hrc (fun z hz => by simpa [Lit.wf, IntKind.min, IntKind.max, IntKind.signed, IntKind.bits] using hcw z hz) Az nz cz sizes hrz (fun z hz => by simpa [Lit.wf, IntKind.min, IntKind.max, IntKind.signed, IntKind.bits] using hzw z hz) (fun j hj => okWide_slice_lt Try.underlying42 (hval 3 42 _ rfl rfl) j hj) (by omega) (Lw.of_shaped hsh) hmax).mono fun e W' he => ?_
  obtain ⟨v, rfl, rfl, hnx⟩ := he
  have hargs1 : DataW.Trod enc Try.prog W' 0 (fun b => decide (b < W.heap.size)) true 30 (.slice At nt ct) d1 p1 :=
    Below.trod TrylaidOut (by kernel_rfl) (of_decide_eq_true (by kernel_rfl)) h1k hnx fun x hx => hlt x (by simp [hx])
  have hargs2 : DataW.Trod enc Try.prog W' 0 (fun b => decide (b < W.heap.size)) true 42 (.slice Ac nc cc) d2 p2 :=
    Below.trod TrylaidOut (by kernel_rfl) (of_decide_eq_true (by kernel_rfl)) h2k hnx fun x hx => hlt x (by simp [hx])
  have hargs3 : DataW.Trod enc Try.prog W' 0 (fun b => decide (b < W.heap.size)) true 42 (.slice Az nz cz) d3 p3 :=
    Below.trod TrylaidOut (by kernel_rfl) (of_decide_eq_true (by kernel_rfl)) h3k hnx fun x hx => hlt x (by simp [hx])
  refine ⟨_, rfl, _, _, _, [], _, [], hW', trodAll_mk1 (shut_bool Try.underlying4 _), trodAll_cons_mk (shut_int Try.underlying3 w0) (trodAll_mk3 hargs1 hargs2 hargs3), rfl, hnx.frame _, fun h => by cases h⟩

theorem cuts_holds : Rows.IntakeCutsUptoSaid :=
  OpenClaim.holds_of_cond 4 Try.f4 rfl rfl rfl rfl rfl rfl rfl ⟨rfl, rfl, rfl, rfl, rfl⟩ rfl rfl rfl rfl rfl (by kernel_rfl) Try.func4 (by kernel_rfl)
    (of_decide_eq_true (by kernel_rfl)) (by unfold Func.isWrapper; first | (rw [if_pos (by decide +kernel)]; kernel_rfl) | (rw [if_neg (by decide +kernel)]; exact ⟨rfl, rfl⟩))
    (fun os started H enc _ F => cuts_lifted os started H enc F)

#print axioms cuts_holds
end Go.Proofs.Ytoeaaomgilgncaa
