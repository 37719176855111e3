/-
  Arguments opened into the vocabulary of Base: a slice of bytes as 'RdB', a slice of structs as 'RdS', with what a reading's weights and bulk say of their sizes.
-/
import Derived.Test.YtoeaaomgilgncaaBase
import Derived.ProofKit
import Derived.OpenShut
import Derived.ChangeSlices
import Derived.Deep.Slices
import Derived.SizedLaws
namespace Go.Mem
open Go.ChangeShapes Go.WideShapes Go.ChangeAt Go.RowKit Go.Deep
set_option linter.unusedVariables false

section
variable {H : Type} {enc : TypeId × Value → H} {P : Program} {w : World} {held : Bool}

/-- How a slice of bytes reads. -/
def DB (d : DataW H) (l : List UInt8) (cap : Nat) : Prop := (d = .nil ∧ l = [] ∧ cap = 0) ∨ ∃ r, d = .slice (lits .u8 (l.map fun b => (b.toNat : Int))) r ∧ l.length + r.length = cap

theorem open_rdB {t e : TypeId} {fuel : Nat} {v : Value} {x : DataW H × List MemPlace} (ht : P.underlying t = some (.slice e)) (he : P.underlying e = some (.int .u8)) (hc : P.cellsOf e = 1)
    (h : DataW.trod enc P w 0 (fun _ => true) held fuel t [v] = some x) :
    ∃ A n cap l, v = .slice A n cap ∧ RdB w A n cap l ∧ DB x.1 l cap := by
  rcases open_ints ht he hc h with ⟨hcs, hx⟩ | ⟨a, len, cap, zs, hcs, _, hl, hm, hz, hx, hcell, hwz⟩
  · obtain rfl : v = .slice none 0 0 := by simpa using hcs
    exact ⟨none, 0, 0, [], rfl, ⟨rfl, Nat.le_refl _, Nat.zero_le _, fun _ => rfl, fun j u hj => by simp at hj⟩, .inl ⟨by rw [hx], rfl, rfl⟩⟩
  · obtain rfl : v = .slice (some a) len cap := by simpa using hcs
    simp only [if_true] at hz
    have bnd : ∀ z ∈ zs, 0 ≤ z ∧ z ≤ 255 := fun z hz' => by
      have h5 := hwz z hz'
      have e1 : IntKind.u8.min = 0 := rfl
      have e2 : IntKind.u8.max = 255 := rfl
      simpa [Lit.wf, e1, e2] using h5
    have hback : ∀ l : List Int, (∀ z ∈ l, 0 ≤ z ∧ z ≤ 255) → (l.map fun z => UInt8.ofNat z.toNat).map (fun b => (b.toNat : Int)) = l := by
      intro l hl
      rw [List.map_map]
      conv => rhs; rw [← List.map_id l]
      apply List.map_congr_left
      intro z hz'
      have := hl z hz'
      simp only [Function.comp_apply, UInt8.toNat_ofNat', id_eq]
      omega
    refine ⟨some a, len, cap, (zs.take len).map fun z => UInt8.ofNat z.toNat, rfl, ⟨by simp; omega, hl, hm, fun h => (by cases h), fun j u hj => ?_⟩, .inr ⟨lits .u8 (zs.drop len), by rw [hx, hback _ fun z hz' => bnd z (List.mem_of_mem_take hz')], by simp [lits]; omega⟩⟩
    have hj' : j < len := by
      have := List.getElem?_eq_some_iff.1 hj
      obtain ⟨h1, _⟩ := this
      simp at h1
      omega
    have hcj := hcell j (by omega)
    have hc0 := hcell 0 (by omega)
    obtain ⟨b, off, spot⟩ := a
    obtain rfl : spot = none := by simpa [Addr.add] using World.cell?_spot hc0
    refine ⟨b, off, rfl, ?_⟩
    rw [← add_plain, hcj]
    have hzj := bnd (zs.getD j 0) (by rw [List.getD_eq_getElem?_getD, List.getElem?_eq_getElem (by omega : j < zs.length)]; exact List.getElem_mem _)
    simp only [bc, List.map_map, List.getElem?_map, List.getElem?_take, if_pos hj'] at hj
    rw [List.getElem?_eq_getElem (by omega : j < zs.length)] at hj
    simp only [Option.map_some, Function.comp_apply, Option.some.injEq] at hj
    rw [← hj]
    rw [List.getD_eq_getElem?_getD, List.getElem?_eq_getElem (by omega : j < zs.length)] at hzj ⊢
    simp only [Option.getD_some] at hzj ⊢
    congr 2
    simp only [UInt8.toNat_ofNat']
    omega

/-- What the weights say of it. -/
theorem DB.weigh {t e : TypeId} {d : DataW H} {l : List UInt8} {cap R : Nat} (h : DB d l cap) (ht : P.underlying t = some (.slice e)) (hb : P.bytesOf e = 1) (hw : ∀ m ∈ d.weights P t, m ≤ R) : cap ≤ R := by
  rcases h with ⟨rfl, rfl, rfl⟩ | ⟨r, rfl, rfl⟩
  · exact Nat.zero_le _
  · have := hw ((lits (H := H) .u8 (l.map fun b => (b.toNat : Int))).length + r.length) (by simp [DataW.weights, ht, hb])
    simpa [lits] using this
theorem weightsAll_mem {e : TypeId} : ∀ {l : List (DataW H)} {d : DataW H}, d ∈ l → ∀ m ∈ d.weights P e, m ∈ DataW.weightsAll P e l
  | x :: l, d, h, m, hm => by
    simp only [DataW.weightsAll, List.mem_append]
    rcases List.mem_cons.1 h with rfl | h
    · exact .inl hm
    · exact .inr (weightsAll_mem h m hm)

/-- How a slice of structs reads. -/
def DS {α : Type} (Q : α → DataW H → Prop) (d : DataW H) (l : List α) (cap : Nat) : Prop :=
  (d = .nil ∧ l = [] ∧ cap = 0) ∨ ∃ es r, d = .slice es r ∧ es.length + r.length = cap ∧ es.length = l.length ∧ ∀ i (h : i < l.length), ∃ d, es[i]? = some d ∧ Q l[i] d

theorem open_rdS {α : Type} [Inhabited α] {R : Nat → Nat → α → Prop} {Q : α → DataW H → Prop} {size : Nat} {t e : TypeId} {fuel : Nat} {v : Value} {x : DataW H × List MemPlace} (ht : P.underlying t = some (.slice e)) (ce : P.cellsOf e = size) (hs : 0 < size)
    (hel : ∀ n cs y b off, (∀ j, j < size → w.cell? ⟨b, off + j, none⟩ = cs[j]?) → cs.length = size → DataW.trod enc P w 0 (fun _ => true) held n e cs = some y → ∃ a, R b off a ∧ Q a y.1)
    (h : DataW.trod enc P w 0 (fun _ => true) held fuel t [v] = some x) :
    ∃ A n cap l, v = .slice A n cap ∧ RdS size R A n cap l ∧ DS Q x.1 l cap := by
  rcases open_slice ht h with ⟨hcs, hx⟩ | ⟨a, len, cap, m, k, D, Pl, hcs, _, hl, hm, hmm, hx, hcell⟩
  · obtain rfl : v = .slice none 0 0 := by simpa using hcs
    exact ⟨none, 0, 0, [], rfl, ⟨rfl, Nat.le_refl _, Nat.zero_le _, fun _ => rfl, fun j hj => by simp at hj⟩, .inl ⟨by rw [hx], rfl, rfl⟩⟩
  · obtain rfl : v = .slice (some a) len cap := by simpa using hcs
    simp only [if_true] at hmm
    have hspot : 0 < len → a.spot = none := fun hp => by
      obtain ⟨cs', h1, _⟩ := hcell 0 (by omega)
      rw [ce] at h1
      obtain ⟨_, hlen, hc⟩ := World.cells?_some h1
      have h0 := hc 0 (by omega)
      rw [List.getElem?_eq_getElem (by omega)] at h0
      simpa [Addr.add] using World.cell?_spot h0
    have each : ∀ i, i < len → ∃ q : α, (∃ b off, a = ⟨b, off, none⟩ ∧ R b (off + i * size) q) ∧ Q q (D i) := by
      intro i hi
      obtain ⟨cs', h1, h2⟩ := hcell i (by omega)
      rw [ce] at h1
      obtain ⟨_, hlen, hc⟩ := World.cells?_some h1
      obtain ⟨b, off, spot⟩ := a
      obtain rfl : spot = none := hspot (by omega)
      obtain ⟨q, hq, hq2⟩ := hel k cs' _ b (off + i * size) (fun j hj => by
        have := hc j hj
        rwa [add_plain, add_plain] at this) hlen h2
      exact ⟨q, ⟨b, off, rfl, hq⟩, hq2⟩
    obtain ⟨q, hq⟩ := choose_lt each
    refine ⟨some a, len, cap, (List.range len).map q, rfl, ⟨by simp, hl, hm, fun h => (by cases h), fun i hi => ?_⟩, .inr ⟨_, _, by rw [hx], by simp; omega, by simp, fun i hi => ?_⟩⟩
    · have hi' : i < len := by simpa using hi
      obtain ⟨⟨b, off, rfl, h1⟩, _⟩ := hq i hi'
      exact ⟨b, off, rfl, by simpa using h1⟩
    · have hi' : i < len := by simpa using hi
      exact ⟨D i, by simp [hi'], by simpa using (hq i hi').2⟩
theorem DS.weigh {α : Type} {Q : α → DataW H → Prop} {t e : TypeId} {d : DataW H} {l : List α} {cap R : Nat} (h : DS Q d l cap) (ht : P.underlying t = some (.slice e)) (hw : ∀ m ∈ d.weights P t, m ≤ R) :
    cap * P.bytesOf e ≤ R ∧ ∀ a ∈ l, ∃ d, Q a d ∧ ∀ m ∈ d.weights P e, m ≤ R := by
  rcases h with ⟨rfl, rfl, rfl⟩ | ⟨es, r, rfl, rfl, hl, hq⟩
  · exact ⟨by simp, fun a ha => by simp at ha⟩
  · refine ⟨hw _ (by simp [DataW.weights, ht]), fun a ha => ?_⟩
    obtain ⟨i, hi, rfl⟩ := List.getElem_of_mem ha
    obtain ⟨d, hd, hq⟩ := hq i hi
    refine ⟨d, hq, fun m hm => hw m ?_⟩
    have : d ∈ es := List.mem_of_getElem? hd
    simp only [DataW.weights, ht, List.mem_cons, List.mem_append]
    exact .inr (.inl (weightsAll_mem this m hm))
end
end Go.Mem
