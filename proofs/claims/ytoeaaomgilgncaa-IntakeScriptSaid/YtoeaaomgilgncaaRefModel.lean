/-
  IntakeScript, the plain law: the document's intake, and that the program's tells the same.
-/
import Derived.Test.YtoeaaomgilgncaaCuts2
namespace Go.Intake

/-- The document's intake. -/
structure RS where
  most : Int
  mode : Int
  held : List UInt8
  n : Int
  cr : Bool
  ended : Bool
def rone (r : RS) (c : UInt8) : RS :=
  if r.mode = 1 ∧ r.ended = false then { r with ended := r.cr && c == 10, cr := c == 13 }
  else if r.mode = 3 ∧ 0 < r.n then { r with n := r.n - 1 }
  else { r with held := r.held ++ [c] }
def rfeed (r : RS) (b : List UInt8) : RS := b.foldl rone r
def rlong (r : RS) : RS := rfeed { r with mode := 1, cr := false, ended := false, held := [] } r.held
def rnext1 (r : RS) : RS × Option It :=
  if r.mode = 1 then
    if r.ended then ({ r with mode := 0 }, some (item 2 [] [])) else (r, none)
  else if r.mode = 2 then
    if r.n + 2 ≤ (r.held.length : Int) then
      ({ r with mode := 0, held := r.held.drop (r.n.toNat + 2) }, some (if r.held[r.n.toNat]? = some 13 ∧ r.held[r.n.toNat + 1]? = some 10 then item 3 [] (r.held.take r.n.toNat) else item 5 [] []))
    else (r, none)
  else
    if r.n = 0 then ({ r with mode := 0 }, some (item 4 [] [])) else (r, none)
def rnext (r : RS) : RS × Option It :=
  if r.mode = 0 then
    match find (r.held.take 224) with
    | some k => ({ r with held := r.held.drop (k + 2) }, some (item 1 (r.held.take k) []))
    | none => if r.held.length < 224 then (r, none) else rnext1 (rlong r)
  else rnext1 r
def rbody (r : RS) (n : Int) : RS × Int :=
  if n < 0 ∨ n > 4294967295 ∨ r.mode ≠ 0 then (r, 61)
  else if n ≤ r.most then ({ r with mode := 2, n := n }, 0)
  else (rfeed { r with mode := 3, n := n + 2, held := [] } r.held, 0)
def rnew (most : Int) : RS := ⟨most, 0, [], 0, false, false⟩
structure RS.Ok (r : RS) : Prop where
  mode : r.mode = 0 ∨ r.mode = 1 ∨ r.mode = 2 ∨ r.mode = 3
  n : 0 ≤ r.n ∧ r.n ≤ 4294967297

/-- Both stand the same. -/
structure Eqv (s : St) (r : RS) : Prop where
  most : s.most = r.most
  stands : s.stands = r.mode
  held : s.held = r.held
  size : s.stands = 2 → s.size = r.n
  left : s.stands = 3 → s.left = r.n
  ended : s.stands = 1 → s.ended = r.ended
  half : s.stands = 1 → s.ended = false → s.half = r.cr
  ok : r.Ok

theorem rfeed_app (r : RS) (a b : List UInt8) : rfeed r (a ++ b) = rfeed (rfeed r a) b := by
  unfold rfeed
  rw [List.foldl_append]
theorem RS.Ok.one {r : RS} (h : r.Ok) (c : UInt8) : (rone r c).Ok := by
  unfold rone
  split
  · exact ⟨h.mode, h.n⟩
  · split
    · have := h.n; exact ⟨h.mode, by simp only []; omega⟩
    · exact ⟨h.mode, h.n⟩
theorem RS.Ok.feed {r : RS} (h : r.Ok) (b : List UInt8) : (rfeed r b).Ok := by
  induction b generalizing r with
  | nil => exact h
  | cons c b ih => exact ih (h.one c)
theorem rfeed_plain {r : RS} (h1 : ¬ (r.mode = 1 ∧ r.ended = false)) (h3 : ¬ (r.mode = 3 ∧ 0 < r.n)) (b : List UInt8) : rfeed r b = { r with held := r.held ++ b } := by
  induction b generalizing r with
  | nil => simp [rfeed]
  | cons c b ih =>
    have : rone r c = { r with held := r.held ++ [c] } := by unfold rone; rw [if_neg h1, if_neg h3]
    show rfeed (rone r c) b = _
    rw [this, ih (r := { r with held := r.held ++ [c] }) h1 h3]
    simp
theorem rfeed_big {r : RS} (h3 : r.mode = 3) (h0 : 0 ≤ r.n) (b : List UInt8) : rfeed r b = { r with n := r.n - min r.n b.length, held := r.held ++ b.drop (min r.n b.length).toNat } := by
  induction b generalizing r with
  | nil =>
    have : min r.n ((([] : List UInt8).length : Nat) : Int) = 0 := by simp; omega
    rw [this]
    simp [rfeed]
  | cons c b ih =>
    by_cases hn : 0 < r.n
    · have : rone r c = { r with n := r.n - 1 } := by unfold rone; rw [if_neg (by rw [h3]; simp), if_pos ⟨h3, hn⟩]
      show rfeed (rone r c) b = _
      rw [this, ih (r := { r with n := r.n - 1 }) h3 (by simp only []; omega)]
      simp only [List.length_cons]
      have e : min r.n ((b.length + 1 : Nat) : Int) = min (r.n - 1) (b.length : Int) + 1 := by omega
      have e2 : (min (r.n - 1) (b.length : Int) + 1).toNat = (min (r.n - 1) (b.length : Int)).toNat + 1 := by omega
      have e3 : r.n - 1 - min (r.n - 1) (b.length : Int) = r.n - (min (r.n - 1) (b.length : Int) + 1) := by omega
      rw [e, e2, e3, List.drop_succ_cons]
    · have e0 : r.n = 0 := by omega
      rw [rfeed_plain (by rw [h3]; simp) (by omega)]
      have : min r.n (((c :: b).length : Nat) : Int) = 0 := by simp; omega
      rw [this]
      simp
theorem rfeed_long {r : RS} (h1 : r.mode = 1) (he : r.ended = false) (b : List UInt8) :
    (rfeed r b).held = r.held ++ (skipLine r.cr b).2.2 ∧ (rfeed r b).ended = (skipLine r.cr b).2.1 ∧ ((skipLine r.cr b).2.1 = false → (rfeed r b).cr = (skipLine r.cr b).1) ∧ (rfeed r b).mode = 1 ∧ (rfeed r b).most = r.most ∧ (rfeed r b).n = r.n := by
  induction b generalizing r with
  | nil => simp [rfeed, skipLine, h1, he]
  | cons c b ih =>
    have e1 : rone r c = { r with ended := r.cr && c == 10, cr := c == 13 } := by unfold rone; rw [if_pos ⟨h1, he⟩]
    have e2 : rfeed r (c :: b) = rfeed { r with ended := r.cr && c == 10, cr := c == 13 } b := by rw [← e1]; rfl
    rw [e2]
    unfold skipLine
    by_cases hc : (r.cr && c == 10) = true
    · rw [if_pos hc]
      rw [rfeed_plain (by simp only []; rw [hc]; simp) (by simp [h1])]
      simp [hc, h1]
    · rw [if_neg hc]
      have hf : (r.cr && c == 10) = false := by simpa using hc
      exact ih (r := { r with ended := r.cr && c == 10, cr := c == 13 }) h1 hf
theorem Eqv.feed {s : St} {r : RS} (h : Eqv s r) (b : List UInt8) : Eqv (feed s b) (rfeed r b) := by
  have hst := h.stands
  have hok := h.ok.feed b
  by_cases h1 : s.stands = 1 ∧ s.ended = false
  · have he : r.ended = false := by rw [← h.ended h1.1]; exact h1.2
    obtain ⟨k1, k2, k3, k4, k5, k6⟩ := rfeed_long (r := r) (by rw [← hst]; exact h1.1) he b
    rw [← h.half h1.1 h1.2] at k1 k2 k3
    unfold Intake.feed
    rw [if_pos h1]
    exact ⟨by rw [k5]; exact h.most, by rw [k4]; exact h1.1, by rw [k1, ← h.held], fun hx => by simp [h1.1] at hx, fun hx => by simp [h1.1] at hx, fun _ => k2.symm, fun _ hx => (k3 hx).symm, hok⟩
  · by_cases h3 : s.stands = 3
    · have hl := h.left h3
      rw [rfeed_big (by rw [← hst]; exact h3) h.ok.n.1] at hok ⊢
      unfold Intake.feed
      rw [if_neg h1, if_pos h3]
      exact ⟨h.most, hst, by simp only [h.held, hl], fun hx => by simp [h3] at hx, fun _ => by simp only [hl], fun hx => by simp [h3] at hx, fun hx => by simp [h3] at hx, hok⟩
    · have g1 : ¬ (r.mode = 1 ∧ r.ended = false) := by
        rintro ⟨a, c⟩
        rw [← hst] at a
        exact h1 ⟨a, by rw [h.ended a]; exact c⟩
      have g3 : ¬ (r.mode = 3 ∧ 0 < r.n) := fun hx => h3 (by rw [hst]; exact hx.1)
      rw [rfeed_plain g1 g3] at hok ⊢
      unfold Intake.feed
      rw [if_neg h1, if_neg h3]
      exact ⟨h.most, hst, by simp only [h.held], h.size, h.left, h.ended, h.half, hok⟩
theorem Eqv.long {s : St} {r : RS} (h : Eqv s r) : Eqv (long s) (rlong r) := by
  unfold Intake.long rlong
  rw [← h.held]
  exact Eqv.feed (s := { s with stands := 1, half := false, ended := false, held := [] }) (r := { r with mode := 1, cr := false, ended := false, held := [] }) ⟨h.most, rfl, rfl, fun hx => by simp at hx, fun hx => by simp at hx, fun _ => rfl, fun _ _ => rfl, .inr (.inl rfl), h.ok.n⟩ _
theorem Eqv.next1 {s : St} {r : RS} (h : Eqv s r) (hok : s.Ok) (h0 : s.stands ≠ 0) : Eqv (next1 s).1 (rnext1 r).1 ∧ (next1 s).2 = (rnext1 r).2 := by
  have hst := h.stands
  have hn := h.ok.n
  have hz : ∀ {s' : St} {r' : RS}, s'.most = r'.most → s'.stands = 0 → r'.mode = 0 → s'.held = r'.held → 0 ≤ r'.n → r'.n ≤ 4294967297 → Eqv s' r' := fun {s' r'} a b c d e f =>
    ⟨a, by rw [b, c], d, fun hx => by rw [b] at hx; simp at hx, fun hx => by rw [b] at hx; simp at hx, fun hx => by rw [b] at hx; simp at hx, fun hx => by rw [b] at hx; simp at hx, .inl c, e, f⟩
  rcases hok.stands with h' | h' | h' | h'
  · exact absurd h' h0
  · have hm : r.mode = 1 := by rw [← hst]; exact h'
    have he := h.ended h'
    cases hr : r.ended
    · rw [hr] at he
      have e1 : Intake.next1 s = (s, none) := by simp [Intake.next1, h', he]
      have e2 : rnext1 r = (r, none) := by simp [rnext1, hm, hr]
      rw [e1, e2]
      exact ⟨h, rfl⟩
    · rw [hr] at he
      have e1 : Intake.next1 s = ({ s with stands := 0 }, some (item 2 [] [])) := by simp [Intake.next1, h', he]
      have e2 : rnext1 r = ({ r with mode := 0 }, some (item 2 [] [])) := by simp [rnext1, hm, hr]
      rw [e1, e2]
      exact ⟨hz h.most rfl rfl h.held hn.1 hn.2, rfl⟩
  · have hm : r.mode = 2 := by rw [← hst]; exact h'
    have hs := h.size h'
    by_cases hl : (r.held.length : Int) < r.n + 2
    · have e1 : Intake.next1 s = (s, none) := by
        unfold Intake.next1
        rw [if_neg (by rw [h']; decide), if_pos h', if_pos (by rw [h.held, hs]; exact hl)]
      have e2 : rnext1 r = (r, none) := by
        unfold rnext1
        rw [if_neg (by rw [hm]; decide), if_pos hm, if_neg (by omega)]
      rw [e1, e2]
      exact ⟨h, rfl⟩
    · have e1 : Intake.next1 s = ({ s with stands := 0, held := r.held.drop (r.n.toNat + 2) }, some (if r.held[r.n.toNat]? = some 13 ∧ r.held[r.n.toNat + 1]? = some 10 then item 3 [] (r.held.take r.n.toNat) else item 5 [] [])) := by
        unfold Intake.next1
        rw [if_neg (by rw [h']; decide), if_pos h', if_neg (by rw [h.held, hs]; exact hl), h.held, hs]
      have e2 : rnext1 r = ({ r with mode := 0, held := r.held.drop (r.n.toNat + 2) }, some (if r.held[r.n.toNat]? = some 13 ∧ r.held[r.n.toNat + 1]? = some 10 then item 3 [] (r.held.take r.n.toNat) else item 5 [] [])) := by
        unfold rnext1
        rw [if_neg (by rw [hm]; decide), if_pos hm, if_pos (by omega)]
      rw [e1, e2]
      exact ⟨hz h.most rfl rfl rfl hn.1 hn.2, rfl⟩
  · have hm : r.mode = 3 := by rw [← hst]; exact h'
    have hs := h.left h'
    by_cases hl : r.n > 0
    · have e1 : Intake.next1 s = (s, none) := by
        unfold Intake.next1
        rw [if_neg (by rw [h']; decide), if_neg (by rw [h']; decide), if_pos (by rw [hs]; exact hl)]
      have e2 : rnext1 r = (r, none) := by
        unfold rnext1
        rw [if_neg (by rw [hm]; decide), if_neg (by rw [hm]; decide), if_neg (by omega)]
      rw [e1, e2]
      exact ⟨h, rfl⟩
    · have e1 : Intake.next1 s = ({ s with stands := 0 }, some (item 4 [] [])) := by
        unfold Intake.next1
        rw [if_neg (by rw [h']; decide), if_neg (by rw [h']; decide), if_neg (by rw [hs]; exact hl)]
      have e2 : rnext1 r = ({ r with mode := 0 }, some (item 4 [] [])) := by
        unfold rnext1
        rw [if_neg (by rw [hm]; decide), if_neg (by rw [hm]; decide), if_pos (by omega)]
      rw [e1, e2]
      exact ⟨hz h.most rfl rfl h.held hn.1 hn.2, rfl⟩
theorem Eqv.next {s : St} {r : RS} (h : Eqv s r) (hok : s.Ok) : Eqv (next s).1 (rnext r).1 ∧ (next s).2 = (rnext r).2 := by
  have hst := h.stands
  unfold Intake.next rnext
  by_cases h0 : s.stands = 0
  · rw [if_pos h0, if_pos (show r.mode = 0 from hst ▸ h0), ← h.held]
    cases hf : find (s.held.take 224) with
    | some k =>
      exact ⟨⟨h.most, hst, rfl, h.size, h.left, h.ended, h.half, h.ok.mode, h.ok.n⟩, rfl⟩
    | none =>
      simp only []
      by_cases hl : s.held.length < 224
      · rw [if_pos hl, if_pos hl]
        exact ⟨h, rfl⟩
      · rw [if_neg hl, if_neg hl]
        exact h.long.next1 hok.long (by rw [long_stands1]; decide)
  · rw [if_neg h0, if_neg (show ¬ r.mode = 0 from hst ▸ h0)]
    exact h.next1 hok h0
theorem Eqv.body {s : St} {r : RS} (h : Eqv s r) (n : Int) : Eqv (body s n).1 (rbody r n).1 ∧ (body s n).2 = (rbody r n).2 := by
  have hst := h.stands
  unfold Intake.body rbody
  by_cases h1 : n < 0 ∨ n > 4294967295 ∨ s.stands ≠ 0
  · rw [if_pos h1, if_pos (show n < 0 ∨ n > 4294967295 ∨ r.mode ≠ 0 from hst ▸ h1)]
    exact ⟨h, rfl⟩
  · have hmo := h.most
    obtain ⟨most, stands, held, size, left, half, ended⟩ := s
    simp only [] at hmo
    subst hmo
    rw [if_neg h1, if_neg (show ¬ (n < 0 ∨ n > 4294967295 ∨ r.mode ≠ 0) from hst ▸ h1)]
    by_cases h2 : n ≤ r.most
    · rw [if_pos h2, if_pos h2]
      exact ⟨⟨rfl, rfl, h.held, fun _ => rfl, fun hx => by simp at hx, fun hx => by simp at hx, fun hx => by simp at hx, .inr (.inr (.inl rfl)), by simp only []; omega⟩, rfl⟩
    · rw [if_neg h2, if_neg h2]
      have hr := rfeed_big (r := { r with mode := 3, n := n + 2, held := [] }) rfl (by simp only []; omega) r.held
      have hh := h.held
      simp only [] at hh
      rw [hr, ← hh]
      refine ⟨⟨rfl, rfl, by simp only [List.nil_append], fun hx => by simp at hx, fun _ => rfl, fun hx => by simp at hx, fun hx => by simp at hx, .inr (.inr (.inr rfl)), by simp only []; omega⟩, rfl⟩
theorem Eqv.new (m : Int) : Eqv (new m) (rnew m) := ⟨rfl, rfl, rfl, fun hx => by simp [Intake.new] at hx, fun hx => by simp [Intake.new] at hx, fun hx => by simp [Intake.new] at hx, fun hx => by simp [Intake.new] at hx, .inl rfl, by simp [rnew]⟩
theorem rone_held (r : RS) (c : UInt8) : (rone r c).held.length ≤ r.held.length + 1 := by
  unfold rone
  split
  · simp
  · split
    · simp
    · simp
theorem rfeed_held (r : RS) (b : List UInt8) : (rfeed r b).held.length ≤ r.held.length + b.length := by
  induction b generalizing r with
  | nil => simp [rfeed]
  | cons c b ih =>
    have h1 := rone_held r c
    have h2 := ih (rone r c)
    show (rfeed (rone r c) b).held.length ≤ _
    simp only [List.length_cons]
    omega
end Go.Intake
