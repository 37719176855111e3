/-
  IntakeParts: what is said of a part; how it is fed.
-/
import Derived.Test.YtoeaaomgilgncaaWalks9
import Derived.Test.YtoeaaomgilgncaaConv
namespace Go.Proofs.Ytoeaaomgilgncaa
open Go.RowKit Go.Mem Go.Intake
set_option linter.unusedVariables false

def endOf (b : Bool) : List UInt8 := if b then [10, 13] else [13, 10]
def saidL (text : List UInt8) (body broken : Bool) (data : List UInt8) : List UInt8 := if body then cut text ++ [13, 10] ++ data ++ endOf broken else cut text ++ [13, 10]
def SaidPost (w : World) (l : List UInt8) (v : Value) (w' : World) : Prop := ∃ A n cap, v = .slice A n cap ∧ OwnB w' 5 A n cap l ∧ Mod (fun _ => False) w w' ∧ ∀ k, InB A k → w.heap.size ≤ k
theorem cut_len (l : List UInt8) : (cut l).length ≤ l.length := by
  unfold cut
  split
  · simp; omega
  · exact Nat.le_refl _

/-- Between the appends: what was laid so far, the part's own cells, all that is old. -/
structure SP (w w2 : World) (xs : List Value) (A : Option Addr) (n cap : Nat) (l : List UInt8) : Prop where
  own : OwnB w2 5 A n cap l
  mod : Mod (fun _ => False) w w2
  blk : Blk w2 w.heap.size xs 59
  new : ∀ k, InB A k → w.heap.size < k
theorem SP.alloc {w w2 : World} {xs : List Value} {A : Option Addr} {n cap : Nat} {l : List UInt8} (h : SP w w2 xs A n cap l) (o : Obj) : SP w (w2.alloc o) xs A n cap l :=
  ⟨h.own.alloc o, h.mod.alloc o, h.blk.alloc o, h.new⟩
theorem SP.app {w w2 w3 : World} {xs : List Value} {A A' : Option Addr} {n n' cap cap' : Nat} {l l' : List UInt8} (h : SP w w2 xs A n cap l) (ho : Own w3 5 1 A' n' cap' (bc l ++ bc l')) (hm : Mod (InB A) w2 w3)
    (hin : ∀ k, InB A' k → InB A k ∨ w2.heap.size ≤ k) : SP w w3 xs A' n' cap' (l ++ l') :=
  ⟨by rw [OwnB, bc_append]; exact ho, h.mod.trans' hm fun i hi hk => absurd (h.new i hk) (by omega), h.blk.mod hm fun hk => absurd (h.new _ hk) (Nat.lt_irrefl _), fun k hk => by
    rcases hin k hk with hk | hk
    · exact h.new k hk
    · have := h.blk.lt
      omega⟩
theorem SP.post {w w2 : World} {xs : List Value} {A : Option Addr} {n cap : Nat} {l l' : List UInt8} (h : SP w w2 xs A n cap l) (hl : l' = l) : Gives (SaidPost w l') (.returned (.slice A n cap)) w2 := by
  subst hl
  exact Gives.mk ⟨A, n, cap, rfl, h.own, h.mod, fun k hk => Nat.le_of_lt (h.new k hk)⟩

set_option maxRecDepth 100000 in
set_option maxHeartbeats 1000000 in
theorem said_calls (w : World) (tx : ByteArray) (body broken : Bool) (Ad : Option Addr) (nd cd : Nat) (data : List UInt8) (hr : RdB w Ad nd cd data) (hs : tx.size + nd ≤ 4000000000) :
    Calls Try.prog 24 #[.agg #[.string tx, .bool body, .bool broken, .slice Ad nd cd]] w (Gives (SaidPost w (saidL tx.data.toList body broken data))) := by
  have hz : tx.data.toList.length = tx.size := by rw [Array.length_toList]; rfl
  have hcl := cut_len tx.data.toList
  have hnd := hr.blen
  generalize hc : cut tx.data.toList = line at hcl
  have hbx := Blk.new w [.string tx, .bool body, .bool broken, .slice Ad nd cd] 59
  have hmx := (Mod.refl (fun _ => False) w).alloc (.cells #[.string tx, .bool body, .bool broken, .slice Ad nd cd] 59)
  go_enter Try.func24, Try.ntmps24
  go_wp2_with fail
  refine at_world fun W hW => ?_
  have hWe : W = w.alloc (.cells #[.string tx, .bool body, .bool broken, .slice Ad nd cd] 59) := hW
  have hb0 : Blk W w.heap.size [.string tx, .bool body, .bool broken, .slice Ad nd cd] 59 := by rw [hWe]; exact hbx
  rw [← hWe] at hmx
  clear hbx hWe hW
  have hcut := cut_calls W tx (by omega)
  rw [hc] at hcut
  with_reducible refine hcut.mono ?_
  rintro e w' ⟨rfl, rfl⟩
  clear hcut
  obtain ⟨cap1, W1, hconv, ho1, hm1, hlt1⟩ := run_bytesOf (P := Try.prog) (src := 9) (dst := 30) (e := 5) W ⟨line.toArray⟩ line rfl Try.underlying9 Try.underlying30 Try.underlying5 (by unfold maxLen; omega)
  have hsz1 : (ByteArray.mk line.toArray).size = line.length := by simp [ByteArray.size]
  rw [hsz1] at hconv
  have hoX := Own.row W1 5 1 2 (bc [13, 10]) rfl (by decide)
  have hp0 : SP w W1 [.string tx, .bool body, .bool broken, .slice Ad nd cd] (some ⟨W.heap.size, 0, none⟩) line.length cap1 line :=
    ⟨ho1, hmx.trans' hm1 fun _ _ h => h, hb0.mod hm1 id, fun k hk => by
      have := hb0.lt
      simp at hk
      omega⟩
  have hp1 := hp0.alloc (.cells (bc [13, 10]).toArray 5)
  have H := Lib.hid (And.intro hr (And.intro hnd (And.intro hoX hp1)))
  clear hr hnd ho1 hm1 hoX hmx hb0 hp0 hp1
  go_wp2_with (at_builtin; refine wpList_append _ rfl (.tmp 7) (.tmp 8) 30 30 rfl Try.elt30 _ line.length _ (bc line) rfl H.out.2.2.2.own _ 2 (bc [13, 10]) rfl (Rd.src H.out.2.2.1.rd Try.underlying30 (bc_one _)) ?h63 ?hby ?_)
  case h63 => unfold maxLen; omega
  case hby => omega
  intro A2 cap2 w2 ho2 hm2 hin2 _
  have hp2 := H.out.2.2.2.app ho2 hm2 fun k hk => by simpa using hin2 k hk
  have H := Lib.hid (And.intro H.out.1 (And.intro H.out.2.1 hp2))
  clear ho2 hm2 hin2 hconv hlt1
  have x1 := hp2.blk.cell 1
  have x2 := hp2.blk.cell 2
  have x3 := hp2.blk.cell 3
  have hr2 := H.out.1.mod hp2.mod fun _ _ h => h
  simp only [List.getElem?_cons_zero, List.getElem?_cons_succ] at x1 x2 x3
  have HR := Lib.hid hr2
  clear hr2 hp2
  cases body
  · go_wp2_with fail
    go_ret
    exact H.out.2.2.post (by simp [saidL, hc])
  · have ho2 := H.out.2.2.own
    go_wp2_with (at_builtin; refine wpList_append _ rfl (.tmp 14) (.tmp 16) 30 30 rfl Try.elt30 _ (line.length + 2) _ (bc (line ++ [13, 10])) rfl ho2 _ nd (bc data) rfl (Rd.src HR.out Try.underlying30 (bc_one _)) ?h63 ?hby ?_)
    case h63 => unfold maxLen; omega
    case hby => omega
    intro A3 cap3 w3 ho3 hm3 hin3 _
    have hp3 := H.out.2.2.app ho3 hm3 hin3
    have y2 := hp3.blk.cell 2
    simp only [List.getElem?_cons_zero, List.getElem?_cons_succ] at y2
    have HX := Lib.hid hp3
    clear ho3 hm3 hin3 hp3 ho2 x1 x2 x3
    cases broken
    · have hoX := Own.row w3 5 1 2 (bc [13, 10]) rfl (by decide)
      have hoY := HX.out.own.alloc (.cells (bc [13, 10]).toArray 5)
      go_wp2_with (at_builtin; refine wpList_append _ rfl (.tmp 23) (.tmp 24) 30 30 rfl Try.elt30 _ (line.length + 2 + nd) _ (bc (line ++ [13, 10] ++ data)) rfl hoY _ 2 (bc [13, 10]) rfl (Rd.src hoX.rd Try.underlying30 (bc_one _)) ?h63 ?hby ?_)
      case h63 => unfold maxLen; omega
      case hby => omega
      intro A4 cap4 w4 ho4 hm4 hin4 _
      have ho4 : Own w4 5 1 A4 (line.length + 2 + nd + 2) cap4 (bc (line ++ [13, 10] ++ data) ++ bc [13, 10]) := by simpa using ho4
      have hp4 := (HX.out.alloc (.cells (bc [13, 10]).toArray 5)).app ho4 hm4 fun k hk => by simpa using hin4 k hk
      clear ho4 hm4 hin4 hoX hoY
      go_wp2_with fail
      go_ret
      exact hp4.post (by simp [saidL, hc, endOf])
    · have hoX := Own.row w3 5 1 2 (bc [10, 13]) rfl (by decide)
      have hoY := HX.out.own.alloc (.cells (bc [10, 13]).toArray 5)
      go_wp2_with (at_builtin; refine wpList_append _ rfl (.tmp 20) (.tmp 21) 30 30 rfl Try.elt30 _ (line.length + 2 + nd) _ (bc (line ++ [13, 10] ++ data)) rfl hoY _ 2 (bc [10, 13]) rfl (Rd.src hoX.rd Try.underlying30 (bc_one _)) ?h63 ?hby ?_)
      case h63 => unfold maxLen; omega
      case hby => omega
      intro A4 cap4 w4 ho4 hm4 hin4 _
      have ho4 : Own w4 5 1 A4 (line.length + 2 + nd + 2) cap4 (bc (line ++ [13, 10] ++ data) ++ bc [10, 13]) := by simpa using ho4
      have hp4 := (HX.out.alloc (.cells (bc [10, 13]).toArray 5)).app ho4 hm4 fun k hk => by simpa using hin4 k hk
      clear ho4 hm4 hin4 hoX hoY
      go_wp2_with fail
      go_ret
      exact hp4.post (by simp [saidL, hc, endOf])
