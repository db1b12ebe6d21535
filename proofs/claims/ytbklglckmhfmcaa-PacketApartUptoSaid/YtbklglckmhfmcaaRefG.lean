/- pinnaceref01.Same; pinnaceref03.Sum. -/
import Derived.Test.YtbklglckmhfmcaaRefF
import Derived.Laws.OwnMore
import Derived.Deep.CutBlock
import Derived.Deep.DeepCutAuto
set_option linter.unusedVariables false
set_option linter.unusedSimpArgs false
namespace Go.Proofs.Ytbklglckmhfmcaa
open Go.RowKit
set_option maxRecDepth 100000

theorem run_conv_bytes {Z : Nat → Prop} {w : World} {v : Value} {l : List Int} (h : RB Z w v l) : (convert 29 9 v).run Try.prog w = .ok (.string (strOfNums l)) w := by
  obtain ⟨A, cap, rfl, hca, hca'⟩ := h.form
  cases A with
  | none =>
    have hl0 : l = [] := by
      obtain ⟨A', cap', h1, h2, h3, h4, h5⟩ := h.sl
      simp only [Value.slice.injEq] at h1
      obtain ⟨rfl, _, rfl⟩ := h1
      rcases Nat.eq_zero_or_pos l.length with h0 | h0
      · exact List.eq_nil_of_length_eq_zero h0
      · obtain ⟨b, o, e, _⟩ := h5 h0; simp at e
    subst hl0
    exact run_convert_bytes_nil w 29 5 Try.underlying29 Try.underlying5 _ _ _ Try.underlying9
  | some ad =>
    have hl := run_loadCells_list (P := Try.prog) w ad (l.map (.int .u8 ·)) (bnews h.sl)
    rw [List.length_map] at hl
    rw [run_convert_bytes_string w _ _ 5 _ l.length cap Try.underlying29 Try.underlying5 Try.underlying9, run_bytesToString w _ l.length cap l hl, foldl_push_bytes]
    simp [strOfNums, ByteArray.empty, ByteArray.emptyWithCapacity]
    rfl
theorem strOfNums_eq {a b : List Int} (ha : ∀ x ∈ a, 0 ≤ x ∧ x ≤ 255) (hb : ∀ x ∈ b, 0 ≤ x ∧ x ≤ 255) : ((strOfNums a).toList == (strOfNums b).toList) = decide (a = b) := by
  rw [ByteArray.toList_eq, ByteArray.toList_eq, strOfNums_data, strOfNums_data]
  by_cases h : a = b
  · subst h; simp
  · rw [decide_eq_false h]
    apply beq_eq_false_iff_ne.2
    intro he
    apply h
    have hback : ∀ l : List Int, (∀ x ∈ l, 0 ≤ x ∧ x ≤ 255) → (l.map fun n => UInt8.ofNat n.toNat).map (fun u => (u.toNat : Int)) = l := by
      intro l hl
      rw [List.map_map]
      conv => rhs; rw [← List.map_id l]
      apply List.map_congr_left
      intro x hx
      have := hl x hx
      simp only [Function.comp, id]
      rw [UInt8.toNat_ofNat']
      omega
    rw [← hback a ha, ← hback b hb, he]
set_option maxHeartbeats 2000000 in
theorem rsameB_any (Z1 Z2 : Nat → Prop) (v1 v2 : Value) (a b : List Int) (w : World) (h1 : RB Z1 w v1 a) (h2 : RB Z2 w v2 b) :
    Calls Try.prog 10 #[v1, v2] w fun e w' => e = .returned (.bool (decide (a = b))) ∧ w' = w := by
  have c1 := run_conv_bytes h1
  have c2 := run_conv_bytes h2
  have hs := strOfNums_eq h1.wf h2.wf
  obtain ⟨A1, cap1, rfl, hca1, hca1'⟩ := h1.form
  obtain ⟨A2, cap2, rfl, hca2, hca2'⟩ := h2.form
  have HS := Lib.hid hs
  clear h1 h2 hs
  go_enter Try.func10, Try.ntmps10
  go_wp2_with fail
  go_ret
  rw [← HS.out]
  exact ⟨rfl, rfl⟩

/-! ### The division -/
def byL : List Nat := [0, 1, 2, 4, 5, 7, 8, 10, 11, 12, 16, 22, 23, 26]
def flipAt (l : List Bool) (j : Nat) : List Bool := l.set j (!(l.getD j false))
def flipsAt (i : Nat) (l : List Bool) (ks : List Nat) : List Bool := ks.foldl (fun l k => flipAt l (i + 32 - k)) l
def divStep (l : List Bool) (i : Nat) : List Bool := if l.getD i false then flipsAt i l byL else l
def divL (l : List Bool) (n : Nat) : List Bool := (List.range n).foldl divStep l
def startL (p : List Int) : List Bool := (((bitsL p ++ List.replicate 32 false).take 32).map (!·)) ++ (bitsL p ++ List.replicate 32 false).drop 32
def rsum (p : List Int) : Int := num (((divL (startL p) (8 * p.length)).drop (8 * p.length)).map (!·))
theorem flipAt_length (l : List Bool) (j : Nat) : (flipAt l j).length = l.length := by simp [flipAt]
theorem flipsAt_length (i : Nat) (l : List Bool) (ks : List Nat) : (flipsAt i l ks).length = l.length := by
  induction ks generalizing l with
  | nil => rfl
  | cons k r ih => rw [flipsAt, List.foldl_cons, ← flipsAt, ih, flipAt_length]
theorem divStep_length (l : List Bool) (i : Nat) : (divStep l i).length = l.length := by
  unfold divStep; split
  · exact flipsAt_length _ _ _
  · rfl
theorem divL_length (l : List Bool) (n : Nat) : (divL l n).length = l.length := by
  induction n with
  | zero => rfl
  | succ n ih => rw [divL, List.range_succ, List.foldl_append, ← divL]; simp [divStep_length, ih]
theorem divL_succ (l : List Bool) (n : Nat) : divL l (n + 1) = divStep (divL l n) n := by
  rw [divL, List.range_succ, List.foldl_append]; rfl
theorem startL_length (p : List Int) : (startL p).length = 8 * p.length + 32 := by
  simp [startL, bitsL_length]; omega

/-- A row of bits of the call's own, in block g. -/
def Row (w : World) (B g n cap : Nat) (L : List Bool) : Prop := Mine w B 4 1 (.slice (some ⟨g, 0, none⟩) n cap) n (L.map .bool)
theorem Row.at {w : World} {B g n cap : Nat} {L : List Bool} (h : Row w B g n cap L) {j : Nat} {b : Bool} (hj : L[j]? = some b) : w.cell? ⟨g, j, none⟩ = some (.bool b) ∧ w.frozen? ⟨g, j, none⟩ = false ∧ j < n := by
  have hl := h.own.1
  have hlt := (List.getElem?_eq_some_iff.1 hj).1
  simp only [List.length_map, Nat.mul_one] at hl
  refine ⟨?_, h.own.frozenAt j, by omega⟩
  rw [h.own.cellAt j (by omega), List.getElem?_map, hj]; rfl
theorem Row.len {w : World} {B g n cap : Nat} {L : List Bool} (h : Row w B g n cap L) : L.length = n := by
  have hl := h.own.1
  simpa using hl
theorem Row.put {w : World} {B g n cap : Nat} {L : List Bool} (h : Row w B g n cap L) (j : Nat) (b : Bool) : Row (w.setCell ⟨g, j, none⟩ (.bool b)) B g n cap (L.set j b) := by
  have := (Mine.put h j (.bool b)).1
  unfold Row
  rw [List.map_set]; exact this
theorem Row.below {w w' : World} {B g n cap : Nat} {L : List Bool} (h : Row w B g n cap L) (hb : Below w.heap.size w w') : Row w' B g n cap L := Mine.below h hb
theorem Row.from {w : World} {B g n cap : Nat} {L : List Bool} (h : Row w B g n cap L) : B ≤ g ∧ g < w.heap.size ∧ n ≤ cap := by
  refine ⟨h.from_ g rfl, (h.own.lt g rfl).2, ?_⟩
  obtain ⟨A, cap', e, _, h3, _⟩ := h.sl
  simp only [Value.slice.injEq] at e
  omega
end Go.Proofs.Ytbklglckmhfmcaa
