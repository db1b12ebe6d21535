/- What comes in, read: components, entities, heads. -/
import Derived.Test.YtbklglckmhfmcaaSeal
import Derived.Test.YtbklglckmhfmcaaRefD
import Derived.Test.YtbklglckmhfmcaaRows
import Derived.Deep.Slices
import Derived.OpenShut
import Derived.ChangeArms
set_option linter.unusedVariables false
set_option linter.unusedSimpArgs false
namespace Go.Proofs.Ytbklglckmhfmcaa
open Go.RowKit Go.Deep Go.ChangeShapes Go.WideShapes
set_option maxRecDepth 100000

section
variable {H : Type} {enc : TypeId × Value → H} {w : World} {base : Nat} {spare : Nat → Bool} {held : Bool}

theorem bulk_one (d : DataW H) : 1 ≤ Rows.uptoBulk d := by
  cases d with
  | lit l => cases l <;> simp [Rows.uptoBulk]
  | nil => simp [Rows.uptoBulk]
  | ptr d => simp [Rows.uptoBulk]
  | slice elems spare => simp [Rows.uptoBulk]
  | agg parts => simp [Rows.uptoBulk]
  | iface t d => simp [Rows.uptoBulk]
  | map entries => simp [Rows.uptoBulk]
  | held h => simp [Rows.uptoBulk]
theorem bulk_length (l : List (DataW H)) : l.length ≤ Rows.uptoBulkAll l := by
  induction l with
  | nil => simp [Rows.uptoBulkAll]
  | cons x r ih => have := bulk_one x; simp only [Rows.uptoBulkAll, List.length_cons]; omega
theorem bulk_range (n : Nat) (D : Nat → DataW H) (f : Nat → Nat) (h : ∀ i, i < n → f i ≤ Rows.uptoBulk (D i)) : ((List.range n).map f).foldl (· + ·) 0 ≤ Rows.uptoBulkAll ((List.range n).map D) := by
  have ha : ∀ (l r : List (DataW H)), Rows.uptoBulkAll (l ++ r) = Rows.uptoBulkAll l + Rows.uptoBulkAll r := by
    intro l r
    induction l with
    | nil => simp [Rows.uptoBulkAll]
    | cons x l ih => simp only [List.cons_append, Rows.uptoBulkAll, ih]; omega
  induction n with
  | zero => simp [Rows.uptoBulkAll]
  | succ n ih =>
    have h1 := ih fun i hi => h i (by omega)
    have h2 := h n (by omega)
    rw [List.range_succ, List.map_append, List.map_append, List.foldl_append, ha]
    simp only [List.map_cons, List.map_nil, List.foldl_cons, List.foldl_nil, Rows.uptoBulkAll]
    omega

theorem lit_int {k : IntKind} {n : Int} (h : (Lit.int k n).wf = true) : k.min ≤ n ∧ n ≤ k.max := by simpa [Lit.wf] using h
theorem list4 {α : Type} {l : List α} (h : l.length = 4) : ∃ a b c d, l = [a, b, c, d] := by
  match l, h with
  | [a, b, c, d], _ => exact ⟨a, b, c, d, rfl⟩

/-- A component. -/
theorem read_comp {fuel : Nat} {cs : List Value} {x : DataW H × List MemPlace} (h : DataW.trod enc Try.prog w base spare held fuel 48 cs = some x) : ∃ c : Comp, c.wf ∧ cs = c.cells := by
  obtain ⟨xs, n, rfl, rfl, hl, hxl, hf⟩ := DataW.trod_struct Try.underlying48 h
  have hl4 : cs.length = 4 := hl.trans (by kernel_rfl)
  obtain ⟨a, b, c, d, rfl⟩ := list4 hl4
  have c5 : Try.prog.cellsOf 5 = 1 := by kernel_rfl
  have c46 : Try.prog.cellsOf 46 = 3 := by kernel_rfl
  have c21 : Try.prog.cellsOf 21 = 1 := by kernel_rfl
  have hx2 : xs.length = 2 := hxl
  obtain ⟨x0, x1, rfl⟩ : ∃ x0 x1, xs = [x0, x1] := by
    match xs, hx2 with
    | [p, q], _ => exact ⟨p, q, rfl⟩
  have f0 : DataW.trod enc Try.prog w base spare held n 5 (([a, b, c, d].drop 0).take (Try.prog.cellsOf 5)) = some x0 := hf 0 _ rfl
  have f1 : DataW.trod enc Try.prog w base spare held n 46 (([a, b, c, d].drop 1).take (Try.prog.cellsOf 46)) = some x1 := hf 1 _ rfl
  simp only [c5, c46, List.drop_zero, List.take_succ_cons, List.take_zero, List.getElem?_cons_zero, List.getElem?_cons_succ, List.drop_succ_cons] at f0 f1
  obtain ⟨k, hk, _, hkw⟩ := DataW.trod_int Try.underlying5 f0
  obtain ⟨ys, m, hm, hy, hyl, hyn, hg⟩ := DataW.trod_array Try.underlying46 f1
  obtain ⟨y0, y1, y2, rfl⟩ : ∃ y0 y1 y2, ys = [y0, y1, y2] := by
    match ys, hyn with
    | [p, q, r], _ => exact ⟨p, q, r, rfl⟩
  have g0 := hg 0 (by omega)
  have g1 := hg 1 (by omega)
  have g2 := hg 2 (by omega)
  simp only [c21, Nat.zero_mul, Nat.one_mul, Nat.mul_one, List.drop_zero, List.take_succ_cons, List.take_zero, List.getElem?_cons_zero, List.getElem?_cons_succ, List.drop_succ_cons] at g0 g1 g2
  obtain ⟨i0, h0, _, w0⟩ := DataW.trod_int Try.underlying21 g0
  obtain ⟨i1, h1, _, w1⟩ := DataW.trod_int Try.underlying21 g1
  obtain ⟨i2, h2, _, w2⟩ := DataW.trod_int Try.underlying21 g2
  simp only [List.cons.injEq, and_true] at hk h0 h1 h2
  subst hk h0 h1 h2
  have bk := lit_int hkw
  have b0 := bounds_i32 w0
  have b1 := bounds_i32 w1
  have b2 := bounds_i32 w2
  refine ⟨⟨k, i0, i1, i2⟩, ⟨bk.1, bk.2, fun i => ?_⟩, rfl⟩
  match i with
  | 0 => exact b0
  | 1 => exact b1
  | _ + 2 => exact b2

/-- A slice of components. -/
theorem read_comps {fuel : Nat} {v : Value} {x : DataW H × List MemPlace} (h : DataW.trod enc Try.prog w base spare held fuel 41 [v] = some x) : ∃ l : List Comp, RC (fun _ => False) w v l ∧ l.length + 1 ≤ Rows.uptoBulk x.1 := by
  have c48 : Try.prog.cellsOf 48 = 4 := by kernel_rfl
  rcases open_slice Try.underlying41 h with ⟨h1, h2⟩ | ⟨a, len, cap, m, n, D, Pl, h1, hb, hl, hm, hmm, h2, hx⟩
  · simp only [List.cons.injEq, and_true] at h1
    subst h1; subst h2
    exact ⟨[], ⟨Sl.nil _ _ _, by simp⟩, bulk_one _⟩
  · simp only [List.cons.injEq, and_true] at h1
    subst h1; subst h2
    rw [c48] at hx
    have hlm : len ≤ m := by rw [hmm]; split <;> omega
    have each : ∀ i, i < len → ∃ c : Comp, c.wf ∧ ∀ j, j < 4 → w.cell? (a.add (i * 4 + j)) = c.cells[j]? := by
      intro i hi
      obtain ⟨cs', g1, g2⟩ := hx i (by omega)
      obtain ⟨c, hc, rfl⟩ := read_comp g2
      obtain ⟨_, _, g3⟩ := World.cells?_some g1
      exact ⟨c, hc, fun j hj => by rw [← add_add]; exact g3 j hj⟩
    have : Inhabited Comp := ⟨zeroC⟩
    obtain ⟨f, hf⟩ := choose_lt each
    refine ⟨(List.range len).map f, ⟨⟨some a, cap, by simp, ?_, by simpa using hl, by unfold maxLen at hm; omega, fun hn => ?_⟩, fun c hc => ?_⟩, ?_⟩
    · rw [flat_length Comp.cells 4 (fun _ => rfl)]
    · have h0 := (hf 0 (by simpa using hn)).2 0 (by omega)
      have h00 : w.cell? a = some (.int .u8 (f 0).k) := by
        have e0 : (f 0).cells[0]? = some (.int .u8 (f 0).k) := rfl
        rw [e0] at h0; simpa [Addr.add] using h0
      obtain ⟨b, o, sp⟩ := a
      have hsp : sp = none := World.cell?_spot h00
      subst hsp
      refine ⟨b, o, rfl, id, lt_of_cell h00, fun i v hv => ?_⟩
      have hil : i < len * 4 := by
        have := (List.getElem?_eq_some_iff.1 hv).1
        rw [flat_length Comp.cells 4 (fun _ => rfl)] at this
        simpa using this
      have hq : i / 4 < len := by omega
      have hg := flat_get Comp.cells 4 (fun _ => rfl) ((List.range len).map f) (i / 4) (i % 4) (f (i / 4)) (by simp [hq]) (by omega)
      rw [show i / 4 * 4 + i % 4 = i by omega] at hg
      have h1 := (hf (i / 4) hq).2 (i % 4) (by omega)
      rw [show i / 4 * 4 + i % 4 = i by omega, add_plain] at h1
      rw [h1, ← hg]; exact hv
    · obtain ⟨i, hi, rfl⟩ := List.mem_map.1 hc
      exact (hf i (List.mem_range.1 hi)).1
    · have := bulk_length ((List.range len).map D)
      simp only [Rows.uptoBulk, List.length_map, List.length_range] at this ⊢
      omega

/-- A slice of entities. -/
theorem read_ents {fuel : Nat} {v : Value} {x : DataW H × List MemPlace} (h : DataW.trod enc Try.prog w base spare held fuel 22 [v] = some x) : ∃ l : List Ent, RE (fun _ => False) w v l ∧ fewN l ≤ Rows.uptoBulk x.1 := by
  have c43 : Try.prog.cellsOf 43 = 2 := by kernel_rfl
  have c40 : Try.prog.cellsOf 40 = 1 := by kernel_rfl
  have c41 : Try.prog.cellsOf 41 = 1 := by kernel_rfl
  rcases open_slice Try.underlying22 h with ⟨h1, h2⟩ | ⟨a, len, cap, m, n, D, Pl, h1, hb, hl, hm, hmm, h2, hx⟩
  · simp only [List.cons.injEq, and_true] at h1
    subst h1; subst h2
    exact ⟨[], ⟨⟨[], rfl, Sl.nil _ _ _, by simp⟩, by simp⟩, Nat.zero_le _⟩
  · simp only [List.cons.injEq, and_true] at h1
    subst h1; subst h2
    rw [c43] at hx
    have hlm : len ≤ m := by rw [hmm]; split <;> omega
    have each : ∀ i, i < len → ∃ q : Ent × Value, q.1.wf ∧ w.cell? (a.add (i * 2)) = some (.int .u32 q.1.id) ∧ w.cell? (a.add (i * 2 + 1)) = some q.2 ∧ RC (fun _ => False) w q.2 q.1.comps ∧ q.1.comps.length + 1 ≤ Rows.uptoBulk (D i) := by
      intro i hi
      obtain ⟨cs', g1, g2⟩ := hx i (by omega)
      obtain ⟨_, hcl, g3⟩ := World.cells?_some g1
      obtain ⟨xs, k, _, hxe, _, hxl, hf⟩ := DataW.trod_struct Try.underlying43 g2
      obtain ⟨u0, u1, rfl⟩ : ∃ u0 u1, cs' = [u0, u1] := by
        match cs', hcl with
        | [p, q], _ => exact ⟨p, q, rfl⟩
      have hx2 : xs.length = 2 := hxl
      obtain ⟨x0, x1, rfl⟩ : ∃ x0 x1, xs = [x0, x1] := by
        match xs, hx2 with
        | [p, q], _ => exact ⟨p, q, rfl⟩
      have f0 : DataW.trod enc Try.prog w base spare held k 40 (([u0, u1].drop 0).take (Try.prog.cellsOf 40)) = some x0 := hf 0 _ rfl
      have f1 : DataW.trod enc Try.prog w base spare held k 41 (([u0, u1].drop 1).take (Try.prog.cellsOf 41)) = some x1 := hf 1 _ rfl
      simp only [c40, c41, List.drop_zero, List.take_succ_cons, List.take_zero, List.getElem?_cons_zero, List.getElem?_cons_succ, List.drop_succ_cons] at f0 f1
      obtain ⟨id, hid, _, hw⟩ := DataW.trod_int Try.underlying40 f0
      obtain ⟨l, hl1, hl2⟩ := read_comps f1
      simp only [List.cons.injEq, and_true] at hid
      subst hid
      have bi := lit_int hw
      refine ⟨(⟨id, l⟩, u1), ⟨bi.1, bi.2⟩, ?_, ?_, hl1, ?_⟩
      · have := g3 0 (by omega); rw [add_add] at this; simpa using this
      · have := g3 1 (by omega); rw [add_add] at this; simpa using this
      · simp only [Prod.mk.injEq] at hxe
        rw [hxe.1]
        simp only [List.map_cons, List.map_nil, Rows.uptoBulk, Rows.uptoBulkAll]
        have := bulk_one x0.1
        omega
    have : Inhabited (Ent × Value) := ⟨(⟨0, []⟩, .bool true)⟩
    obtain ⟨f, hf⟩ := choose_lt each
    refine ⟨(List.range len).map fun i => (f i).1, ⟨⟨(List.range len).map fun i => (f i).2, by simp, ⟨some a, cap, by simp, ?_, by simpa using hl, by unfold maxLen at hm; omega, fun hn => ?_⟩, fun i e hv he hhv => ?_⟩, fun c hc => ?_⟩, ?_⟩
    · rw [ecells, flat_length (fun p : Int × Value => [.int .u32 p.1, p.2]) 2 (fun _ => rfl)]; simp
    · have h00 := (hf 0 (by simpa using hn)).2.1
      have h01 : w.cell? a = some (.int .u32 (f 0).1.id) := by simpa [Addr.add] using h00
      obtain ⟨b, o, sp⟩ := a
      have hsp : sp = none := World.cell?_spot h01
      subst hsp
      refine ⟨b, o, rfl, id, lt_of_cell h01, fun i v hv => ?_⟩
      have hil : i < len * 2 := by
        have := (List.getElem?_eq_some_iff.1 hv).1
        rw [ecells, flat_length (fun p : Int × Value => [.int .u32 p.1, p.2]) 2 (fun _ => rfl)] at this
        simpa using this
      have hq : i / 2 < len := by omega
      have hz : (((List.range len).map fun i => (f i).1).map Ent.id).zip ((List.range len).map fun i => (f i).2) = (List.range len).map fun i => ((f i).1.id, (f i).2) := by
        rw [List.map_map, List.zip_map']; rfl
      have hg := flat_get (fun p : Int × Value => [.int .u32 p.1, p.2]) 2 (fun _ => rfl) ((List.range len).map fun i => ((f i).1.id, (f i).2)) (i / 2) (i % 2) ((f (i / 2)).1.id, (f (i / 2)).2) (by simp [hq]) (by omega)
      rw [show i / 2 * 2 + i % 2 = i by omega] at hg
      rw [hz, ecells, hg] at hv
      obtain ⟨_, e1, e2, _⟩ := hf (i / 2) hq
      rw [add_plain] at e1 e2
      rcases (show i % 2 = 0 ∨ i % 2 = 1 by omega) with h | h
      · rw [h] at hv
        simp only [List.getElem?_cons_zero, Option.some.injEq] at hv
        rw [← hv, ← e1, show o + i / 2 * 2 = o + i by omega]
      · rw [h] at hv
        simp only [List.getElem?_cons_succ, List.getElem?_cons_zero, Option.some.injEq] at hv
        rw [← hv, ← e2, show o + (i / 2 * 2 + 1) = o + i by omega]
    · simp only [List.getElem?_map, Option.map_eq_some_iff] at he hhv
      obtain ⟨i1, hi1, rfl⟩ := he
      obtain ⟨i2, hi2, rfl⟩ := hhv
      rw [hi1] at hi2
      simp only [Option.some.injEq] at hi2
      subst hi2
      have : i1 < len := by
        have := List.mem_of_getElem? hi1
        exact List.mem_range.1 this
      exact (hf i1 this).2.2.2.1
    · obtain ⟨i, hi, rfl⟩ := List.mem_map.1 hc
      exact (hf i (List.mem_range.1 hi)).1
    · have h1 := bulk_range len D (fun i => (f i).1.comps.length + 1) fun i hi => (hf i hi).2.2.2.2
      have h2 : ∀ (k : Nat), (((List.range k).map fun i => (f i).1).foldl (fun n e => n + e.comps.length) 0) + k = ((List.range k).map fun i => (f i).1.comps.length + 1).foldl (· + ·) 0 := by
        intro k
        induction k with
        | zero => rfl
        | succ k ih => rw [List.range_succ]; simp only [List.map_append, List.foldl_append, List.map_cons, List.map_nil, List.foldl_cons, List.foldl_nil]; omega
      have h3 := h2 len
      unfold fewN
      rw [foldl_len]
      simp only [Rows.uptoBulk, List.length_map, List.length_range]
      omega

/-- A head. -/
theorem read_head {fuel : Nat} {cs : List Value} {x : DataW H × List MemPlace} (h : DataW.trod enc Try.prog w base spare held fuel 28 cs = some x) : ∃ c : Head, c.wf ∧ cs = [.int .u8 c.kind, .int .u8 c.client, .int .u32 c.epoch, .int .u32 c.tick, .int .u32 c.base] := by
  obtain ⟨xs, n, rfl, rfl, hl, hxl, hf⟩ := DataW.trod_struct Try.underlying28 h
  have hl5 : cs.length = 5 := hl.trans (by kernel_rfl)
  have c5 : Try.prog.cellsOf 5 = 1 := by kernel_rfl
  have c23 : Try.prog.cellsOf 23 = 1 := by kernel_rfl
  obtain ⟨a, b, c, d, e, rfl⟩ : ∃ a b c d e, cs = [a, b, c, d, e] := by
    match cs, hl5 with
    | [a, b, c, d, e], _ => exact ⟨a, b, c, d, e, rfl⟩
  have hx5 : xs.length = 5 := hxl
  obtain ⟨x0, x1, x2, x3, x4, rfl⟩ : ∃ x0 x1 x2 x3 x4, xs = [x0, x1, x2, x3, x4] := by
    match xs, hx5 with
    | [a, b, c, d, e], _ => exact ⟨a, b, c, d, e, rfl⟩
  have f0 : DataW.trod enc Try.prog w base spare held n 5 (([a, b, c, d, e].drop 0).take (Try.prog.cellsOf 5)) = some x0 := hf 0 _ rfl
  have f1 : DataW.trod enc Try.prog w base spare held n 5 (([a, b, c, d, e].drop 1).take (Try.prog.cellsOf 5)) = some x1 := hf 1 _ rfl
  have f2 : DataW.trod enc Try.prog w base spare held n 23 (([a, b, c, d, e].drop 2).take (Try.prog.cellsOf 23)) = some x2 := hf 2 _ rfl
  have f3 : DataW.trod enc Try.prog w base spare held n 23 (([a, b, c, d, e].drop 3).take (Try.prog.cellsOf 23)) = some x3 := hf 3 _ rfl
  have f4 : DataW.trod enc Try.prog w base spare held n 23 (([a, b, c, d, e].drop 4).take (Try.prog.cellsOf 23)) = some x4 := hf 4 _ rfl
  simp only [c5, c23, List.drop_zero, List.take_succ_cons, List.take_zero, List.getElem?_cons_zero, List.getElem?_cons_succ, List.drop_succ_cons] at f0 f1 f2 f3 f4
  obtain ⟨i0, h0, _, w0⟩ := DataW.trod_int Try.underlying5 f0
  obtain ⟨i1, h1, _, w1⟩ := DataW.trod_int Try.underlying5 f1
  obtain ⟨i2, h2, _, w2⟩ := DataW.trod_int Try.underlying23 f2
  obtain ⟨i3, h3, _, w3⟩ := DataW.trod_int Try.underlying23 f3
  obtain ⟨i4, h4, _, w4⟩ := DataW.trod_int Try.underlying23 f4
  simp only [List.cons.injEq, and_true] at h0 h1 h2 h3 h4
  subst h0 h1 h2 h3 h4
  have b0 := lit_int w0
  have b1 := lit_int w1
  have b2 := lit_int w2
  have b3 := lit_int w3
  have b4 := lit_int w4
  exact ⟨⟨i0, i1, i2, i3, i4⟩, ⟨b0.1, b0.2, b1.1, b1.2, b2.1, b2.2, b3.1, b3.2, b4.1, b4.2⟩, rfl⟩
end
end Go.Proofs.Ytbklglckmhfmcaa
