/- diff.change, diff.nothing. -/
import Derived.Test.YtbklglckmhfmcaaChange
import Derived.Test.YtbklglckmhfmcaaOwnB
import Derived.Deep.DeepCutAuto
import Derived.Deep.LoopGhost
import Derived.Deep.CutBlock
set_option linter.unusedVariables false
set_option linter.unusedSimpArgs false
namespace Go.Proofs.Ytbklglckmhfmcaa
open Go.RowKit
set_option maxRecDepth 100000

/-- What becomes of an entity. -/
structure Change where
  id : Int
  lost : Int
  new : List Comp
  set : List Comp
def newOf (was l : List Comp) : List Comp := l.filter fun c => !(findC was c.k).isSome
def setOf (was l : List Comp) : List Comp := l.filter fun c => (findC was c.k).isSome && decide ((findC was c.k).getD zeroC ≠ c)
def lostOf (was now : List Comp) : Int := bits .andNot .u8 (maskN was : Int) (maskN now : Int)
def changeOf (was now : Ent) : Change := ⟨now.id, lostOf was.comps now.comps, newOf was.comps now.comps, setOf was.comps now.comps⟩

theorem eq_arr3 (d : Nat) (a b c a' b' c' : Int) (w : World) :
    (Op.equalIn (d + 2) 46 (.agg #[.int .i32 a, .int .i32 b, .int .i32 c]) (.agg #[.int .i32 a', .int .i32 b', .int .i32 c'])).run Try.prog w = .ok (a == a' && (b == b' && c == c')) w := by
  rw [Op.equalIn]
  have ha : ∀ w : World, (sizeOf 21).run Try.prog w = .ok 1 w := fun w => by kernel_rfl
  simp only [Sem.run_bind, run_underlying Try.underlying46, Result.andThen_ok, ha, Std.Legacy.Range.forIn_eq_forIn_range', Std.Legacy.Range.size]
  have hr : List.range' 0 ((3 - 0 + 1 - 1) / 1) = [0, 1, 2] := rfl
  have p0 : ∀ (a b c : Int) (w : World), (part 21 #[.int .i32 a, .int .i32 b, .int .i32 c] (0 * 1)).run Try.prog w = .ok (.int .i32 a) w := fun _ _ _ _ => by kernel_rfl
  have p1 : ∀ (a b c : Int) (w : World), (part 21 #[.int .i32 a, .int .i32 b, .int .i32 c] (1 * 1)).run Try.prog w = .ok (.int .i32 b) w := fun _ _ _ _ => by kernel_rfl
  have p2 : ∀ (a b c : Int) (w : World), (part 21 #[.int .i32 a, .int .i32 b, .int .i32 c] (2 * 1)).run Try.prog w = .ok (.int .i32 c) w := fun _ _ _ _ => by kernel_rfl
  have he : ∀ (a b : Int) (w : World), (Op.equalIn (d + 1) 21 (.int .i32 a) (.int .i32 b)).run Try.prog w = .ok (a == b) w := fun a b w => run_equalIn_int w d _ .i32 .i32 a b Try.underlying21
  rw [hr]
  cases h0 : (a == a') <;> cases h1 : (b == b') <;> cases h2 : (c == c') <;>
    simp only [List.forIn_cons, List.forIn_nil, Sem.run_bind, p0, p1, p2, he, h0, h1, h2, Result.andThen_ok, Bool.not_true, Bool.not_false, Bool.false_eq_true, if_true, if_false, Sem.run_pure, Bool.true_and, Bool.false_and]
@[go_sem high] theorem neq_comp (x y : Comp) (w : World) :
    (binOp .neq 48 (.agg #[.int .u8 x.k, .int .i32 x.f0, .int .i32 x.f1, .int .i32 x.f2]) (.agg #[.int .u8 y.k, .int .i32 y.f0, .int .i32 y.f1, .int .i32 y.f2])).run Try.prog w = .ok (.bool (decide (x ≠ y))) w := by
  have h := eq_arr3 9997 x.f0 x.f1 x.f2 y.f0 y.f1 y.f2
  have hxy : x = y ↔ x.k = y.k ∧ x.f0 = y.f0 ∧ x.f1 = y.f1 ∧ x.f2 = y.f2 := by cases x; cases y; simp
  have hd : decide (x ≠ y) = !(x.k == y.k && (x.f0 == y.f0 && (x.f1 == y.f1 && x.f2 == y.f2))) := by
    by_cases h : x = y
    · subst h; simp
    · rw [decide_eq_true h]
      have h2 := fun a => h (hxy.2 a)
      cases h0 : (x.k == y.k) <;> cases h1 : (x.f0 == y.f0) <;> cases h3 : (x.f1 == y.f1) <;> cases h4 : (x.f2 == y.f2) <;> simp_all
  rw [hd]
  clear hd hxy
  go_simp
  by_cases h0 : x.k = y.k <;> by_cases h1 : x.f0 = y.f0 <;> by_cases h2 : x.f1 = y.f1 <;> by_cases h3 : x.f2 = y.f2 <;> simp [h0, h1, h2, h3]

theorem new_none {was l : List Comp} {x : Comp} (h : findC was x.k = none) : newOf was (l ++ [x]) = newOf was l ++ [x] ∧ setOf was (l ++ [x]) = setOf was l := by
  simp [newOf, setOf, List.filter_append, List.filter_cons, h]
theorem new_same {was l : List Comp} {x : Comp} (h : findC was x.k = some x) : newOf was (l ++ [x]) = newOf was l ∧ setOf was (l ++ [x]) = setOf was l := by
  simp [newOf, setOf, List.filter_append, List.filter_cons, h]
theorem new_set {was l : List Comp} {x y : Comp} (h : findC was x.k = some y) (hy : y ≠ x) : newOf was (l ++ [x]) = newOf was l ∧ setOf was (l ++ [x]) = setOf was l ++ [x] := by
  simp [newOf, setOf, List.filter_append, List.filter_cons, h, hy]
theorem Grew.below {w w' : World} {v v' : Value} {B : Nat} (h : Grew w v w' v') (hv : ∀ k, v.ownBlock = some k → B ≤ k) (hB : B ≤ w.heap.size) : Below B w w' :=
  ⟨h.grow.os, h.grow.tape, h.grow.output, h.grow.size, fun k hk => h.block (by omega) fun e => by have := hv k e; omega⟩
theorem Mine.snoc {w : World} {B : Nat} {v : Value} {l : List Comp} {x : Comp} (h : Mine w B 48 4 v (l.length + 1) (l.flatMap Comp.cells ++ x.cells)) : Mine w B 48 4 v (l ++ [x]).length ((l ++ [x]).flatMap Comp.cells) := by
  simpa using h
theorem Mine.setBy {w : World} {B : Nat} {e e' : TypeId} {sz : Nat} {v : Value} {n : Nat} {xs : List Value} (h : Mine w B e sz v n xs) {D : Nat} {cs : Array Value} {f : Nat × Nat} (hb : w.heap[D]? = some (.cells cs e' f)) (hne : e ≠ e') (o : Nat) (u : Value) : Mine (w.setCell ⟨D, o, none⟩ u) B e sz v n xs :=
  h.keep fun k hk => Below.heap_setCell _ _ _ _ fun e => own_block_ne h.own hb hne (by subst e; exact hk)
theorem Mine.lt {w : World} {B : Nat} {e : TypeId} {sz : Nat} {v : Value} {n : Nat} {xs : List Value} (h : Mine w B e sz v n xs) : ∀ k, v.ownBlock = some k → k < w.heap.size := fun k hk => (h.own.lt k hk).2
theorem set40 {w : World} {D : Nat} {a b c d z : Value} {T : TypeId} {fz : Nat × Nat} (h : w.heap[D]? = some (.cells #[a, b, c, d] T fz)) : (w.setCell ⟨D, 0, none⟩ z).heap[D]? = some (.cells #[z, b, c, d] T fz) := by
  simp [World.setCell, Array.getElem?_modify, h]
theorem set41 {w : World} {D : Nat} {a b c d z : Value} {T : TypeId} {fz : Nat × Nat} (h : w.heap[D]? = some (.cells #[a, b, c, d] T fz)) : (w.setCell ⟨D, 1, none⟩ z).heap[D]? = some (.cells #[a, z, c, d] T fz) := by
  simp [World.setCell, Array.getElem?_modify, h]
theorem set42 {w : World} {D : Nat} {a b c d z : Value} {T : TypeId} {fz : Nat × Nat} (h : w.heap[D]? = some (.cells #[a, b, c, d] T fz)) : (w.setCell ⟨D, 2, none⟩ z).heap[D]? = some (.cells #[a, b, z, d] T fz) := by
  simp [World.setCell, Array.getElem?_modify, h]
theorem set43 {w : World} {D : Nat} {a b c d z : Value} {T : TypeId} {fz : Nat × Nat} (h : w.heap[D]? = some (.cells #[a, b, c, d] T fz)) : (w.setCell ⟨D, 3, none⟩ z).heap[D]? = some (.cells #[a, b, c, z] T fz) := by
  simp [World.setCell, Array.getElem?_modify, h]
theorem set4 {w : World} {D : Nat} {a b c d x y z u : Value} {T : TypeId} {fz : Nat × Nat} (h : w.heap[D]? = some (.cells #[a, b, c, d] T fz)) :
    ((((w.setCell ⟨D, 0, none⟩ x).setCell ⟨D, 1, none⟩ y).setCell ⟨D, 2, none⟩ z).setCell ⟨D, 3, none⟩ u).heap[D]? = some (.cells #[x, y, z, u] T fz) := by
  simp [World.setCell, Array.getElem?_modify, h]
theorem below4 {B : Nat} {w w' : World} {D : Nat} {x y z u : Value} (h : Below B w w') (hD : B ≤ D) :
    Below B w ((((w'.setCell ⟨D, 0, none⟩ x).setCell ⟨D, 1, none⟩ y).setCell ⟨D, 2, none⟩ z).setCell ⟨D, 3, none⟩ u) :=
  (((h.setCell (p := ⟨D, 0, none⟩) hD _).setCell (p := ⟨D, 1, none⟩) hD _).setCell (p := ⟨D, 2, none⟩) hD _).setCell (p := ⟨D, 3, none⟩) hD _

set_option maxHeartbeats 8000000 in
theorem change_any (Z1 Z2 : Nat → Prop) (was now : Ent) (v1 v2 : Value) (w : World) (hw : was.wf) (hn : now.wf) (h1 : RC Z1 w v1 was.comps) (h2 : RC Z2 w v2 now.comps) (hl : now.comps.length ≤ 8796093022000) :
    Calls Try.prog 42 #[.agg #[.int .u32 was.id, v1], .agg #[.int .u32 now.id, v2]] w
      fun e w' => ∃ vn vs, e = .returned (.agg #[.int .u32 now.id, .int .u8 (lostOf was.comps now.comps), vn, vs]) ∧ RC (fun k => k < w.heap.size) w' vn (newOf was.comps now.comps) ∧ RC (fun k => k < w.heap.size) w' vs (setOf was.comps now.comps) ∧ Below w.heap.size w w' := by
  obtain ⟨A1, cap1, rfl, _⟩ := h1.form
  obtain ⟨A2, cap2, rfl, _⟩ := h2.form
  have H1 := Lib.hid h1
  have H2 := Lib.hid h2
  have i0 := hn.id0
  have i1 := hn.id1
  clear h1 h2 hw hn
  go_enter Try.func42, Try.ntmps42
  go_upto_region 1 with (fail)
  -- the three variables
  have hb0 : Below w.heap.size w (((w.alloc (.cells #[.int .u32 was.id, .slice A1 was.comps.length cap1] 43)).alloc (.cells #[.int .u32 now.id, .slice A2 now.comps.length cap2] 43)).alloc (.cells #[.int .u32 0, .int .u8 0, .slice none 0 0, .slice none 0 0] 88)) :=
    (((Below.refl _ _).alloc (Nat.le_refl _) _).alloc (by simp) _).alloc (by simp; omega) _
  have q1 : (((w.alloc (.cells #[.int .u32 was.id, .slice A1 was.comps.length cap1] 43)).alloc (.cells #[.int .u32 now.id, .slice A2 now.comps.length cap2] 43)).alloc (.cells #[.int .u32 0, .int .u8 0, .slice none 0 0, .slice none 0 0] 88)).heap[w.heap.size]? = some (.cells #[.int .u32 was.id, .slice A1 was.comps.length cap1] 43 (0, 0)) := by
    rw [Below.heap_alloc _ _ _ (by simp; omega), Below.heap_alloc _ _ _ (by simp)]; exact heap_alloc_new w _
  have q2 : (((w.alloc (.cells #[.int .u32 was.id, .slice A1 was.comps.length cap1] 43)).alloc (.cells #[.int .u32 now.id, .slice A2 now.comps.length cap2] 43)).alloc (.cells #[.int .u32 0, .int .u8 0, .slice none 0 0, .slice none 0 0] 88)).heap[w.heap.size + 1]? = some (.cells #[.int .u32 now.id, .slice A2 now.comps.length cap2] 43 (0, 0)) := by
    rw [Below.heap_alloc _ _ _ (by simp)]
    have := heap_alloc_new (w.alloc (.cells #[.int .u32 was.id, .slice A1 was.comps.length cap1] 43)) (.cells #[.int .u32 now.id, .slice A2 now.comps.length cap2] 43)
    rw [show (w.alloc (.cells #[.int .u32 was.id, .slice A1 was.comps.length cap1] 43)).heap.size = w.heap.size + 1 by simp] at this
    exact this
  have q3 : (((w.alloc (.cells #[.int .u32 was.id, .slice A1 was.comps.length cap1] 43)).alloc (.cells #[.int .u32 now.id, .slice A2 now.comps.length cap2] 43)).alloc (.cells #[.int .u32 0, .int .u8 0, .slice none 0 0, .slice none 0 0] 88)).heap[w.heap.size + 2]? = some (.cells #[.int .u32 0, .int .u8 0, .slice none 0 0, .slice none 0 0] 88 (0, 0)) := by
    have := heap_alloc_new ((w.alloc (.cells #[.int .u32 was.id, .slice A1 was.comps.length cap1] 43)).alloc (.cells #[.int .u32 now.id, .slice A2 now.comps.length cap2] 43)) (.cells #[.int .u32 0, .int .u8 0, .slice none 0 0, .slice none 0 0] 88)
    rw [show ((w.alloc (.cells #[.int .u32 was.id, .slice A1 was.comps.length cap1] 43)).alloc (.cells #[.int .u32 now.id, .slice A2 now.comps.length cap2] 43)).heap.size = w.heap.size + 2 by simp] at this
    exact this
  have hsz : (((w.alloc (.cells #[.int .u32 was.id, .slice A1 was.comps.length cap1] 43)).alloc (.cells #[.int .u32 now.id, .slice A2 now.comps.length cap2] 43)).alloc (.cells #[.int .u32 0, .int .u8 0, .slice none 0 0, .slice none 0 0] 88)).heap.size = w.heap.size + 3 := by simp
  generalize ((w.alloc (.cells #[.int .u32 was.id, .slice A1 was.comps.length cap1] 43)).alloc (.cells #[.int .u32 now.id, .slice A2 now.comps.length cap2] 43)).alloc (.cells #[.int .u32 0, .int .u8 0, .slice none 0 0, .slice none 0 0] 88) = W at *
  rw [show w.heap.size + 1 + 1 = w.heap.size + 2 by omega]
  obtain ⟨b0, hb0e⟩ : ∃ b0, b0 = w.heap.size := ⟨_, rfl⟩
  rw [← hb0e] at q1 q2 q3 hsz
  rw [← hb0e]
  have s1 : W.cell? ⟨b0, 1, none⟩ = some (.slice A1 was.comps.length cap1) := cell_at q1 rfl
  have s2 : W.cell? ⟨b0 + 1, 0, none⟩ = some (.int .u32 now.id) := cell_at q2 rfl
  have s3 : W.cell? ⟨b0 + 1, 1, none⟩ = some (.slice A2 now.comps.length cap2) := cell_at q2 rfl
  have HB0 := Lib.hid hb0
  have HBE := Lib.hid hb0e
  have Q1 := Lib.hid q1
  have Q2 := Lib.hid q2
  have Q3 := Lib.hid q3
  have HSZ := Lib.hid hsz
  have hbW : b0 + 1 < W.heap.size := by omega
  have hbW0 : b0 < W.heap.size := by omega
  clear hb0 q1 q2 q3 hb0e hsz
  go_cut [5] (fun s5 wx => ∃ D, s5 = .pointer (some ⟨D, 0, none⟩) ∧ W.heap.size ≤ D ∧ wx.heap[D]? = some (.cells #[.int .u32 now.id, .int .u8 (lostOf was.comps now.comps), .slice none 0 0, .slice none 0 0] 88 (0, 0)) ∧ Below W.heap.size W wx)
  case first =>
    have K3 : Hid (∀ w2, Below W.heap.size W w2 → w2.cell? ⟨b0, 1, none⟩ = some (.slice A1 was.comps.length cap1) ∧ w2.cell? ⟨b0 + 1, 0, none⟩ = some (.int .u32 now.id) ∧ w2.cell? ⟨b0 + 1, 1, none⟩ = some (.slice A2 now.comps.length cap2)) :=
      fun w2 hb => ⟨(hb.cell (p := ⟨b0, 1, none⟩) hbW0).trans s1, (hb.cell (p := ⟨b0 + 1, 0, none⟩) hbW).trans s2, (hb.cell (p := ⟨b0 + 1, 1, none⟩) hbW).trans s3⟩
    go_region_held3 (fun w2 => w2.cell? ⟨b0, 1, none⟩ = some (.slice A1 was.comps.length cap1) ∧ w2.cell? ⟨b0 + 1, 0, none⟩ = some (.int .u32 now.id) ∧ w2.cell? ⟨b0 + 1, 1, none⟩ = some (.slice A2 now.comps.length cap2)) (first | exact K3.out _ hB2 | exact K3.out _ hB1 | exact K3.out _ (hB2.alloc hB2.size _) | exact K3.out _ ((((hB2.setCell (p := ⟨_, 0, none⟩) (by first | exact hB1.size | exact Nat.le_refl _ | exact hB2.size) _).setCell (p := ⟨_, 1, none⟩) (by first | exact hB1.size | exact Nat.le_refl _ | exact hB2.size) _).setCell (p := ⟨_, 2, none⟩) (by first | exact hB1.size | exact Nat.le_refl _ | exact hB2.size) _).setCell (p := ⟨_, 3, none⟩) (by first | exact hB1.size | exact Nat.le_refl _ | exact hB2.size) _) | exact K3.out _ (((((hB2.alloc hB2.size _).setCell (p := ⟨_, 0, none⟩) (by first | exact hB1.size | exact Nat.le_refl _ | exact hB2.size) _).setCell (p := ⟨_, 1, none⟩) (by first | exact hB1.size | exact Nat.le_refl _ | exact hB2.size) _).setCell (p := ⟨_, 2, none⟩) (by first | exact hB1.size | exact Nat.le_refl _ | exact hB2.size) _).setCell (p := ⟨_, 3, none⟩) (by first | exact hB1.size | exact Nat.le_refl _ | exact hB2.size) _) | go_keep)
      (first
        | (go_at_call_of 39 (Value.slice A1 was.comps.length cap1); refine (mask_any Z1 _ was.comps _ ?_).mono ?_; (first | exact H1.out.stp (.of_below HB0.out.drew) | exact H1.out.stp (.of_below (HB0.out.alloc HB0.out.size _).drew)); rintro x w1 ⟨rfl, hb1⟩; obtain ⟨hce1, hfe1⟩ := bcell hb1; have hz1 := hb1.size; have hB1 : Below W.heap.size W w1 := (by first | exact (Below.refl _ _).drew.trans hb1 | exact ((Below.refl _ _).alloc (Nat.le_refl _) _).drew.trans (hb1.mono (by simp))); (try have hD1 : w1.heap[W.heap.size]? = some (.cells #[.int .u32 0, .int .u8 0, .slice none 0 0, .slice none 0 0] 88 (0, 0)) := (hb1.block _ (by simp)).trans (heap_alloc_new _ _)))
        | (go_at_call_of 39 (Value.slice A2 now.comps.length cap2); refine (mask_any Z2 _ now.comps _ ?_).mono ?_; (first | exact H2.out.stp (.of_below (HB0.out.drew.trans (hb1.mono HB0.out.size))) | exact H2.out.stp (.of_below ((HB0.out.alloc HB0.out.size _).drew.trans (hb1.mono (HB0.out.alloc HB0.out.size _).size))) | exact H2.out.stp (.of_below ((HB0.out.drew.trans (hb1.mono HB0.out.size)).alloc (HB0.out.drew.trans (hb1.mono HB0.out.size)).size _))); rintro x w2 ⟨rfl, hb2⟩; obtain ⟨hce2, hfe2⟩ := bcell hb2; have hz2 := hb2.size; have hB2 : Below W.heap.size W w2 := (by first | exact hB1.trans (hb2.mono hB1.size) | exact (hB1.alloc hB1.size _).trans (hb2.mono (hB1.alloc hB1.size _).size)); (try (have hD2 : w2.heap[W.heap.size]? = some (.cells #[.int .u32 0, .int .u8 0, .slice none 0 0, .slice none 0 0] 88 (0, 0)) := (hb2.block _ (heap_lt hD1)).trans hD1; have fD := (fun o => unfrozen (o := o) hD2); have cD0 := cell_at (o := 0) hD2 rfl; have cD1 := cell_at (o := 1) hD2 rfl; have cD2 := cell_at (o := 2) hD2 rfl; have cD3 := cell_at (o := 3) hD2 rfl)); (try (have hD2 : w2.heap[w1.heap.size]? = some (.cells #[.int .u32 0, .int .u8 0, .slice none 0 0, .slice none 0 0] 88 (0, 0)) := (hb2.block _ (by simp)).trans (heap_alloc_new _ _); have fD := (fun o => unfrozen (o := o) hD2); have cD0 := cell_at (o := 0) hD2 rfl; have cD1 := cell_at (o := 1) hD2 rfl; have cD2 := cell_at (o := 2) hD2 rfl; have cD3 := cell_at (o := 3) hD2 rfl))))
    · go_wp2_with fail; go_meet; exact ⟨_, rfl, hB2.size, heap_alloc_new _ _, hB2.alloc hB2.size _⟩
    · go_wp2_with fail; go_meet; exact ⟨_, rfl, hB1.size, set4 hD2, below4 hB2 hB1.size⟩
    · go_wp2_with fail; go_meet; exact ⟨_, rfl, Nat.le_refl _, set4 hD2, below4 hB2 (Nat.le_refl _)⟩
  case rest =>
    obtain ⟨D, rfl, hDW, hD, hBw⟩ := hcut
    have t3 : wc.cell? ⟨b0 + 1, 1, none⟩ = some (.slice A2 now.comps.length cap2) := (hBw.cell (p := ⟨b0 + 1, 1, none⟩) hbW).trans s3
    have HD := Lib.hid hD
    have HBW := Lib.hid hBw
    clear hD hBw
    go_wp2_with fail
    go_loopg [23] now.comps.length (fun gk s23 wx => ∃ i, ∃ vn vs, i + gk = now.comps.length ∧ s23 = .int .i64 i ∧
      wx.heap[D]? = some (.cells #[.int .u32 now.id, .int .u8 (lostOf was.comps now.comps), vn, vs] 88 (0, 0)) ∧
      Mine wx (W.heap.size) 48 4 vn (newOf was.comps (now.comps.take i)).length ((newOf was.comps (now.comps.take i)).flatMap Comp.cells) ∧
      Mine wx (W.heap.size) 48 4 vs (setOf was.comps (now.comps.take i)).length ((setOf was.comps (now.comps.take i)).flatMap Comp.cells) ∧
      Apart vn vs ∧ Below W.heap.size W wx)
    case atStart =>
      exact ⟨0, _, _, by omega, rfl, HD.out, Mine.nil _ _ _ _, Mine.nil _ _ _ _, Apart.nil _, HBW.out⟩
    case round =>
      obtain ⟨i, vn, vs, hi, rfl, hd, hn, hs, hap, hbl⟩ := hrel
      by_cases hlt : i < now.comps.length
      · obtain ⟨x, hxi⟩ : ∃ x, now.comps[i]? = some x := ⟨_, List.getElem?_eq_getElem hlt⟩
        have r2 := (H2.out.below HB0.out).below hbl
        have r1 := (H1.out.below HB0.out).below hbl
        obtain ⟨b', o', rfl, hzb, hbl', hwf, c0, c1, c2, c3⟩ := r2.at hxi
        have hk0 := hwf.k0
        have hk1 := hwf.k1
        have htk : now.comps.take (i + 1) = now.comps.take i ++ [x] := by rw [List.take_add_one, hxi]; rfl
        have u1 : wr.cell? ⟨b0, 1, none⟩ = some (.slice A1 was.comps.length cap1) := (hbl.cell (p := ⟨b0, 1, none⟩) hbW0).trans s1
        have R1 := Lib.hid r1
        have HD2 := Lib.hid hd
        have HN := Lib.hid hn
        have HS := Lib.hid hs
        have HAP := Lib.hid hap
        have HBL := Lib.hid hbl
        have HWF := Lib.hid hwf
        have HTK := Lib.hid htk
        have hDlt := heap_lt hd
        have hWs := hbl.size
        have hb0w : b0 < wr.heap.size := Nat.lt_of_lt_of_le hbW0 hWs
        clear r1 r2 hd hn hs hap hbl htk hwf hxi
        cases hf : findC was.comps x.k with
        | none =>
          have HF := Lib.hid hf
          clear hf
          go_wp2_with fail
          refine (dfind_any Z1 _ was.comps x.k _ (R1.out.below ((Below.refl _ _).alloc (Nat.le_refl _) _)) hk0 hk1).mono ?_
          rintro e w1 ⟨rfl, hwz, hb1⟩
          rw [HF.out]
          have n1 : w1.heap[wr.heap.size]? = some (.cells #[.int .u8 x.k, .int .i32 x.f0, .int .i32 x.f1, .int .i32 x.f2] 48 (0, 0)) := (hb1.block _ (by simp)).trans (heap_alloc_new _ _)
          have dd := (hb1.block D (by simp; omega)).trans ((Below.heap_alloc _ _ _ (by omega)).trans HD2.out)
          have n10 := cell_at (o := 0) n1 rfl
          have n11 := cell_at (o := 1) n1 rfl
          have n12 := cell_at (o := 2) n1 rfl
          have n13 := cell_at (o := 3) n1 rfl
          have d2 := cell_at (o := 2) dd rfl
          have d3 := cell_at (o := 3) dd rfl
          have hz1 := hb1.size
          have hz2 := lt_of_cell n10
          have hz3 := heap_lt dd
          simp only [Option.getD, Option.isSome, zeroC, Comp.v]
          have N1 := Lib.hid n1
          have DD := Lib.hid dd
          have HB1 := Lib.hid hb1
          clear n1 dd hb1
          have hone : ∀ u ∈ x.cells, u.oneCell' = true := fun u hu => comps_one [x] u (by simpa using hu)
          have hM1 : Mine w1 W.heap.size 48 4 vn (newOf was.comps (now.comps.take i)).length ((newOf was.comps (now.comps.take i)).flatMap Comp.cells) := (HN.out.alloc _).below HB1.out
          go_wp2_with (at_builtin; refine wpl_append_grew rfl (.tmp 39) (.tmp 41) 41 rfl 48 (.agg #[.int .u8 0, .int .i32 0, .int .i32 0, .int .i32 0]) 4 16 Try.underlying41 info_comp rfl (by decide) W.heap.size vn _ _ rfl ((hM1.alloc _).alloc _) ?hB ⟨w1.heap.size + 1, 0, none⟩ 1 1 x.cells rfl rfl ?hn hone ?c3 ?c4 ?_)
          case hB => simp; omega
          case hn => exact new_row _ x.cells _ _ (by simp)
          case c3 => have := List.length_filter_le (fun c => !(findC was.comps c.k).isSome) (now.comps.take i); simp only [newOf, List.length_take] at this ⊢; omega
          case c4 => have := List.length_filter_le (fun c => !(findC was.comps c.k).isSome) (now.comps.take i); simp only [newOf, List.length_take] at this ⊢; omega
          intro v' w3 hm3 hg3
          obtain ⟨gg, cc, rfl, _⟩ := own_form hm3.own (by omega)
          have e1 := hg3.block (k := D) (by simp; omega) (own_block_ne hM1.own DD.out (by decide))
          have dd3 := e1.trans ((Below.heap_alloc _ _ _ (by simp; omega)).trans ((Below.heap_alloc _ _ _ (by omega)).trans DD.out))
          have hM3 : Mine w1 W.heap.size 48 4 vs (setOf was.comps (now.comps.take i)).length ((setOf was.comps (now.comps.take i)).flatMap Comp.cells) := (HS.out.alloc _).below HB1.out
          have hS3 := hg3.other (HAP.out) ((hM3.alloc (.cells #[.int .u8 0, .int .i32 0, .int .i32 0, .int .i32 0] 48)).alloc (.cells x.cells.toArray 48))
          have ap3 := hg3.apart HAP.out (hM3.alloc (.cells #[.int .u8 0, .int .i32 0, .int .i32 0, .int .i32 0] 48)|>.alloc (.cells x.cells.toArray 48)).lt
          have bl3 := hg3.below hM1.from_ (by simp; omega)
          have fr := fun o => unfrozen (o := o) dd3
          have q2 := cell_at (o := 2) dd3 rfl
          have HM3 := Lib.hid hm3
          have HG3 := Lib.hid hg3
          have HS3 := Lib.hid hS3
          have HAP3 := Lib.hid ap3
          have HBL3 := Lib.hid bl3
          have DD3 := Lib.hid dd3
          clear hm3 hg3 hS3 ap3 bl3 dd3 e1 hM1 hM3
          go_wp2_with fail
          go_roundg (gk - 1)
          case measure => omega
          case rel =>
            obtain ⟨l1, l2⟩ := new_none (l := now.comps.take i) HF.out
            refine ⟨i + 1, _, vs, by omega, by simp, ?_, ?_, ?_, HAP3.out, ?_⟩
            · exact set42 DD3.out
            · rw [HTK.out, l1]; exact (Mine.snoc HM3.out).setBy DD3.out (by decide) _ _
            · rw [HTK.out, l2]; exact HS3.out.setBy DD3.out (by decide) _ _
            · have f1 : Below W.heap.size W w1 := (HBL.out.alloc hWs _).trans (HB1.out.mono (by simp; omega))
              have f2 := f1.alloc f1.size (.cells #[.int .u8 0, .int .i32 0, .int .i32 0, .int .i32 0] 48)
              exact ((f2.alloc f2.size _).trans HBL3.out).setCell (p := ⟨D, 2, none⟩) hDW _
        | some y =>
          have HF := Lib.hid hf
          clear hf
          by_cases hyx : y ≠ x
          · have hdec : decide (y ≠ x) = true := decide_eq_true hyx
            go_wp2_with fail
            refine (dfind_any Z1 _ was.comps x.k _ (R1.out.below ((Below.refl _ _).alloc (Nat.le_refl _) _)) hk0 hk1).mono ?_
            rintro e w1 ⟨rfl, hwz, hb1⟩
            rw [HF.out]
            have n1 : w1.heap[wr.heap.size]? = some (.cells #[.int .u8 x.k, .int .i32 x.f0, .int .i32 x.f1, .int .i32 x.f2] 48 (0, 0)) := (hb1.block _ (by simp)).trans (heap_alloc_new _ _)
            have dd := (hb1.block D (by simp; omega)).trans ((Below.heap_alloc _ _ _ (by omega)).trans HD2.out)
            have n10 := cell_at (o := 0) n1 rfl
            have n11 := cell_at (o := 1) n1 rfl
            have n12 := cell_at (o := 2) n1 rfl
            have n13 := cell_at (o := 3) n1 rfl
            have d2 := cell_at (o := 2) dd rfl
            have d3 := cell_at (o := 3) dd rfl
            have hz1 := hb1.size
            have hz2 := lt_of_cell n10
            have hz3 := heap_lt dd
            simp only [Option.getD, Option.isSome, Comp.v]
            have N1 := Lib.hid n1
            have DD := Lib.hid dd
            have HB1 := Lib.hid hb1
            clear n1 dd hb1
            have hone : ∀ u ∈ x.cells, u.oneCell' = true := fun u hu => comps_one [x] u (by simpa using hu)
            have hM1 : Mine w1 W.heap.size 48 4 vn (newOf was.comps (now.comps.take i)).length ((newOf was.comps (now.comps.take i)).flatMap Comp.cells) := (HN.out.alloc _).below HB1.out
            have hM3 : Mine w1 W.heap.size 48 4 vs (setOf was.comps (now.comps.take i)).length ((setOf was.comps (now.comps.take i)).flatMap Comp.cells) := (HS.out.alloc _).below HB1.out
            go_wp2_with (at_builtin; refine wpl_append_grew rfl (.tmp 49) (.tmp 51) 41 rfl 48 (.agg #[.int .u8 0, .int .i32 0, .int .i32 0, .int .i32 0]) 4 16 Try.underlying41 info_comp rfl (by decide) W.heap.size vs _ _ rfl ((hM3.alloc _).alloc _) ?hB ⟨w1.heap.size + 1, 0, none⟩ 1 1 x.cells rfl rfl ?hn hone ?c3 ?c4 ?_)
            case hB => simp; omega
            case hn => exact new_row _ x.cells _ _ (by simp)
            case c3 => have := List.length_filter_le (fun c => (findC was.comps c.k).isSome && decide ((findC was.comps c.k).getD zeroC ≠ c)) (now.comps.take i); simp only [setOf, List.length_take] at this ⊢; omega
            case c4 => have := List.length_filter_le (fun c => (findC was.comps c.k).isSome && decide ((findC was.comps c.k).getD zeroC ≠ c)) (now.comps.take i); simp only [setOf, List.length_take] at this ⊢; omega
            intro v' w3 hm3 hg3
            obtain ⟨gg, cc, rfl, _⟩ := own_form hm3.own (by omega)
            have e1 := hg3.block (k := D) (by simp; omega) (own_block_ne hM3.own DD.out (by decide))
            have dd3 := e1.trans ((Below.heap_alloc _ _ _ (by simp; omega)).trans ((Below.heap_alloc _ _ _ (by omega)).trans DD.out))
            have hS3 := hg3.other (HAP.out.symm) ((hM1.alloc (.cells #[.int .u8 y.k, .int .i32 y.f0, .int .i32 y.f1, .int .i32 y.f2] 48)).alloc (.cells x.cells.toArray 48))
            have ap3 := hg3.apart HAP.out.symm (hM1.alloc (.cells #[.int .u8 y.k, .int .i32 y.f0, .int .i32 y.f1, .int .i32 y.f2] 48)|>.alloc (.cells x.cells.toArray 48)).lt
            have bl3 := hg3.below hM3.from_ (by simp; omega)
            have fr := fun o => unfrozen (o := o) dd3
            have q2 := cell_at (o := 3) dd3 rfl
            have HM3 := Lib.hid hm3
            have HG3 := Lib.hid hg3
            have HS3 := Lib.hid hS3
            have HAP3 := Lib.hid ap3
            have HBL3 := Lib.hid bl3
            have DD3 := Lib.hid dd3
            clear hm3 hg3 hS3 ap3 bl3 dd3 e1 hM1 hM3
            go_wp2_with fail
            go_roundg (gk - 1)
            case measure => omega
            case rel =>
              obtain ⟨l1, l2⟩ := new_set (l := now.comps.take i) HF.out hyx
              refine ⟨i + 1, vn, _, by omega, by simp, ?_, ?_, ?_, HAP3.out.symm, ?_⟩
              · exact set43 DD3.out
              · rw [HTK.out, l1]; exact HS3.out.setBy DD3.out (by decide) _ _
              · rw [HTK.out, l2]; exact (Mine.snoc HM3.out).setBy DD3.out (by decide) _ _
              · have f1 : Below W.heap.size W w1 := (HBL.out.alloc hWs _).trans (HB1.out.mono (by simp; omega))
                have f2 := f1.alloc f1.size (.cells #[.int .u8 y.k, .int .i32 y.f0, .int .i32 y.f1, .int .i32 y.f2] 48)
                exact ((f2.alloc f2.size _).trans HBL3.out).setCell (p := ⟨D, 3, none⟩) hDW _
          · have hyx' : y = x := Decidable.of_not_not hyx
            subst hyx'
            have hdec : decide (y ≠ y) = false := by simp
            go_wp2_with fail
            refine (dfind_any Z1 _ was.comps y.k _ (R1.out.below ((Below.refl _ _).alloc (Nat.le_refl _) _)) hk0 hk1).mono ?_
            rintro e w1 ⟨rfl, hwz, hb1⟩
            rw [HF.out]
            have n1 : w1.heap[wr.heap.size]? = some (.cells #[.int .u8 y.k, .int .i32 y.f0, .int .i32 y.f1, .int .i32 y.f2] 48 (0, 0)) := (hb1.block _ (by simp)).trans (heap_alloc_new _ _)
            have dd := (hb1.block D (by simp; omega)).trans ((Below.heap_alloc _ _ _ (by omega)).trans HD2.out)
            have n10 := cell_at (o := 0) n1 rfl
            have n11 := cell_at (o := 1) n1 rfl
            have n12 := cell_at (o := 2) n1 rfl
            have n13 := cell_at (o := 3) n1 rfl
            have d2 := cell_at (o := 2) dd rfl
            have d3 := cell_at (o := 3) dd rfl
            have hz1 := hb1.size
            have hz2 := lt_of_cell n10
            have hz3 := heap_lt dd
            simp only [Option.getD, Option.isSome, Comp.v]
            have N1 := Lib.hid n1
            have DD := Lib.hid dd
            have HB1 := Lib.hid hb1
            clear n1 dd hb1
            go_wp2_with fail
            go_roundg (gk - 1)
            case measure => omega
            case rel =>
              obtain ⟨l1, l2⟩ := new_same (l := now.comps.take i) HF.out
              have f1 : Below W.heap.size W w1 := (HBL.out.alloc hWs _).trans (HB1.out.mono (by simp; omega))
              refine ⟨i + 1, vn, vs, by omega, by simp, ?_, ?_, ?_, HAP.out, f1.alloc f1.size _⟩
              · exact (Below.heap_alloc _ _ _ (by omega)).trans DD.out
              · rw [HTK.out, l1]; exact ((HN.out.alloc _).below HB1.out).alloc _
              · rw [HTK.out, l2]; exact ((HS.out.alloc _).below HB1.out).alloc _
      · have hil : i = now.comps.length := by omega
        subst hil
        have htk : now.comps.take now.comps.length = now.comps := List.take_length
        rw [htk] at hn hs
        have d0 := cell_at (o := 0) hd rfl
        have d1 := cell_at (o := 1) hd rfl
        have d2 := cell_at (o := 2) hd rfl
        have d3 := cell_at (o := 3) hd rfl
        have hDlt := heap_lt hd
        have hq3 := (hbl.block (b0 + 2) (by have := HSZ.out; omega)).trans Q3.out
        have fr := fun o => unfrozen (o := o) hq3
        have e0 := cell_at (o := 0) hq3 rfl
        have e1 := cell_at (o := 1) hq3 rfl
        have e2 := cell_at (o := 2) hq3 rfl
        have e3 := cell_at (o := 3) hq3 rfl
        have hbl2 := HB0.out.trans (hbl.mono HB0.out.size)
        have hwl := fun c hc => H2.out.wf c hc
        obtain ⟨An, cn, rfl⟩ := hn.form
        obtain ⟨As, cs, rfl⟩ := hs.form
        have hne : b0 + 2 < W.heap.size := by have := HSZ.out; omega
        have HN := Lib.hid hn
        have HS := Lib.hid hs
        have HWL := Lib.hid hwl
        have HBL2 := Lib.hid hbl2
        have HQ3 := Lib.hid hq3
        have hws := hbl.size
        clear hn hs hap hbl hd hbl2 hwl hq3
        go_wp2_with fail
        refine bodyPost_ret (v := .agg #[.int .u32 now.id, .int .u8 (lostOf was.comps now.comps), .slice An (newOf was.comps now.comps).length cn, .slice As (setOf was.comps now.comps).length cs]) (by simp [results, Try.results42, go_sem, e0, e1, e2, e3]) rfl ⟨_, _, rfl, ?_, ?_, ?_⟩
        · have g1 := (((HN.out.setBy HQ3.out (by decide) 0 (.int .u32 now.id)).setBy (by first | exact set40 HQ3.out) (by decide) 1 (.int .u8 (lostOf was.comps now.comps))).setBy (by exact set41 (set40 HQ3.out)) (by decide) 2 (.slice An (newOf was.comps now.comps).length cn)).setBy (by exact set42 (set41 (set40 HQ3.out))) (by decide) 3 (.slice As (setOf was.comps now.comps).length cs)
          exact (RC.mine g1 (fun c hc => HWL.out c (List.mem_filter.1 hc).1)).anti fun k _ hk => Nat.lt_of_lt_of_le hk HB0.out.size
        · have g1 := (((HS.out.setBy HQ3.out (by decide) 0 (.int .u32 now.id)).setBy (by first | exact set40 HQ3.out) (by decide) 1 (.int .u8 (lostOf was.comps now.comps))).setBy (by exact set41 (set40 HQ3.out)) (by decide) 2 (.slice An (newOf was.comps now.comps).length cn)).setBy (by exact set42 (set41 (set40 HQ3.out))) (by decide) 3 (.slice As (setOf was.comps now.comps).length cs)
          exact (RC.mine g1 (fun c hc => HWL.out c (List.mem_filter.1 hc).1)).anti fun k _ hk => Nat.lt_of_lt_of_le hk HB0.out.size
        · exact below4 HBL2.out (by have := HBE.out; omega)
end Go.Proofs.Ytbklglckmhfmcaa
