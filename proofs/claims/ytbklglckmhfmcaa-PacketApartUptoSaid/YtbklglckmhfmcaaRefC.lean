/- pinnaceref05.Same, Twin; pinnaceref10.SameEnt, SameEnts; pinnaceref18.Few. -/
import Derived.Test.YtbklglckmhfmcaaSeal
import Derived.Deep.AppendSrc
set_option linter.unusedVariables false
set_option linter.unusedSimpArgs false
namespace Go.Proofs.Ytbklglckmhfmcaa
open Go.RowKit
set_option maxRecDepth 100000

set_option maxHeartbeats 4000000 in
theorem rsame_any (Z1 Z2 : Nat → Prop) (v1 v2 : Value) (a b : List Comp) (w : World) (h1 : RC Z1 w v1 a) (h2 : RC Z2 w v2 b) :
    Calls Try.prog 49 #[v1, v2] w fun e w' => e = .returned (.bool (decide (a = b))) ∧ Below w.heap.size w w' := by
  obtain ⟨A1, cap1, rfl, hca1, hca1'⟩ := h1.form
  obtain ⟨A2, cap2, rfl, hca2, hca2'⟩ := h2.form
  have H1 := Lib.hid h1
  have H2 := Lib.hid h2
  clear h1 h2
  by_cases hl : a.length = b.length
  · have hl1 : ((a.length : Int) != (b.length : Int)) = false := by simp [hl]
    have HLL := Lib.hid hl
    clear hl
    go_enter Try.func49, Try.ntmps49
    go_wp2_with fail
    go_loopg [13] a.length (fun g s13 wx => ∃ i : Nat, i + g = a.length ∧ s13 = .int .i64 i ∧ Below w.heap.size w wx ∧ ∀ j, j < i → a[j]? = b[j]?)
    case atStart => exact ⟨0, by omega, rfl, .refl _ _, fun j hj => by omega⟩
    case round =>
      obtain ⟨i, hi, rfl, hbw, hall⟩ := hrel
      have HALL := Lib.hid hall
      have HBW := Lib.hid hbw
      clear hall
      by_cases hlt : i < a.length
      · have hlt2 : i < b.length := by have := HLL.out; omega
        obtain ⟨x, hx⟩ : ∃ x, a[i]? = some x := ⟨_, List.getElem?_eq_getElem hlt⟩
        obtain ⟨y, hy⟩ : ∃ y, b[i]? = some y := ⟨_, List.getElem?_eq_getElem hlt2⟩
        obtain ⟨b1, o1, rfl, hz1, hbl1, hwf1, c0, c1, c2, c3⟩ := (H1.out.below hbw).at hx
        obtain ⟨b2, o2, rfl, hz2, hbl2, hwf2, d0, d1, d2, d3⟩ := (H2.out.below hbw).at hy
        have hL : (i : Int) < (a.length : Int) := by omega
        have hL2 : (i : Int) < (b.length : Int) := by omega
        have HX := Lib.hid hx
        have HY := Lib.hid hy
        clear hx hy hz1 hz2 hwf1 hwf2 hbw
        by_cases he : x = y
        · have he1 : decide (x ≠ y) = false := by simp [he]
          have HE := Lib.hid he
          clear he
          go_wp2_with fail
          go_quiet (fail)
          go_wp2_with fail
          go_roundg (gk - 1)
          case measure => omega
          case rel => exact ⟨i + 1, by omega, by simp, below_drewN HBW.out _, fun j hj => by
            by_cases h3 : j = i
            · rw [h3, HX.out, HY.out, HE.out]
            · exact HALL.out j (by omega)⟩
        · have he1 : decide (x ≠ y) = true := by simp [he]
          have hab : decide (a = b) = false := by
            apply decide_eq_false
            intro h; apply he
            have := HX.out; rw [h, HY.out] at this; simpa using this.symm
          have HE := Lib.hid hab
          clear he hab
          go_wp2_with fail
          go_quiet (fail)
          go_wp2_with fail
          go_ret
          rw [HE.out]
          exact ⟨rfl, below_drewN HBW.out _⟩
      · have hil : i = a.length := by omega
        subst hil
        have hab : decide (a = b) = true := by
          apply decide_eq_true
          apply List.ext_getElem?
          intro j
          by_cases hj : j < a.length
          · exact HALL.out j hj
          · rw [List.getElem?_eq_none (by omega), List.getElem?_eq_none (by have := HLL.out; omega)]
        have HE := Lib.hid hab
        have hL : ¬ (a.length : Int) < (a.length : Int) := by omega
        clear hab hlt hi
        go_wp2_with fail
        go_ret
        rw [HE.out]
        exact ⟨rfl, HBW.out⟩
  · have hl1 : ((a.length : Int) != (b.length : Int)) = true := by simp; omega
    have hab : decide (a = b) = false := by
      apply decide_eq_false
      intro h; exact hl (by rw [h])
    rw [hab]
    clear hl hab
    go_enter Try.func49, Try.ntmps49
    go_wp2_with fail
    go_ret
    exact ⟨rfl, .refl _ _⟩

/-- An append of nothing. -/
theorem wpl_append_nil {P : Program} {w : World} {ops : Array Oper} {rest : List Oper} {o : Oper} {a : Act} {Q : Exit → Act → World → Prop} (hgd : o.guard = none) (s x : Operand) (t : TypeId)
    (ho : o.op = .call { callee := .builtin .append, args := #[s, x], argTypes := #[t, t] })
    (e : TypeId) (z : Value) (size bytes : Nat) (ht : P.underlying t = some (.slice e)) (hinfo : (P.info? e).map (fun i => (i.zero, i.size, i.bytes)) = some (some z, size, bytes))
    (b n cap c : Nat) (hs : a.eval s = .slice (some ⟨b, 0, none⟩) n cap) (hx : a.eval x = .slice none 0 c) (hn : n ≤ cap)
    (h : wpList P ops Q rest (a.put o.dst (.slice (some ⟨b, 0, none⟩) n cap)) w) :
    wpList P ops Q (o :: rest) a w := by
  obtain ⟨i, hi, hz, hsize, hby⟩ := info_parts hinfo
  have hr := run_append_room_src (P := P) w t t o.type e i ht hi b 0 n cap (.slice none 0 c) 0 [] (Src.ofNil w ht c) (by omega) (by simp) (by simp)
  rw [show w.setCells b (0 + n * i.size) [] = w from by simp [World.setCells], Nat.add_zero] at hr
  refine wpList_plain hgd fun K hK => ?_
  unfold Oper.wp execOp
  simp only [ho, resolve, invoke, builtin, Sem.run_bind, Sem.run_pure, Result.andThen_ok, List.map_toArray, List.map_cons, List.map_nil, hs, hx, hr]
  exact hK _ _ h

set_option maxHeartbeats 2000000 in
theorem rtwin_any (Z : Nat → Prop) (v : Value) (l : List Comp) (w : World) (h : RC Z w v l) (hl : l.length ≤ 8796093022000) :
    Calls Try.prog 27 #[v] w fun e w' => ∃ v', e = .returned v' ∧ RC (fun k => k < w.heap.size) w' v' l ∧ Below w.heap.size w w' := by
  obtain ⟨A, cap, rfl, hcap1, hcap2⟩ := h.form
  have HH := Lib.hid h
  clear h
  cases A with
  | none =>
    have hl0 : l = [] := by
      obtain ⟨A', cap', h1, h2, h3, h4, h5⟩ := HH.out.sl
      simp only [Value.slice.injEq] at h1
      obtain ⟨rfl, _, rfl⟩ := h1
      rcases Nat.eq_zero_or_pos l.length with h0 | h0
      · exact List.eq_nil_of_length_eq_zero h0
      · obtain ⟨b, o, e, _⟩ := h5 h0; simp at e
    subst hl0
    go_enter Try.func27, Try.ntmps27
    go_wp2_with (at_builtin; refine wpl_append_nil rfl (.tmp 3) (.tmp 4) 41 rfl 48 (.agg #[.int .u8 0, .int .i32 0, .int .i32 0, .int .i32 0]) 4 16 Try.underlying41 info_comp w.heap.size 0 0 cap rfl rfl (Nat.le_refl _) ?_)
    go_ret
    refine ⟨_, rfl, RC.mine (B := w.heap.size) (made_empty w _ _) (by simp), (Below.refl _ _).alloc (Nat.le_refl _) _⟩
  | some ad =>
    go_enter Try.func27, Try.ntmps27
    go_wp2_with (at_builtin; refine wpl_append_mine rfl (.tmp 3) (.tmp 4) 41 rfl 48 (.agg #[.int .u8 0, .int .i32 0, .int .i32 0, .int .i32 0]) 4 16 Try.underlying41 info_comp rfl (by decide) w.heap.size _ _ _ rfl (made_empty _ _ _) ?hB ad l.length cap (l.flatMap Comp.cells) rfl ?hl ?hn (comps_one l) ?c3 ?c4 ?_)
    case hB => simp
    case hl => exact flat_length Comp.cells 4 (fun _ => rfl) l
    case hn => exact (HH.out.below ((Below.refl _ _).alloc (Nat.le_refl _) _)).sl.news
    case c3 => omega
    case c4 => omega
    intro v' w3 hm3 hb3
    have HM := Lib.hid hm3
    clear hm3
    go_wp2_with fail
    go_ret
    exact ⟨_, rfl, RC.mine (by simpa using HM.out) HH.out.wf, ((Below.refl _ _).alloc (Nat.le_refl _) _).trans hb3⟩

set_option maxHeartbeats 4000000 in
theorem rsameEnt_any (Z1 Z2 : Nat → Prop) (v1 v2 : Value) (a b : Ent) (w : World) (h1 : RC Z1 w v1 a.comps) (h2 : RC Z2 w v2 b.comps) :
    Calls Try.prog 28 #[.agg #[.int .u32 a.id, v1], .agg #[.int .u32 b.id, v2]] w fun e w' => e = .returned (.bool (decide (a = b))) ∧ Below w.heap.size w w' := by
  obtain ⟨A1, cap1, rfl, hca1, hca1'⟩ := h1.form
  obtain ⟨A2, cap2, rfl, hca2, hca2'⟩ := h2.form
  have H1 := Lib.hid h1
  have H2 := Lib.hid h2
  clear h1 h2
  by_cases hid : a.id = b.id
  · have hid1 : (a.id == b.id) = true := by simp [hid]
    have hab : decide (a = b) = decide (a.comps = b.comps) := by
      cases a; cases b; simp at hid ⊢; simp [hid]
    rw [hab]
    clear hid hab
    go_enter Try.func28, Try.ntmps28
    go_wp2_with fail
    have hb : Below w.heap.size w ((w.alloc (.cells #[.int .u32 a.id, .slice A1 a.comps.length cap1] 43)).alloc (.cells #[.int .u32 b.id, .slice A2 b.comps.length cap2] 43)) := ((Below.refl _ _).alloc (Nat.le_refl _) _).alloc (by simp) _
    refine (rsame_any _ _ _ _ a.comps b.comps _ (H1.out.below hb) (H2.out.below hb)).mono ?_
    rintro e w2 ⟨rfl, hb2⟩
    go_wp2_with fail
    go_ret
    exact ⟨rfl, hb.trans (hb2.mono hb.size)⟩
  · have hid1 : (a.id == b.id) = false := by simp [hid]
    have hab : decide (a = b) = false := decide_eq_false fun h => hid (by rw [h])
    rw [hab]
    clear hid hab
    go_enter Try.func28, Try.ntmps28
    go_wp2_with fail
    go_ret
    exact ⟨rfl, ((Below.refl _ _).alloc (Nat.le_refl _) _).alloc (by simp) _⟩

set_option maxHeartbeats 8000000 in
theorem rsameEnts_any (Z1 Z2 : Nat → Prop) (v1 v2 : Value) (a b : List Ent) (w : World) (h1 : RE Z1 w v1 a) (h2 : RE Z2 w v2 b) :
    Calls Try.prog 12 #[v1, v2] w fun e w' => e = .returned (.bool (decide (a = b))) ∧ Below w.heap.size w w' := by
  obtain ⟨A1, cap1, rfl, hca1, hca1'⟩ := h1.form
  obtain ⟨A2, cap2, rfl, hca2, hca2'⟩ := h2.form
  have H1 := Lib.hid h1
  have H2 := Lib.hid h2
  clear h1 h2
  by_cases hl : a.length = b.length
  · have hl1 : ((a.length : Int) != (b.length : Int)) = false := by simp [hl]
    have HLL := Lib.hid hl
    clear hl
    go_enter Try.func12, Try.ntmps12
    go_wp2_with fail
    go_loopg [13] a.length (fun g s13 wx => ∃ i : Nat, i + g = a.length ∧ s13 = .int .i64 i ∧ Below w.heap.size w wx ∧ ∀ j, j < i → a[j]? = b[j]?)
    case atStart => exact ⟨0, by omega, rfl, .refl _ _, fun j hj => by omega⟩
    case round =>
      obtain ⟨i, hi, rfl, hbw, hall⟩ := hrel
      have HALL := Lib.hid hall
      have HBW := Lib.hid hbw
      clear hall
      by_cases hlt : i < a.length
      · have hlt2 : i < b.length := by have := HLL.out; omega
        obtain ⟨x, hx⟩ : ∃ x, a[i]? = some x := ⟨_, List.getElem?_eq_getElem hlt⟩
        obtain ⟨y, hy⟩ : ∃ y, b[i]? = some y := ⟨_, List.getElem?_eq_getElem hlt2⟩
        obtain ⟨b1, o1, hv1, rfl, hz1, hbl1, hwf1, hrc1, c0, c1⟩ := (H1.out.below hbw).at hx
        obtain ⟨b2, o2, hv2, rfl, hz2, hbl2, hwf2, hrc2, d0, d1⟩ := (H2.out.below hbw).at hy
        have hL : (i : Int) < (a.length : Int) := by omega
        have hL2 : (i : Int) < (b.length : Int) := by omega
        have HX := Lib.hid hx
        have HY := Lib.hid hy
        have K : Hid (∀ w2, Below wr.heap.size wr w2 → w2.cell? ⟨b1, o1 + i * 2, none⟩ = some (.int .u32 x.id) ∧ w2.cell? ⟨b1, o1 + i * 2 + 1, none⟩ = some hv1 ∧ w2.cell? ⟨b2, o2 + i * 2, none⟩ = some (.int .u32 y.id) ∧ w2.cell? ⟨b2, o2 + i * 2 + 1, none⟩ = some hv2) :=
          Lib.hid fun w2 hb => ⟨(hb.cell (p := ⟨b1, _, none⟩) hbl1).trans c0, (hb.cell (p := ⟨b1, _, none⟩) hbl1).trans c1, (hb.cell (p := ⟨b2, _, none⟩) hbl2).trans d0, (hb.cell (p := ⟨b2, _, none⟩) hbl2).trans d1⟩
        obtain ⟨A3, cap3, rfl, hca3, hca3'⟩ := hrc1.form
        obtain ⟨A4, cap4, rfl, hca4, hca4'⟩ := hrc2.form
        have HR1 := Lib.hid hrc1
        have HR2 := Lib.hid hrc2
        clear hx hy hz1 hz2 hwf1 hwf2 hbw hrc1 hrc2
        go_wp2_with fail
        go_region_held3 (fun w2 => w2.cell? ⟨b1, o1 + i * 2, none⟩ = some (.int .u32 x.id) ∧ w2.cell? ⟨b1, o1 + i * 2 + 1, none⟩ = some (.slice A3 x.comps.length cap3) ∧ w2.cell? ⟨b2, o2 + i * 2, none⟩ = some (.int .u32 y.id) ∧ w2.cell? ⟨b2, o2 + i * 2 + 1, none⟩ = some (.slice A4 y.comps.length cap4))
          (first | exact K.out _ (Below.refl _ _) | exact K.out _ (Below.refl _ _).drew | exact K.out _ hB2)
          (first | (go_at_call 28; refine (rsameEnt_any _ _ _ _ x y _ (HR1.out.below (Below.refl _ _).drew) (HR2.out.below (Below.refl _ _).drew)).mono ?_; rintro e w2 ⟨rfl, hb2⟩; have hB2 : Below wr.heap.size wr w2 := (Below.refl _ _).drew.trans hb2))
        have hB3 := HBW.out.trans (hB2.mono HBW.out.size)
        have HB3 := Lib.hid hB3
        clear hB2 hb2 hB3
        by_cases he : x = y
        · have he1 : decide (x = y) = true := by simp [he]
          have HE := Lib.hid he
          rw [he1]
          clear he he1
          go_wp2_with fail
          go_roundg (gk - 1)
          case measure => omega
          case rel => exact ⟨i + 1, by omega, by simp, HB3.out, fun j hj => by
            by_cases h3 : j = i
            · rw [h3, HX.out, HY.out, HE.out]
            · exact HALL.out j (by omega)⟩
        · have he1 : decide (x = y) = false := by simp [he]
          have hab : decide (a = b) = false := by
            apply decide_eq_false
            intro h; apply he
            have := HX.out; rw [h, HY.out] at this; simpa using this.symm
          have HE := Lib.hid hab
          rw [he1]
          clear he hab he1
          go_wp2_with fail
          go_ret
          rw [HE.out]
          exact ⟨rfl, HB3.out⟩
      · have hil : i = a.length := by omega
        subst hil
        have hab : decide (a = b) = true := by
          apply decide_eq_true
          apply List.ext_getElem?
          intro j
          by_cases hj : j < a.length
          · exact HALL.out j hj
          · rw [List.getElem?_eq_none (by omega), List.getElem?_eq_none (by have := HLL.out; omega)]
        have HE := Lib.hid hab
        have hL : ¬ (a.length : Int) < (a.length : Int) := by omega
        clear hab hlt hi
        go_wp2_with fail
        go_ret
        rw [HE.out]
        exact ⟨rfl, HBW.out⟩
  · have hl1 : ((a.length : Int) != (b.length : Int)) = true := by simp; omega
    have hab : decide (a = b) = false := by
      apply decide_eq_false
      intro h; exact hl (by rw [h])
    rw [hab]
    clear hl hab
    go_enter Try.func12, Try.ntmps12
    go_wp2_with fail
    go_ret
    exact ⟨rfl, .refl _ _⟩
end Go.Proofs.Ytbklglckmhfmcaa
