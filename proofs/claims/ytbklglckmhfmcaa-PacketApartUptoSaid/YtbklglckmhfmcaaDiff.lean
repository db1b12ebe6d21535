/- diff.Diff. -/
import Derived.Test.YtbklglckmhfmcaaDiffB
set_option linter.unusedVariables false
set_option linter.unusedSimpArgs false
namespace Go.Proofs.Ytbklglckmhfmcaa
open Go.RowKit
set_option maxRecDepth 100000

theorem info_id : (Try.prog.info? 40).map (fun i => (i.zero, i.size, i.bytes)) = some (some (.int .u32 0), 1, 4) := by kernel_rfl
theorem info_ent : (Try.prog.info? 43).map (fun i => (i.zero, i.size, i.bytes)) = some (some (.agg #[.int .u32 0, .slice none 0 0]), 2, 32) := by kernel_rfl
theorem info_change : (Try.prog.info? 88).map (fun i => (i.zero, i.size, i.bytes)) = some (some (.agg #[.int .u32 0, .int .u8 0, .slice none 0 0, .slice none 0 0]), 4, 56) := by kernel_rfl

theorem diff_end (was : List Ent) (i : Nat) (h : was.length ≤ i) : was.drop i = [] := List.drop_eq_nil_of_le h
theorem diff_a {was now : List Ent} {i k : Nat} {a : Ent} (hk : now.length ≤ k) (ha : was[i]? = some a) : diffL (was.drop i) (now.drop k) = (⟨[a.id], [], []⟩ : Delta).app (diffL (was.drop (i + 1)) (now.drop k)) := by
  obtain ⟨hi, rfl⟩ := List.getElem?_eq_some_iff.1 ha
  rw [List.drop_eq_getElem_cons hi, diff_end now k hk, diffL]
theorem diff_b {was now : List Ent} {i k : Nat} {a b : Ent} (ha : was[i]? = some a) (hb : now[k]? = some b) (h : a.id < b.id) : diffL (was.drop i) (now.drop k) = (⟨[a.id], [], []⟩ : Delta).app (diffL (was.drop (i + 1)) (now.drop k)) := by
  obtain ⟨hi, rfl⟩ := List.getElem?_eq_some_iff.1 ha
  obtain ⟨hk, rfl⟩ := List.getElem?_eq_some_iff.1 hb
  rw [List.drop_eq_getElem_cons hi, List.drop_eq_getElem_cons hk, diffL, if_pos h]
theorem diff_c {was now : List Ent} {i k : Nat} {b : Ent} (hi : was.length ≤ i) (hb : now[k]? = some b) : diffL (was.drop i) (now.drop k) = (⟨[], [b], []⟩ : Delta).app (diffL (was.drop i) (now.drop (k + 1))) := by
  obtain ⟨hk, rfl⟩ := List.getElem?_eq_some_iff.1 hb
  rw [List.drop_eq_getElem_cons hk, diff_end was i hi, diffL]
theorem diff_d {was now : List Ent} {i k : Nat} {a b : Ent} (ha : was[i]? = some a) (hb : now[k]? = some b) (h : b.id < a.id) : diffL (was.drop i) (now.drop k) = (⟨[], [b], []⟩ : Delta).app (diffL (was.drop i) (now.drop (k + 1))) := by
  obtain ⟨hi, rfl⟩ := List.getElem?_eq_some_iff.1 ha
  obtain ⟨hk, rfl⟩ := List.getElem?_eq_some_iff.1 hb
  rw [List.drop_eq_getElem_cons hi, List.drop_eq_getElem_cons hk, diffL, if_neg (by omega), if_pos h]
theorem diff_e {was now : List Ent} {i k : Nat} {a b : Ent} (ha : was[i]? = some a) (hb : now[k]? = some b) (h : a.id = b.id) : diffL (was.drop i) (now.drop k) = (chgOf a b).app (diffL (was.drop (i + 1)) (now.drop (k + 1))) := by
  obtain ⟨hi, rfl⟩ := List.getElem?_eq_some_iff.1 ha
  obtain ⟨hk, rfl⟩ := List.getElem?_eq_some_iff.1 hb
  rw [List.drop_eq_getElem_cons hi, List.drop_eq_getElem_cons hk, diffL, if_neg (by omega), if_neg (by omega)]
theorem diff_z {was now : List Ent} {i k : Nat} (hi : was.length ≤ i) (hk : now.length ≤ k) : diffL (was.drop i) (now.drop k) = Delta.nil := by
  rw [diff_end was i hi, diff_end now k hk, diffL]
theorem Acc.lt {w : World} {B D : Nat} {vg vc vh : Value} {d : Delta} (h : Acc w B D vg vc vh d) (hB : B ≤ w.heap.size) {k : Nat} (hk : dz B D vg vc vh k) : k < w.heap.size := by
  obtain ⟨hs, c1, c2, c3⟩ := h.c
  obtain ⟨ps, p1, p2, p3⟩ := h.h
  rcases hk with hk | hk | hk | hk | hk
  · omega
  · subst hk; exact heap_lt h.box
  · exact h.g.lt k hk
  · exact c2.lt k hk
  · exact p2.lt k hk

inductive Tri : Value → Prop
  | mk (A1 : Option Addr) (n1 c1 : Nat) (A2 : Option Addr) (n2 c2 : Nat) (A3 : Option Addr) (n3 c3 : Nat) : Tri (.agg #[.slice A1 n1 c1, .slice A2 n2 c2, .slice A3 n3 c3])

set_option maxHeartbeats 16000000 in
theorem diff_any (Z : Nat → Prop) (v1 v2 : Value) (was now : List Ent) (w : World) (h1 : RE Z w v1 was) (h2 : RE Z w v2 now) (hl1 : was.length ≤ 1000000) (hl2 : now.length ≤ 1000000) (hl3 : ∀ e ∈ now, e.comps.length ≤ 8796093022000) :
    Calls Try.prog 23 #[v1, v2] w
      fun e w' => ∃ dv, e = .returned (.tuple #[dv, .int .i64 (diffE was now)]) ∧ (diffE was now = 0 → RD (fun k => k < w.heap.size) w' dv (diffL was now)) ∧ Below w.heap.size w w' ∧ Tri dv := by
  obtain ⟨A1, cap1, rfl, hca1, hca1'⟩ := h1.form
  obtain ⟨A2, cap2, rfl, hca2, hca2'⟩ := h2.form
  have H1 := Lib.hid h1
  have H2 := Lib.hid h2
  have H3 := Lib.hid hl3
  obtain ⟨F1, hF1⟩ : ∃ F1, F1 = formE was := ⟨_, rfl⟩
  obtain ⟨F2, hF2⟩ : ∃ F2, F2 = formE now := ⟨_, rfl⟩
  have HF1 := Lib.hid hF1
  have HF2 := Lib.hid hF2
  clear h1 h2 hF1 hF2 hl3
  go_enter Try.func23, Try.ntmps23
  go_wp2_with fail
  go_loopg [17] 2 (fun gk s17 wx => ∃ i : Nat, i + gk = 2 ∧ s17 = .int .i64 i ∧ (1 ≤ i → F1 = 0) ∧ (2 ≤ i → F2 = 0) ∧
    wx.heap[w.heap.size]? = some (.cells #[.slice none 0 0, .slice none 0 0, .slice none 0 0] 63 (0, 0)) ∧
    wx.cell? ⟨w.heap.size + 1, 0, none⟩ = some (.slice A1 was.length cap1) ∧ wx.cell? ⟨w.heap.size + 1, 1, none⟩ = some (.slice A2 now.length cap2) ∧ Below w.heap.size w wx)
  case atStart =>
    refine ⟨0, by omega, rfl, by omega, by omega, ?_, ?_, ?_, ((Below.refl _ _).alloc (Nat.le_refl _) _).alloc (by simp) _⟩
    · rw [Below.heap_alloc _ _ _ (by simp)]; exact heap_alloc_new w _
    · exact cell_at (by have := heap_alloc_new (w.alloc (.cells #[.slice none 0 0, .slice none 0 0, .slice none 0 0] 63)) (.cells #[.slice A1 was.length cap1, .slice A2 now.length cap2] 22); rw [show (w.alloc (.cells #[.slice none 0 0, .slice none 0 0, .slice none 0 0] 63)).heap.size = w.heap.size + 1 by simp] at this; exact this) rfl
    · exact cell_at (by have := heap_alloc_new (w.alloc (.cells #[.slice none 0 0, .slice none 0 0, .slice none 0 0] 63)) (.cells #[.slice A1 was.length cap1, .slice A2 now.length cap2] 22); rw [show (w.alloc (.cells #[.slice none 0 0, .slice none 0 0, .slice none 0 0] 63)).heap.size = w.heap.size + 1 by simp] at this; exact this) rfl
  case round =>
    obtain ⟨i, hi, rfl, hi1, hi2, hq, q1, q2, hbl⟩ := hrel
    obtain rfl | rfl | rfl : i = 0 ∨ i = 1 ∨ i = 2 := by omega
    · have hr := H1.out.below hbl
      have hqs := heap_lt hq
      have hq0 := lt_of_cell q1
      have HR := Lib.hid hr
      have HQ := Lib.hid hq
      have HBL := Lib.hid hbl
      clear hr hq hbl
      by_cases hf : F1 = 0
      · have hf1 : (F1 != 0) = false := by simp [hf]
        have HF := Lib.hid hf
        clear hf
        go_wp2_with fail
        refine (form_any Z _ was _ HR.out).mono ?_
        rintro e w1 ⟨rfl, hb1⟩
        rw [← HF1.out]
        have p1 := (hb1.cell (p := ⟨w.heap.size + 1, 0, none⟩) hq0).trans q1
        have p2 := (hb1.cell (p := ⟨w.heap.size + 1, 1, none⟩) hq0).trans q2
        have hq3 := (hb1.block w.heap.size hqs).trans HQ.out
        have HB1 := Lib.hid hb1
        have HQ3 := Lib.hid hq3
        clear hb1 hq3
        go_wp2_with fail
        go_roundg (gk - 1)
        case measure => omega
        case rel => exact ⟨1, by omega, by simp, by first | exact fun _ => HF.out | exact fun _ => hi1 (by omega), by first | exact fun _ => HF.out | omega, HQ3.out, p1, p2, HBL.out.trans (HB1.out.mono HBL.out.size)⟩
      · have hf1 : (F1 != 0) = true := by simp [hf]
        have HF := Lib.hid hf
        clear hf
        go_wp2_with fail
        refine (form_any Z _ was _ HR.out).mono ?_
        rintro e w1 ⟨rfl, hb1⟩
        rw [← HF1.out]
        have hq3 := (hb1.block w.heap.size hqs).trans HQ.out
        have fr := fun o => unfrozen (o := o) hq3
        have e0 := cell_at (o := 0) hq3 rfl
        have e1 := cell_at (o := 1) hq3 rfl
        have e2 := cell_at (o := 2) hq3 rfl
        have HB1 := Lib.hid hb1
        clear hb1 hq3
        go_wp2_with fail
        refine bodyPost_ret (v := .tuple #[.agg #[.slice none 0 0, .slice none 0 0, .slice none 0 0], .int .i64 F1]) (by simp [results, Try.results23, go_sem, e0, e1, e2]) rfl ⟨.agg #[.slice none 0 0, .slice none 0 0, .slice none 0 0], ?_, ?_, ?_, Tri.mk ..⟩
        · rw [diffE, ← HF1.out, if_pos HF.out]
        · intro h0; exfalso; have := HF.out; have a := HF1.out; have b := HF2.out; unfold diffE at h0; rw [← a, ← b] at h0; split at h0 <;> simp_all
        · have hb := HBL.out.trans (HB1.out.mono HBL.out.size)
          exact ((hb.setCell (p := ⟨w.heap.size, 0, none⟩) (Nat.le_refl _) _).setCell (p := ⟨w.heap.size, 1, none⟩) (Nat.le_refl _) _).setCell (p := ⟨w.heap.size, 2, none⟩) (Nat.le_refl _) _
    · have hr := H2.out.below hbl
      have hqs := heap_lt hq
      have hq0 := lt_of_cell q1
      have HR := Lib.hid hr
      have HQ := Lib.hid hq
      have HBL := Lib.hid hbl
      clear hr hq hbl
      by_cases hf : F2 = 0
      · have hf1 : (F2 != 0) = false := by simp [hf]
        have HF := Lib.hid hf
        clear hf
        go_wp2_with fail
        refine (form_any Z _ now _ HR.out).mono ?_
        rintro e w1 ⟨rfl, hb1⟩
        rw [← HF2.out]
        have p1 := (hb1.cell (p := ⟨w.heap.size + 1, 0, none⟩) hq0).trans q1
        have p2 := (hb1.cell (p := ⟨w.heap.size + 1, 1, none⟩) hq0).trans q2
        have hq3 := (hb1.block w.heap.size hqs).trans HQ.out
        have HB1 := Lib.hid hb1
        have HQ3 := Lib.hid hq3
        clear hb1 hq3
        go_wp2_with fail
        go_roundg (gk - 1)
        case measure => omega
        case rel => exact ⟨2, by omega, by simp, by first | exact fun _ => HF.out | exact fun _ => hi1 (by omega), by first | exact fun _ => HF.out | omega, HQ3.out, p1, p2, HBL.out.trans (HB1.out.mono HBL.out.size)⟩
      · have hf1 : (F2 != 0) = true := by simp [hf]
        have HF := Lib.hid hf
        clear hf
        go_wp2_with fail
        refine (form_any Z _ now _ HR.out).mono ?_
        rintro e w1 ⟨rfl, hb1⟩
        rw [← HF2.out]
        have hq3 := (hb1.block w.heap.size hqs).trans HQ.out
        have fr := fun o => unfrozen (o := o) hq3
        have e0 := cell_at (o := 0) hq3 rfl
        have e1 := cell_at (o := 1) hq3 rfl
        have e2 := cell_at (o := 2) hq3 rfl
        have HB1 := Lib.hid hb1
        clear hb1 hq3
        go_wp2_with fail
        refine bodyPost_ret (v := .tuple #[.agg #[.slice none 0 0, .slice none 0 0, .slice none 0 0], .int .i64 F2]) (by simp [results, Try.results23, go_sem, e0, e1, e2]) rfl ⟨.agg #[.slice none 0 0, .slice none 0 0, .slice none 0 0], ?_, ?_, ?_, Tri.mk ..⟩
        · rw [diffE, ← HF1.out, ← HF2.out, if_neg (by simpa using hi1 (by omega))]
        · intro h0; exfalso; have := HF.out; have a := HF1.out; have b := HF2.out; unfold diffE at h0; rw [← a, ← b] at h0; split at h0 <;> simp_all
        · have hb := HBL.out.trans (HB1.out.mono HBL.out.size)
          exact ((hb.setCell (p := ⟨w.heap.size, 0, none⟩) (Nat.le_refl _) _).setCell (p := ⟨w.heap.size, 1, none⟩) (Nat.le_refl _) _).setCell (p := ⟨w.heap.size, 2, none⟩) (Nat.le_refl _) _
    · have hf1 : F1 = 0 := hi1 (by omega)
      have hf2 : F2 = 0 := hi2 (by omega)
      have HR1 := Lib.hid (H1.out.below hbl)
      have HR2 := Lib.hid (H2.out.below hbl)
      have hqs := heap_lt hq
      have hq0 := lt_of_cell q1
      have HQ := Lib.hid hq
      have HBL := Lib.hid hbl
      have HFF := Lib.hid (And.intro hf1 hf2)
      obtain ⟨W2, hW2⟩ : ∃ W2, W2 = wr := ⟨_, rfl⟩
      subst hW2
      clear hq hbl hi1 hi2 q1 q2 hf1 hf2
      go_wp2_with fail
      go_loopg [10, 11] (was.length + now.length) (fun gk s10 s11 wx => ∃ (i k : Nat) (vg vc vh : Value) (d : Delta), (was.length - i) + (now.length - k) = gk ∧ i ≤ was.length ∧ k ≤ now.length ∧ s10 = .int .i64 i ∧ s11 = .int .i64 k ∧
        Acc wx W2.heap.size W2.heap.size vg vc vh d ∧ d.app (diffL (was.drop i) (now.drop k)) = diffL was now ∧ d.gone.length ≤ i ∧ d.come.length ≤ k ∧ d.chg.length ≤ i ∧ Below W2.heap.size W2 wx)
      case atStart =>
        exact ⟨0, 0, _, _, _, Delta.nil, by omega, by omega, by omega, rfl, rfl, Acc.nil (heap_alloc_new _ _) (Nat.le_refl _), by rw [List.drop_zero, List.drop_zero, Delta.nil_app], Nat.le_refl _, Nat.le_refl _, Nat.le_refl _, (Below.refl _ _).alloc (Nat.le_refl _) _⟩
      case round =>
        obtain ⟨i, k, vg, vc, vh, d, hgk, hil, hkl, rfl, rfl, hacc, hd, hg1, hg2, hg3, hbx⟩ := hrel
        have hbw : Below w.heap.size w wr := HBL.out.trans (hbx.mono (by omega))
        have hDlt := heap_lt hacc.box
        have d0 := cell_at (o := 0) hacc.box rfl
        have d1 := cell_at (o := 1) hacc.box rfl
        have d2 := cell_at (o := 2) hacc.box rfl
        have hws := hbw.size
        have hxs := hbx.size
        have hwW : w.heap.size ≤ W2.heap.size := by omega
        by_cases hI : i < was.length
        · obtain ⟨a, hai⟩ : ∃ a, was[i]? = some a := ⟨_, List.getElem?_eq_getElem hI⟩
          obtain ⟨b, o, hv, rfl, hzb, hbb, hwfa, hrca, c0, c1⟩ := H1.out.at hai
          obtain ⟨Aa, ca, rfl, hca0, hca00⟩ := hrca.form
          have a0 := hwfa.id0
          have a1 := hwfa.id1
          have e0 := (hbw.cell (p := ⟨b, o + i * 2, none⟩) hbb).trans c0
          clear hzb
          by_cases hK : k < now.length
          · obtain ⟨y, hki⟩ : ∃ y, now[k]? = some y := ⟨_, List.getElem?_eq_getElem hK⟩
            obtain ⟨b2, o2, hv2, rfl, hzb2, hbb2, hwfy, hrcy, x0, x1⟩ := H2.out.at hki
            obtain ⟨Ay, cy, rfl, hcy0, hcy00⟩ := hrcy.form
            have y0 := hwfy.id0
            have y1 := hwfy.id1
            have f0 := (hbw.cell (p := ⟨b2, o2 + k * 2, none⟩) hbb2).trans x0
            clear hzb2
            by_cases hlt : a.id < y.id
            · have hkn : ((k : Int) == now.length) = false := by have : k ≠ now.length := by omega
                                                                 simpa using (show ¬ ((k : Int) = now.length) by omega)
              have hdd := diff_b hai hki hlt
              have KA : Hid (∀ w2, Below w.heap.size w w2 → w2.cell? ⟨b, o + i * 2, none⟩ = some (.int .u32 a.id)) := fun w2 hb => (hb.cell (p := ⟨b, o + i * 2, none⟩) hbb).trans c0
              have KA1 : Hid (∀ w2, Below w.heap.size w w2 → w2.cell? ⟨b, o + i * 2 + 1, none⟩ = some (.slice Aa a.comps.length ca)) := fun w2 hb => (hb.cell (p := ⟨b, o + i * 2 + 1, none⟩) hbb).trans c1
              have HRA := Lib.hid hrca
              have HWA := Lib.hid hwfa
              clear hrca hwfa c0 c1 hai
              have KB : Hid (∀ w2, Below w.heap.size w w2 → w2.cell? ⟨b2, o2 + k * 2, none⟩ = some (.int .u32 y.id) ∧ w2.cell? ⟨b2, o2 + k * 2 + 1, none⟩ = some (.slice Ay y.comps.length cy)) := fun w2 hb => ⟨(hb.cell (p := ⟨b2, o2 + k * 2, none⟩) hbb2).trans x0, (hb.cell (p := ⟨b2, o2 + k * 2 + 1, none⟩) hbb2).trans x1⟩
              have HRY := Lib.hid hrcy
              have HWY := Lib.hid hwfy
              have HLY := Lib.hid (H3.out y (List.mem_of_getElem? hki))
              clear hrcy hwfy x0 x1 hki
              have HACC := Lib.hid hacc
              have HD := Lib.hid hd
              have HDD := Lib.hid hdd
              have HBX := Lib.hid hbx
              have HBW := Lib.hid hbw
              clear hacc hd hdd hbx hbw
              go_wp2_with fail
              go_quiet (fail)
              generalize hW3 : World.drewN wr _ = W3
              have hA3 : Acc W3 W2.heap.size W2.heap.size vg vc vh d := by rw [← hW3]; exact HACC.out.drewN _
              have hX3 : Below W2.heap.size W2 W3 := by rw [← hW3]; exact below_drewN HBX.out _
              have hB3 : Below w.heap.size w W3 := by rw [← hW3]; exact below_drewN HBW.out _
              have e0 := KA.out _ hB3
              have hDlt := heap_lt hA3.box
              have d0 := cell_at (o := 0) hA3.box rfl
              have d1 := cell_at (o := 1) hA3.box rfl
              have d2 := cell_at (o := 2) hA3.box rfl
              have hws := hB3.size
              have hxs := hX3.size
              have HA3 := Lib.hid hA3
              have HX3 := Lib.hid hX3
              have HB3 := Lib.hid hB3
              have HW3 := Lib.hid hW3
              clear hA3 hX3 hB3 hW3 HACC HBX HBW
              go_wp2_with fail
              have hone : ∀ u ∈ [Value.int .u32 a.id], u.oneCell' = true := by intro u hu; rw [List.mem_singleton.1 hu]; rfl
              go_region_law ((refine step_append_grew rfl (.tmp 85) (.tmp 91) 60 rfl 40 (.int .u32 0) 1 4 Try.underlying60 info_id rfl (by decide) W2.heap.size vg d.gone.length (d.gone.map (.int .u32 ·)) rfl (HA3.out.drew.alloc _).g (by simp; omega) ⟨W3.heap.size, 0, none⟩ 1 1 [.int .u32 a.id] rfl rfl (new_row _ [.int .u32 a.id] _ _ rfl) hone (by omega) (by omega) ?_; intro v' w' hm hg hall; obtain ⟨gg, cc, rfl, _⟩ := own_form hm.own (by omega); have hA1 := Acc.goneS (HA3.out.drew.alloc _) ⟨a0, a1⟩ hg hm; have hb1 := hg.below (HA3.out.g.from_) (by simp; omega); have hB1 : Below w.heap.size w w' := (HB3.out.drew.alloc hws _).trans (hb1.mono (by omega)); have hB2 : Below W2.heap.size W2 w' := (HX3.out.drew.alloc hxs _).trans (hb1); have hbD := (hg.block (k := W2.heap.size) (by simp; omega) (own_block_ne HA3.out.g.own HA3.out.box (by decide))).trans ((HA3.out.drew.alloc _).box); have fr := (fun o => unfrozen (o := o) hbD); have q0 := cell_at (o := 0) hbD rfl))
              all_goals
                go_wp2_with fail
                go_roundg (gk - 1)
                case measure => omega
                case rel => exact ⟨i + 1, k, _, _, _, _, by omega, by omega, hkl, by simp, rfl, hA1, by rw [Delta.app_assoc, ← HDD.out]; exact HD.out, by simp [Delta.app]; omega, by simp [Delta.app]; omega, by simp [Delta.app]; omega, hB2.setCell (p := ⟨W2.heap.size, 0, none⟩) (Nat.le_refl _) _⟩
            · by_cases hgt : y.id < a.id
              · have hkn : ((k : Int) == now.length) = false := by have : k ≠ now.length := by omega
                                                                   simpa using (show ¬ ((k : Int) = now.length) by omega)
                have hin : ((i : Int) == was.length) = false := by simpa using (show ¬ ((i : Int) = was.length) by omega)
                have hdd := diff_d hai hki hgt
                have KA : Hid (∀ w2, Below w.heap.size w w2 → w2.cell? ⟨b, o + i * 2, none⟩ = some (.int .u32 a.id)) := fun w2 hb => (hb.cell (p := ⟨b, o + i * 2, none⟩) hbb).trans c0
                have KA1 : Hid (∀ w2, Below w.heap.size w w2 → w2.cell? ⟨b, o + i * 2 + 1, none⟩ = some (.slice Aa a.comps.length ca)) := fun w2 hb => (hb.cell (p := ⟨b, o + i * 2 + 1, none⟩) hbb).trans c1
                have HRA := Lib.hid hrca
                have HWA := Lib.hid hwfa
                clear hrca hwfa c0 c1 hai
                have KB : Hid (∀ w2, Below w.heap.size w w2 → w2.cell? ⟨b2, o2 + k * 2, none⟩ = some (.int .u32 y.id) ∧ w2.cell? ⟨b2, o2 + k * 2 + 1, none⟩ = some (.slice Ay y.comps.length cy)) := fun w2 hb => ⟨(hb.cell (p := ⟨b2, o2 + k * 2, none⟩) hbb2).trans x0, (hb.cell (p := ⟨b2, o2 + k * 2 + 1, none⟩) hbb2).trans x1⟩
                have HRY := Lib.hid hrcy
                have HWY := Lib.hid hwfy
                have HLY := Lib.hid (H3.out y (List.mem_of_getElem? hki))
                clear hrcy hwfy x0 x1 hki
                have HACC := Lib.hid hacc
                have HD := Lib.hid hd
                have HDD := Lib.hid hdd
                have HBX := Lib.hid hbx
                have HBW := Lib.hid hbw
                clear hacc hd hdd hbx hbw
                go_wp2_with fail
                go_quiet (fail)
                generalize hW3 : World.drewN wr _ = W3
                have hA3 : Acc W3 W2.heap.size W2.heap.size vg vc vh d := by rw [← hW3]; exact HACC.out.drewN _
                have hX3 : Below W2.heap.size W2 W3 := by rw [← hW3]; exact below_drewN HBX.out _
                have hB3 : Below w.heap.size w W3 := by rw [← hW3]; exact below_drewN HBW.out _
                have e0 := KA.out _ hB3
                have f0 := (KB.out _ hB3).1
                have f1 := (KB.out _ hB3).2
                have hDlt := heap_lt hA3.box
                have d0 := cell_at (o := 0) hA3.box rfl
                have d1 := cell_at (o := 1) hA3.box rfl
                have d2 := cell_at (o := 2) hA3.box rfl
                have hws := hB3.size
                have hxs := hX3.size
                have HA3 := Lib.hid hA3
                have HX3 := Lib.hid hX3
                have HB3 := Lib.hid hB3
                have HW3 := Lib.hid hW3
                clear hA3 hX3 hB3 hW3 HACC HBX HBW
                go_wp2_with fail
                go_quiet (fail)
                generalize hW4 : World.drewN W3 _ = W4
                have hA4 : Acc W4 W2.heap.size W2.heap.size vg vc vh d := by rw [← hW4]; exact HA3.out.drewN _
                have hX4 : Below W2.heap.size W2 W4 := by rw [← hW4]; exact below_drewN HX3.out _
                have hB4 : Below w.heap.size w W4 := by rw [← hW4]; exact below_drewN HB3.out _
                have e0 := KA.out _ hB4
                have f0 := (KB.out _ hB4).1
                have f1 := (KB.out _ hB4).2
                have hDlt := heap_lt hA4.box
                have d0 := cell_at (o := 0) hA4.box rfl
                have d1 := cell_at (o := 1) hA4.box rfl
                have d2 := cell_at (o := 2) hA4.box rfl
                have hws := hB4.size
                have hxs := hX4.size
                have HA4 := Lib.hid hA4
                have HX4 := Lib.hid hX4
                have HB4 := Lib.hid hB4
                have HW4 := Lib.hid hW4
                clear hA4 hX4 hB4 hW4 HA3 HX3 HB3
                go_wp2_with fail
                obtain ⟨hs, hs1, hs2, hs3⟩ := HA4.out.c
                have HS2 := Lib.hid hs2
                have HHS1 := Lib.hid hs1
                clear hs1 hs2 hs3
                go_region_law (first
                  | (refine step_append_grew rfl (.tmp 115) (.tmp 128) 22 rfl 43 (.agg #[.int .u32 0, .slice none 0 0]) 2 32 Try.underlying22 info_ent rfl (by decide) W2.heap.size vc d.come.length _ rfl (hM1.alloc _) (by simp; omega) ⟨w1.heap.size, 0, none⟩ 1 1 [.int .u32 y.id, .slice A' y.comps.length c'] rfl rfl (new_row _ [.int .u32 y.id, .slice A' y.comps.length c'] _ _ rfl) (by simp [Value.oneCell']) (by omega) (by omega) ?_; intro v' w' hm hg hall; obtain ⟨gg, cc, rfl, _⟩ := own_form hm.own (by omega); have hA2 := Acc.comeS (hA1.alloc _) HWY.out (hrc2.below ((Below.refl _ _).alloc (Nat.le_refl _) _)) hg hall; have hb2 := hg.below hM1.from_ (by simp; omega); have hB2 : Below w.heap.size w w' := (hB1.alloc hB1.size _).trans (hb2.mono (by omega)); have hX2 : Below W2.heap.size W2 w' := (hX1.alloc hX1.size _).trans hb2; have hbD := (hg.block (k := W2.heap.size) (by simp; omega) (own_block_ne hM1.own hA1.box (by decide))).trans ((hA1.alloc _).box); have fr := (fun o => unfrozen (o := o) hbD); have q1 := cell_at (o := 1) hbD rfl)
                  | (go_simp; go_at_call 41; refine (clone_any Z _ y.comps _ (HRY.out.below HB4.out.drew) HLY.out).mono ?_; rintro x w1 ⟨v1, rfl, hrc1, hb1⟩; obtain ⟨A', c', rfl, hc', hc''⟩ := hrc1.form; have hA1 := HA4.out.drew.below hb1; have hB1 : Below w.heap.size w w1 := HB4.out.drew.trans (hb1.mono (by simp; omega)); have hX1 : Below W2.heap.size W2 w1 := HX4.out.drew.trans (hb1.mono (by simp; omega)); have hrc2 := hrc1.anti (Y := dz W2.heap.size W2.heap.size vg vc vh) (fun k _ hk => HA4.out.lt hxs hk); have hM1 := HS2.out.drew.below hb1; have k1 := cell_at (o := 1) hA1.box rfl; have kD1 := heap_lt hA1.box; have kx := hX1.size; obtain ⟨kf0, kf1⟩ := KB.out _ hB1))
                all_goals
                  go_wp2_with fail
                  go_roundg (gk - 1)
                  case measure => omega
                  case rel => exact ⟨i, k + 1, _, _, _, _, by omega, hil, by omega, rfl, by simp, hA2, by rw [Delta.app_assoc, ← HDD.out]; exact HD.out, by simp [Delta.app]; omega, by simp [Delta.app]; omega, by simp [Delta.app]; omega, hX2.setCell (p := ⟨W2.heap.size, 1, none⟩) (Nat.le_refl _) _⟩
              · have hkn : ((k : Int) == now.length) = false := by have : k ≠ now.length := by omega
                                                                   simpa using (show ¬ ((k : Int) = now.length) by omega)
                have hin : ((i : Int) == was.length) = false := by simpa using (show ¬ ((i : Int) = was.length) by omega)
                have hdd := diff_e hai hki (by omega)
                have KA : Hid (∀ w2, Below w.heap.size w w2 → w2.cell? ⟨b, o + i * 2, none⟩ = some (.int .u32 a.id)) := fun w2 hb => (hb.cell (p := ⟨b, o + i * 2, none⟩) hbb).trans c0
                have KA1 : Hid (∀ w2, Below w.heap.size w w2 → w2.cell? ⟨b, o + i * 2 + 1, none⟩ = some (.slice Aa a.comps.length ca)) := fun w2 hb => (hb.cell (p := ⟨b, o + i * 2 + 1, none⟩) hbb).trans c1
                have HRA := Lib.hid hrca
                have HWA := Lib.hid hwfa
                clear hrca hwfa c0 c1 hai
                have KB : Hid (∀ w2, Below w.heap.size w w2 → w2.cell? ⟨b2, o2 + k * 2, none⟩ = some (.int .u32 y.id) ∧ w2.cell? ⟨b2, o2 + k * 2 + 1, none⟩ = some (.slice Ay y.comps.length cy)) := fun w2 hb => ⟨(hb.cell (p := ⟨b2, o2 + k * 2, none⟩) hbb2).trans x0, (hb.cell (p := ⟨b2, o2 + k * 2 + 1, none⟩) hbb2).trans x1⟩
                have HRY := Lib.hid hrcy
                have HWY := Lib.hid hwfy
                have HLY := Lib.hid (H3.out y (List.mem_of_getElem? hki))
                clear hrcy hwfy x0 x1 hki
                have HACC := Lib.hid hacc
                have HD := Lib.hid hd
                have HDD := Lib.hid hdd
                have HBX := Lib.hid hbx
                have HBW := Lib.hid hbw
                clear hacc hd hdd hbx hbw
                go_wp2_with fail
                go_quiet (fail)
                generalize hW3 : World.drewN wr _ = W3
                have hA3 : Acc W3 W2.heap.size W2.heap.size vg vc vh d := by rw [← hW3]; exact HACC.out.drewN _
                have hX3 : Below W2.heap.size W2 W3 := by rw [← hW3]; exact below_drewN HBX.out _
                have hB3 : Below w.heap.size w W3 := by rw [← hW3]; exact below_drewN HBW.out _
                have e0 := KA.out _ hB3
                have f0 := (KB.out _ hB3).1
                have f1 := (KB.out _ hB3).2
                have hDlt := heap_lt hA3.box
                have d0 := cell_at (o := 0) hA3.box rfl
                have d1 := cell_at (o := 1) hA3.box rfl
                have d2 := cell_at (o := 2) hA3.box rfl
                have hws := hB3.size
                have hxs := hX3.size
                have HA3 := Lib.hid hA3
                have HX3 := Lib.hid hX3
                have HB3 := Lib.hid hB3
                have HW3 := Lib.hid hW3
                clear hA3 hX3 hB3 hW3 HACC HBX HBW
                go_wp2_with fail
                go_quiet (fail)
                generalize hW4 : World.drewN W3 _ = W4
                have hA4 : Acc W4 W2.heap.size W2.heap.size vg vc vh d := by rw [← hW4]; exact HA3.out.drewN _
                have hX4 : Below W2.heap.size W2 W4 := by rw [← hW4]; exact below_drewN HX3.out _
                have hB4 : Below w.heap.size w W4 := by rw [← hW4]; exact below_drewN HB3.out _
                have e0 := KA.out _ hB4
                have f0 := (KB.out _ hB4).1
                have f1 := (KB.out _ hB4).2
                have e1 := KA1.out _ hB4
                have hDlt := heap_lt hA4.box
                have d0 := cell_at (o := 0) hA4.box rfl
                have d1 := cell_at (o := 1) hA4.box rfl
                have d2 := cell_at (o := 2) hA4.box rfl
                have hws := hB4.size
                have hxs := hX4.size
                have HA4 := Lib.hid hA4
                have HX4 := Lib.hid hX4
                have HB4 := Lib.hid hB4
                have HW4 := Lib.hid hW4
                clear hA4 hX4 hB4 hW4 HA3 HX3 HB3
                go_upto_region 11 with (fail)
                have KS : Hid (∀ w2, Below w.heap.size w w2 → w2.cell? ⟨b, o + i * 2, none⟩ = some (.int .u32 a.id) ∧ w2.cell? ⟨b, o + i * 2 + 1, none⟩ = some (.slice Aa a.comps.length ca) ∧ w2.cell? ⟨b2, o2 + k * 2, none⟩ = some (.int .u32 y.id) ∧ w2.cell? ⟨b2, o2 + k * 2 + 1, none⟩ = some (.slice Ay y.comps.length cy)) :=
                  fun w2 hb => ⟨KA.out _ hb, KA1.out _ hb, (KB.out _ hb).1, (KB.out _ hb).2⟩
                go_cut [12] (fun s12 wx => ∃ C vn vs, s12 = .pointer (some ⟨C, 0, none⟩) ∧ wx.heap[C]? = some (.cells #[.int .u32 y.id, .int .u8 (lostOf a.comps y.comps), vn, vs] 88 (0, 0)) ∧
                  RC (dz W2.heap.size W2.heap.size vg vc vh) wx vn (newOf a.comps y.comps) ∧ RC (dz W2.heap.size W2.heap.size vg vc vh) wx vs (setOf a.comps y.comps) ∧ Below W4.heap.size W4 wx)
                case first =>
                  go_region_held3 (fun w2 => w2.cell? ⟨b, o + i * 2, none⟩ = some (.int .u32 a.id) ∧ w2.cell? ⟨b, o + i * 2 + 1, none⟩ = some (.slice Aa a.comps.length ca) ∧ w2.cell? ⟨b2, o2 + k * 2, none⟩ = some (.int .u32 y.id) ∧ w2.cell? ⟨b2, o2 + k * 2 + 1, none⟩ = some (.slice Ay y.comps.length cy))
                    (first | exact KS.out _ HB4.out.drew | exact KS.out _ (HB4.out.drew.alloc hws _) | exact KS.out _ hB1 | exact KS.out _ (hB1.alloc hB1.size _) | exact KS.out _ (below4 hB1 hws) | go_keep)
                    (first
                      | (go_at_call 42; refine (change_any Z Z a y _ _ _ HWA.out HWY.out ?_ ?_ HLY.out).mono ?_; (first | exact HRA.out.below HB4.out.drew | exact HRA.out.below (HB4.out.drew.alloc hws _)); (first | exact HRY.out.below HB4.out.drew | exact HRY.out.below (HB4.out.drew.alloc hws _)); rintro x w1 ⟨vn, vs, rfl, hrn, hrs, hb1⟩; obtain ⟨An, cn, rfl, hcn, hcn'⟩ := hrn.form; obtain ⟨As, cs, rfl, hcs, hcs'⟩ := hrs.form; have hY1 : Below W4.heap.size W4 w1 := (by first | exact (Below.refl _ _).drew.trans hb1 | exact ((Below.refl _ _).drew.alloc (Nat.le_refl _) _).trans (hb1.mono (by simp))); have hB1 : Below w.heap.size w w1 := HB4.out.trans (hY1.mono hws); (try (have hD1 : w1.heap[W4.heap.size]? = some (.cells #[.int .u32 0, .int .u8 0, .slice none 0 0, .slice none 0 0] 88 (0, 0)) := (hb1.block _ (by simp)).trans (heap_alloc_new _ _); have fD := (fun o => unfrozen (o := o) hD1); have cD0 := cell_at (o := 0) hD1 rfl; have cD1 := cell_at (o := 1) hD1 rfl; have cD2 := cell_at (o := 2) hD1 rfl; have cD3 := cell_at (o := 3) hD1 rfl))))
                  · go_wp2_with fail
                    go_meet
                    exact ⟨_, _, _, rfl, heap_alloc_new _ _, (hrn.anti fun k _ hk => HA4.out.lt hxs hk).below ((Below.refl _ _).alloc (Nat.le_refl _) _), (hrs.anti fun k _ hk => HA4.out.lt hxs hk).below ((Below.refl _ _).alloc (Nat.le_refl _) _), hY1.alloc hY1.size _⟩
                  · go_wp2_with fail
                    go_meet
                    have hz : ∀ k, dz W2.heap.size W2.heap.size vg vc vh k → k < (W4.drew.alloc (.cells #[.int .u32 0, .int .u8 0, .slice none 0 0, .slice none 0 0] 88)).heap.size := fun k hk => by have := HA4.out.lt hxs hk; simp; omega
                    exact ⟨_, _, _, rfl, set4 hD1, (hrn.stp (stp4 (by simp))).anti (fun k _ hk => hz k hk), (hrs.stp (stp4 (by simp))).anti (fun k _ hk => hz k hk), below4 hY1 (Nat.le_refl _)⟩
                case rest =>
                  obtain ⟨C, vn, vs, rfl, hC, hrn, hrs, hY⟩ := hcut
                  obtain ⟨An, cn, rfl, hcn, hcn'⟩ := hrn.form
                  obtain ⟨As, cs, rfl, hcs, hcs'⟩ := hrs.form
                  have hA5 := HA4.out.below hY
                  have hX5 := HX4.out.trans (hY.mono hxs)
                  have hxs5 := hX5.size
                  have q0 := cell_at (o := 0) hC rfl
                  have q1 := cell_at (o := 1) hC rfl
                  have q2 := cell_at (o := 2) hC rfl
                  have q3 := cell_at (o := 3) hC rfl
                  have hl0 := lostOf_lo a.comps y.comps
                  have hl1 := lostOf_hi a.comps y.comps
                  have HA5 := Lib.hid hA5
                  have HX5 := Lib.hid hX5
                  have HN5 := Lib.hid hrn
                  have HS5 := Lib.hid hrs
                  have HC5 := Lib.hid hC
                  clear hA5 hX5 hrn hrs hY hC
                  cases hno : (changeOf a y).nothing with
                  | true =>
                    have HNO := Lib.hid hno
                    clear hno
                    go_wp2_with fail
                    refine (nothing_any _ _ (changeOf a y) _ _ _ HN5.out HS5.out hl0 hl1).mono ?_
                    rintro x w6 ⟨rfl, hb6⟩
                    rw [HNO.out]
                    have HB6 := Lib.hid hb6
                    clear hb6
                    go_wp2_with fail
                    go_roundg (gk - 2)
                    case measure => omega
                    case rel => exact ⟨i + 1, k + 1, _, _, _, d, by omega, by omega, by omega, by simp, by simp, HA5.out.below HB6.out, by have := HD.out; rw [HDD.out, chgOf, if_pos HNO.out, Delta.nil_app] at this; exact this, by omega, by omega, by omega, HX5.out.trans (HB6.out.mono hxs5)⟩
                  | false =>
                    have HNO := Lib.hid hno
                    clear hno
                    go_wp2_with fail
                    refine (nothing_any _ _ (changeOf a y) _ _ _ HN5.out HS5.out hl0 hl1).mono ?_
                    rintro x w6 ⟨rfl, hb6⟩
                    rw [HNO.out]
                    have hA6 := HA5.out.below hb6
                    have hX6 := HX5.out.trans (hb6.mono hxs5)
                    have hxs6 := hX6.size
                    have hC6 := (hb6.block C (heap_lt HC5.out)).trans HC5.out
                    have p0 := cell_at (o := 0) hC6 rfl
                    have p1 := cell_at (o := 1) hC6 rfl
                    have p2 := cell_at (o := 2) hC6 rfl
                    have p3 := cell_at (o := 3) hC6 rfl
                    have hC6l := heap_lt hC6
                    have hD6l := heap_lt hA6.box
                    have r2 := cell_at (o := 2) hA6.box rfl
                    have hn6 := HN5.out.below hb6
                    have hs6 := HS5.out.below hb6
                    have HN6 := Lib.hid hn6
                    have HS6 := Lib.hid hs6
                    obtain ⟨ps, hp1, hp2, hp3⟩ := hA6.h
                    have HP2 := Lib.hid hp2
                    have HA6 := Lib.hid hA6
                    have HX6 := Lib.hid hX6
                    clear hA6 hX6 hC6 hb6 hn6 hs6 hp1 hp2 hp3 q0 q1 q2 q3
                    go_wp2_with (at_builtin; refine wpl_append_grew2 rfl (.tmp 51) (.tmp 53) 61 rfl 88 (.agg #[.int .u32 0, .int .u8 0, .slice none 0 0, .slice none 0 0]) 4 56 Try.underlying61 info_change rfl (by decide) W2.heap.size vh d.chg.length _ rfl (HP2.out.alloc _) ?hB ⟨w6.heap.size, 0, none⟩ 1 1 [.int .u32 y.id, .int .u8 (lostOf a.comps y.comps), .slice An (newOf a.comps y.comps).length cn, .slice As (setOf a.comps y.comps).length cs] rfl rfl ?hn ?h1 ?c3 ?c4 ?_)
                    case hB => simp; omega
                    case hn => exact new_row _ [.int .u32 y.id, .int .u8 (lostOf a.comps y.comps), .slice An (newOf a.comps y.comps).length cn, .slice As (setOf a.comps y.comps).length cs] _ _ (by simp)
                    case h1 => simp [Value.oneCell']
                    case c3 => omega
                    case c4 => omega
                    intro v' w7 hm hg hall
                    obtain ⟨gg, cc, rfl, _⟩ := own_form hm.own (by omega)
                    have hA7 := Acc.chgS (c := changeOf a y) (HA6.out.alloc _) ⟨y0, y1, hl0, hl1⟩ (HN6.out.below ((Below.refl _ _).alloc (Nat.le_refl _) _)) (HS6.out.below ((Below.refl _ _).alloc (Nat.le_refl _) _)) hg hall
                    have hb7 := hg.below HP2.out.from_ (by simp; omega)
                    have hX7 : Below W2.heap.size W2 w7 := (HX6.out.alloc hxs6 _).trans hb7
                    have hbD := (hg.block (k := W2.heap.size) (by simp; omega) (own_block_ne HP2.out.own HA6.out.box (by decide))).trans ((HA6.out.alloc _).box)
                    have fr := fun o => unfrozen (o := o) hbD
                    have t2 := cell_at (o := 2) hbD rfl
                    have HA7 := Lib.hid hA7
                    have HX7 := Lib.hid hX7
                    clear hA7 hX7 hb7 hbD hm hg hall
                    go_wp2_with fail
                    go_roundg (gk - 2)
                    case measure => omega
                    case rel => exact ⟨i + 1, k + 1, _, _, _, _, by omega, by omega, by omega, by simp, by simp, HA7.out, by have := HD.out; rw [HDD.out, chgOf, if_neg (by rw [HNO.out]; decide)] at this; rw [Delta.app_assoc]; exact this, by simp [Delta.app]; omega, by simp [Delta.app]; omega, by simp [Delta.app]; omega, HX7.out.setCell (p := ⟨W2.heap.size, 2, none⟩) (Nat.le_refl _) _⟩
          · have hkn : ((k : Int) == now.length) = true := by have : k = now.length := by omega
                                                              simp [this]
            have hdd := diff_a (now := now) (k := k) (by omega) hai
            have KA : Hid (∀ w2, Below w.heap.size w w2 → w2.cell? ⟨b, o + i * 2, none⟩ = some (.int .u32 a.id)) := fun w2 hb => (hb.cell (p := ⟨b, o + i * 2, none⟩) hbb).trans c0
            have KA1 : Hid (∀ w2, Below w.heap.size w w2 → w2.cell? ⟨b, o + i * 2 + 1, none⟩ = some (.slice Aa a.comps.length ca)) := fun w2 hb => (hb.cell (p := ⟨b, o + i * 2 + 1, none⟩) hbb).trans c1
            have HRA := Lib.hid hrca
            have HWA := Lib.hid hwfa
            clear hrca hwfa c0 c1 hai
            have HACC := Lib.hid hacc
            have HD := Lib.hid hd
            have HDD := Lib.hid hdd
            have HBX := Lib.hid hbx
            have HBW := Lib.hid hbw
            clear hacc hd hdd hbx hbw
            go_wp2_with fail
            go_quiet (fail)
            generalize hW3 : World.drewN wr _ = W3
            have hA3 : Acc W3 W2.heap.size W2.heap.size vg vc vh d := by rw [← hW3]; exact HACC.out.drewN _
            have hX3 : Below W2.heap.size W2 W3 := by rw [← hW3]; exact below_drewN HBX.out _
            have hB3 : Below w.heap.size w W3 := by rw [← hW3]; exact below_drewN HBW.out _
            have e0 := KA.out _ hB3
            have hDlt := heap_lt hA3.box
            have d0 := cell_at (o := 0) hA3.box rfl
            have d1 := cell_at (o := 1) hA3.box rfl
            have d2 := cell_at (o := 2) hA3.box rfl
            have hws := hB3.size
            have hxs := hX3.size
            have HA3 := Lib.hid hA3
            have HX3 := Lib.hid hX3
            have HB3 := Lib.hid hB3
            have HW3 := Lib.hid hW3
            clear hA3 hX3 hB3 hW3 HACC HBX HBW
            go_wp2_with fail
            have hone : ∀ u ∈ [Value.int .u32 a.id], u.oneCell' = true := by intro u hu; rw [List.mem_singleton.1 hu]; rfl
            go_region_law ((refine step_append_grew rfl (.tmp 85) (.tmp 91) 60 rfl 40 (.int .u32 0) 1 4 Try.underlying60 info_id rfl (by decide) W2.heap.size vg d.gone.length (d.gone.map (.int .u32 ·)) rfl (HA3.out.drew.alloc _).g (by simp; omega) ⟨W3.heap.size, 0, none⟩ 1 1 [.int .u32 a.id] rfl rfl (new_row _ [.int .u32 a.id] _ _ rfl) hone (by omega) (by omega) ?_; intro v' w' hm hg hall; obtain ⟨gg, cc, rfl, _⟩ := own_form hm.own (by omega); have hA1 := Acc.goneS (HA3.out.drew.alloc _) ⟨a0, a1⟩ hg hm; have hb1 := hg.below (HA3.out.g.from_) (by simp; omega); have hB1 : Below w.heap.size w w' := (HB3.out.drew.alloc hws _).trans (hb1.mono (by omega)); have hB2 : Below W2.heap.size W2 w' := (HX3.out.drew.alloc hxs _).trans (hb1); have hbD := (hg.block (k := W2.heap.size) (by simp; omega) (own_block_ne HA3.out.g.own HA3.out.box (by decide))).trans ((HA3.out.drew.alloc _).box); have fr := (fun o => unfrozen (o := o) hbD); have q0 := cell_at (o := 0) hbD rfl))
            all_goals
              go_wp2_with fail
              go_roundg (gk - 1)
              case measure => omega
              case rel => exact ⟨i + 1, k, _, _, _, _, by omega, by omega, hkl, by simp, rfl, hA1, by rw [Delta.app_assoc, ← HDD.out]; exact HD.out, by simp [Delta.app]; omega, by simp [Delta.app]; omega, by simp [Delta.app]; omega, hB2.setCell (p := ⟨W2.heap.size, 0, none⟩) (Nat.le_refl _) _⟩
        · by_cases hK : k < now.length
          · obtain ⟨y, hki⟩ : ∃ y, now[k]? = some y := ⟨_, List.getElem?_eq_getElem hK⟩
            obtain ⟨b2, o2, hv2, rfl, hzb2, hbb2, hwfy, hrcy, x0, x1⟩ := H2.out.at hki
            obtain ⟨Ay, cy, rfl, hcy0, hcy00⟩ := hrcy.form
            have y0 := hwfy.id0
            have y1 := hwfy.id1
            have f0 := (hbw.cell (p := ⟨b2, o2 + k * 2, none⟩) hbb2).trans x0
            clear hzb2
            have hkn : ((k : Int) == now.length) = false := by have : k ≠ now.length := by omega
                                                               simpa using (show ¬ ((k : Int) = now.length) by omega)
            have hin : ((i : Int) == was.length) = true := by have : i = was.length := by omega
                                                              simp [this]
            have hdd := diff_c (was := was) (i := i) (by omega) hki
            have KB : Hid (∀ w2, Below w.heap.size w w2 → w2.cell? ⟨b2, o2 + k * 2, none⟩ = some (.int .u32 y.id) ∧ w2.cell? ⟨b2, o2 + k * 2 + 1, none⟩ = some (.slice Ay y.comps.length cy)) := fun w2 hb => ⟨(hb.cell (p := ⟨b2, o2 + k * 2, none⟩) hbb2).trans x0, (hb.cell (p := ⟨b2, o2 + k * 2 + 1, none⟩) hbb2).trans x1⟩
            have HRY := Lib.hid hrcy
            have HWY := Lib.hid hwfy
            have HLY := Lib.hid (H3.out y (List.mem_of_getElem? hki))
            clear hrcy hwfy x0 x1 hki
            have HACC := Lib.hid hacc
            have HD := Lib.hid hd
            have HDD := Lib.hid hdd
            have HBX := Lib.hid hbx
            have HBW := Lib.hid hbw
            clear hacc hd hdd hbx hbw
            go_wp2_with fail
            go_quiet (fail)
            generalize hW3 : World.drewN wr _ = W3
            have hA3 : Acc W3 W2.heap.size W2.heap.size vg vc vh d := by rw [← hW3]; exact HACC.out.drewN _
            have hX3 : Below W2.heap.size W2 W3 := by rw [← hW3]; exact below_drewN HBX.out _
            have hB3 : Below w.heap.size w W3 := by rw [← hW3]; exact below_drewN HBW.out _
            have f0 := (KB.out _ hB3).1
            have f1 := (KB.out _ hB3).2
            have hDlt := heap_lt hA3.box
            have d0 := cell_at (o := 0) hA3.box rfl
            have d1 := cell_at (o := 1) hA3.box rfl
            have d2 := cell_at (o := 2) hA3.box rfl
            have hws := hB3.size
            have hxs := hX3.size
            have HA3 := Lib.hid hA3
            have HX3 := Lib.hid hX3
            have HB3 := Lib.hid hB3
            have HW3 := Lib.hid hW3
            clear hA3 hX3 hB3 hW3 HACC HBX HBW
            go_wp2_with fail
            go_quiet (fail)
            generalize hW4 : World.drewN W3 _ = W4
            have hA4 : Acc W4 W2.heap.size W2.heap.size vg vc vh d := by rw [← hW4]; exact HA3.out.drewN _
            have hX4 : Below W2.heap.size W2 W4 := by rw [← hW4]; exact below_drewN HX3.out _
            have hB4 : Below w.heap.size w W4 := by rw [← hW4]; exact below_drewN HB3.out _
            have f0 := (KB.out _ hB4).1
            have f1 := (KB.out _ hB4).2
            have hDlt := heap_lt hA4.box
            have d0 := cell_at (o := 0) hA4.box rfl
            have d1 := cell_at (o := 1) hA4.box rfl
            have d2 := cell_at (o := 2) hA4.box rfl
            have hws := hB4.size
            have hxs := hX4.size
            have HA4 := Lib.hid hA4
            have HX4 := Lib.hid hX4
            have HB4 := Lib.hid hB4
            have HW4 := Lib.hid hW4
            clear hA4 hX4 hB4 hW4 HA3 HX3 HB3
            go_wp2_with fail
            obtain ⟨hs, hs1, hs2, hs3⟩ := HA4.out.c
            have HS2 := Lib.hid hs2
            have HHS1 := Lib.hid hs1
            clear hs1 hs2 hs3
            go_region_law (first
              | (refine step_append_grew rfl (.tmp 115) (.tmp 128) 22 rfl 43 (.agg #[.int .u32 0, .slice none 0 0]) 2 32 Try.underlying22 info_ent rfl (by decide) W2.heap.size vc d.come.length _ rfl (hM1.alloc _) (by simp; omega) ⟨w1.heap.size, 0, none⟩ 1 1 [.int .u32 y.id, .slice A' y.comps.length c'] rfl rfl (new_row _ [.int .u32 y.id, .slice A' y.comps.length c'] _ _ rfl) (by simp [Value.oneCell']) (by omega) (by omega) ?_; intro v' w' hm hg hall; obtain ⟨gg, cc, rfl, _⟩ := own_form hm.own (by omega); have hA2 := Acc.comeS (hA1.alloc _) HWY.out (hrc2.below ((Below.refl _ _).alloc (Nat.le_refl _) _)) hg hall; have hb2 := hg.below hM1.from_ (by simp; omega); have hB2 : Below w.heap.size w w' := (hB1.alloc hB1.size _).trans (hb2.mono (by omega)); have hX2 : Below W2.heap.size W2 w' := (hX1.alloc hX1.size _).trans hb2; have hbD := (hg.block (k := W2.heap.size) (by simp; omega) (own_block_ne hM1.own hA1.box (by decide))).trans ((hA1.alloc _).box); have fr := (fun o => unfrozen (o := o) hbD); have q1 := cell_at (o := 1) hbD rfl)
              | (go_simp; go_at_call 41; refine (clone_any Z _ y.comps _ (HRY.out.below HB4.out.drew) HLY.out).mono ?_; rintro x w1 ⟨v1, rfl, hrc1, hb1⟩; obtain ⟨A', c', rfl, hc', hc''⟩ := hrc1.form; have hA1 := HA4.out.drew.below hb1; have hB1 : Below w.heap.size w w1 := HB4.out.drew.trans (hb1.mono (by simp; omega)); have hX1 : Below W2.heap.size W2 w1 := HX4.out.drew.trans (hb1.mono (by simp; omega)); have hrc2 := hrc1.anti (Y := dz W2.heap.size W2.heap.size vg vc vh) (fun k _ hk => HA4.out.lt hxs hk); have hM1 := HS2.out.drew.below hb1; have k1 := cell_at (o := 1) hA1.box rfl; have kD1 := heap_lt hA1.box; have kx := hX1.size; obtain ⟨kf0, kf1⟩ := KB.out _ hB1))
            all_goals
              go_wp2_with fail
              go_roundg (gk - 1)
              case measure => omega
              case rel => exact ⟨i, k + 1, _, _, _, _, by omega, hil, by omega, rfl, by simp, hA2, by rw [Delta.app_assoc, ← HDD.out]; exact HD.out, by simp [Delta.app]; omega, by simp [Delta.app]; omega, by simp [Delta.app]; omega, hX2.setCell (p := ⟨W2.heap.size, 1, none⟩) (Nat.le_refl _) _⟩
          · have hii : i = was.length := by omega
            have hkk : k = now.length := by omega
            subst hii
            subst hkk
            have hdd := diff_z (was := was) (now := now) (Nat.le_refl _) (Nat.le_refl _)
            have hq3 := (hbx.block w.heap.size hqs).trans HQ.out
            have fr := fun o => unfrozen (o := o) hq3
            have e0 := cell_at (o := 0) hq3 rfl
            have e1 := cell_at (o := 1) hq3 rfl
            have e2 := cell_at (o := 2) hq3 rfl
            obtain ⟨Ag, cg, rfl⟩ := hacc.g.form
            obtain ⟨hs, _, hs2, _⟩ := hacc.c
            obtain ⟨Ac, cc, rfl⟩ := hs2.form
            obtain ⟨ps, _, hp2, _⟩ := hacc.h
            obtain ⟨Ah, ch, rfl⟩ := hp2.form
            clear hs2 hp2
            have HACC := Lib.hid hacc
            have HD := Lib.hid hd
            have HDD := Lib.hid hdd
            have HBX := Lib.hid hbx
            have HBW := Lib.hid hbw
            clear hacc hd hdd hbx hbw
            clear hq3
            go_wp2_with fail
            refine bodyPost_ret (v := .tuple #[.agg #[.slice Ag d.gone.length cg, .slice Ac d.come.length cc, .slice Ah d.chg.length ch], .int .i64 0]) (by simp [results, Try.results23, go_sem, e0, e1, e2]) rfl ⟨.agg #[.slice Ag d.gone.length cg, .slice Ac d.come.length cc, .slice Ah d.chg.length ch], ?_, ?_, ?_, Tri.mk ..⟩
            · rw [diffE, ← HF1.out, ← HF2.out, HFF.out.1, HFF.out.2]; simp
            · intro _
              have hd2 : d = diffL was now := by have := HD.out; rw [HDD.out, Delta.app_nil] at this; exact this
              rw [← hd2]
              have hst : Stp (fun k => k < W2.heap.size) wr (fun k => k < W2.heap.size) (((wr.setCell ⟨w.heap.size, 0, none⟩ (.slice Ag d.gone.length cg)).setCell ⟨w.heap.size, 1, none⟩ (.slice Ac d.come.length cc)).setCell ⟨w.heap.size, 2, none⟩ (.slice Ah d.chg.length ch)) :=
                (((Stp.refl _ _).setCell _ _ (Or.inl hqs)).setCell _ _ (Or.inl hqs)).setCell _ _ (Or.inl hqs)
              exact (HACC.out.rd.stp hst).anti fun k _ hk => Nat.lt_of_lt_of_le hk hwW
            · have hb := HBW.out
              exact ((hb.setCell (p := ⟨w.heap.size, 0, none⟩) (Nat.le_refl _) _).setCell (p := ⟨w.heap.size, 1, none⟩) (Nat.le_refl _) _).setCell (p := ⟨w.heap.size, 2, none⟩) (Nat.le_refl _) _
end Go.Proofs.Ytbklglckmhfmcaa
