/- packet.writer.head. (Printed by wip/tools/mk_headb.py.) -/
import Derived.Test.YtbklglckmhfmcaaHead
set_option linter.unusedVariables false
set_option linter.unusedSimpArgs false
namespace Go.Proofs.Ytbklglckmhfmcaa
open Go.RowKit
set_option maxRecDepth 100000

theorem WS.head_var (s : WS) (v : Int) : (⟨s.e, putVarL s.l v⟩ : WS).keep (putVarE s.l v) = s.var v := rfl
theorem WS.head_in (s : WS) (n lo hi : Int) : (⟨s.e, putInL s.l n lo hi⟩ : WS).keep (putInE s.l n lo hi) = s.inn n lo hi := rfl
def headCells (h : Head) : Array Value := #[.int .u8 h.kind, .int .u8 h.client, .int .u32 h.epoch, .int .u32 h.tick, .int .u32 h.base]
set_option maxHeartbeats 8000000 in
theorem head_any (c b g : Nat) (s : WS) (h : Head) (w : World) (hp : PW w c b g s) (hw : h.wf) :
    Calls Try.prog 19 #[.pointer (some ⟨c, 0, none⟩), h.v] w
      fun e w' => e = .returned (.tuple #[]) ∧ ∃ g', PW w' c b g' (s.head h) ∧ Stp (pz c b g) w (pz c b g') w' := by
  obtain ⟨k0, k1, c0', c1', e0, e1, t0, t1, b0, b1⟩ := hw
  have x1 : IntKind.i64.wrap h.kind = h.kind := IntWalk.i64_in _ (by omega)
  have x2 : IntKind.i64.wrap h.client = h.client := IntWalk.i64_in _ (by omega)
  have x3 : IntKind.u64.wrap h.epoch = h.epoch := IntWalk.u64_in _ (by omega)
  have x4 : IntKind.u64.wrap h.tick = h.tick := IntWalk.u64_in _ (by omega)
  have x5 : IntKind.u32.wrap (IntKind.u32.wrap (h.tick - h.base) - 1) = (h.tick - h.base - 1) % 4294967296 := by simp only [IntKind.wrap_u32]; omega
  have x6 : IntKind.u64.wrap ((h.tick - h.base - 1) % 4294967296) = (h.tick - h.base - 1) % 4294967296 := IntWalk.u64_in _ (by omega)
  obtain ⟨V, hV⟩ : ∃ V, V = (h.tick - h.base - 1) % 4294967296 := ⟨_, rfl⟩
  rw [← hV] at x5 x6
  have hV0 : 0 ≤ V := by omega
  have hV1 : V < 4294967296 := by omega
  obtain ⟨s3, hs3⟩ : ∃ s3, s3 = ((s.inn h.kind 1 5).inn h.client 0 15).var h.epoch := ⟨_, rfl⟩
  have HV := Lib.hid hV
  have HS3 := Lib.hid hs3
  have HP := Lib.hid hp
  have cp := hp.c0
  have hlt := hp.lt
  clear hV hs3 hp
  unfold Head.v
  go_enter Try.func19, Try.ntmps19
  go_wp2_with fail
  -- the box
  obtain ⟨D, hD⟩ : ∃ D, D = w.heap.size := ⟨_, rfl⟩
  have hbx0 : (w.alloc (.cells #[.int .u8 h.kind, .int .u8 h.client, .int .u32 h.epoch, .int .u32 h.tick, .int .u32 h.base] 28)).heap[D]? = some (.cells #[.int .u8 h.kind, .int .u8 h.client, .int .u32 h.epoch, .int .u32 h.tick, .int .u32 h.base] 28 (0, 0)) := by rw [hD]; exact heap_alloc_new _ _
  have hz0 : ¬ pz c b g D := by rintro (e | e | e) <;> omega
  have hst0 : Stp (pz c b g) w (pz c b g) (w.alloc (.cells #[.int .u8 h.kind, .int .u8 h.client, .int .u32 h.epoch, .int .u32 h.tick, .int .u32 h.base] 28)) := (Stp.refl _ _).alloc _
  have hp0 : PW (w.alloc (.cells #[.int .u8 h.kind, .int .u8 h.client, .int .u32 h.epoch, .int .u32 h.tick, .int .u32 h.base] 28)) c b g s := HP.out.below ((Below.refl _ _).alloc (Nat.le_refl _) _)
  generalize w.alloc (.cells #[.int .u8 h.kind, .int .u8 h.client, .int .u32 h.epoch, .int .u32 h.tick, .int .u32 h.base] 28) = W0 at *
  simp only [← hD]
  clear hD
  have cp0 := hp0.c0
  have m0 := cell_at (o := 0) hbx0 rfl
  have m1 := cell_at (o := 1) hbx0 rfl
  have m2 := cell_at (o := 2) hbx0 rfl
  have m3 := cell_at (o := 3) hbx0 rfl
  have m4 := cell_at (o := 4) hbx0 rfl
  have HP0 := Lib.hid hp0
  have HB0 := Lib.hid hbx0
  have HZ0 := Lib.hid hz0
  have HT0 := Lib.hid hst0
  clear hp0 hbx0 hz0 hst0
  go_wp2_with fail
  go_region_held3 (fun w2 => w2.cell? ⟨c, 0, none⟩ = some (.pointer (some ⟨b, 0, none⟩)) ∧ w2.cell? ⟨D, 0, none⟩ = some (.int .u8 h.kind)) (first | exact ⟨by assumption, by assumption⟩ | go_keep)
    (first
      | (go_at_call 31; refine (putIn_any b g (s).l h.kind 1 5 _ HP0.out.drew.wr (by omega) (by omega) (by omega) (by omega) (by omega)).mono ?_; rintro e w1a ⟨rfl, g1, hw1, hs1⟩; obtain ⟨h1, h2⟩ := HP0.out.drew.inner hw1 hs1; have k0 := h1.c0; have H2 := Lib.hid h2; have ma0 := (h2.cell D 0 (heap_lt HB0.out) HZ0.out).trans m0)
      | (go_at_call 20; refine (keep_any c b g1 _ _ _ h1).mono ?_; rintro e w1 ⟨rfl, h3, h4⟩; have k2 := h3.c0; have mb0 := (h4.cell D 0 (lt_of_cell ma0) (dz_keep HZ0.out H2.out (heap_lt HB0.out))).trans ma0))
  have hz1 := dz_keep HZ0.out H2.out (heap_lt HB0.out)
  have hbx1 := (h4.block D (lt_of_cell ma0) hz1).trans ((H2.out.block D (heap_lt HB0.out) HZ0.out).trans HB0.out)
  have hst1 : Stp (pz c b g) w (pz c b g1) w1 := (HT0.out.trans ((Stp.refl (pz c b g) W0).drew.trans H2.out)).trans h4
  have hp1 : PW w1 c b g1 (s.inn h.kind 1 5) := h3
  clear h1 h2 H2 h3 h4 hw1 hs1 k0 k2 ma0 mb0
  have cp1 := hp1.c0
  have m0 := cell_at (o := 0) hbx1 rfl
  have m1 := cell_at (o := 1) hbx1 rfl
  have m2 := cell_at (o := 2) hbx1 rfl
  have m3 := cell_at (o := 3) hbx1 rfl
  have m4 := cell_at (o := 4) hbx1 rfl
  have HP1 := Lib.hid hp1
  have HB1 := Lib.hid hbx1
  have HZ1 := Lib.hid hz1
  have HT1 := Lib.hid hst1
  clear hp1 hbx1 hz1 hst1
  go_wp2_with fail
  go_region_held3 (fun w2 => w2.cell? ⟨c, 0, none⟩ = some (.pointer (some ⟨b, 0, none⟩)) ∧ w2.cell? ⟨D, 1, none⟩ = some (.int .u8 h.client)) (first | exact ⟨by assumption, by assumption⟩ | go_keep)
    (first
      | (go_at_call 31; refine (putIn_any b g1 (s.inn h.kind 1 5).l h.client 0 15 _ HP1.out.drew.wr (by omega) (by omega) (by omega) (by omega) (by omega)).mono ?_; rintro e w2a ⟨rfl, g2, hw1, hs1⟩; obtain ⟨h1, h2⟩ := HP1.out.drew.inner hw1 hs1; have k0 := h1.c0; have H2 := Lib.hid h2; have ma1 := (h2.cell D 1 (heap_lt HB1.out) HZ1.out).trans m1)
      | (go_at_call 20; refine (keep_any c b g2 _ _ _ h1).mono ?_; rintro e w2 ⟨rfl, h3, h4⟩; have k2 := h3.c0; have mb1 := (h4.cell D 1 (lt_of_cell ma1) (dz_keep HZ1.out H2.out (heap_lt HB1.out))).trans ma1))
  have hz2 := dz_keep HZ1.out H2.out (heap_lt HB1.out)
  have hbx2 := (h4.block D (lt_of_cell ma1) hz2).trans ((H2.out.block D (heap_lt HB1.out) HZ1.out).trans HB1.out)
  have hst2 : Stp (pz c b g) w (pz c b g2) w2 := (HT1.out.trans ((Stp.refl (pz c b g1) w1).drew.trans H2.out)).trans h4
  have hp2 : PW w2 c b g2 ((s.inn h.kind 1 5).inn h.client 0 15) := h3
  clear h1 h2 H2 h3 h4 hw1 hs1 k0 k2 ma1 mb1
  have cp2 := hp2.c0
  have m0 := cell_at (o := 0) hbx2 rfl
  have m1 := cell_at (o := 1) hbx2 rfl
  have m2 := cell_at (o := 2) hbx2 rfl
  have m3 := cell_at (o := 3) hbx2 rfl
  have m4 := cell_at (o := 4) hbx2 rfl
  have HP2 := Lib.hid hp2
  have HB2 := Lib.hid hbx2
  have HZ2 := Lib.hid hz2
  have HT2 := Lib.hid hst2
  clear hp2 hbx2 hz2 hst2
  go_wp2_with fail
  go_region_held3 (fun w2 => w2.cell? ⟨c, 0, none⟩ = some (.pointer (some ⟨b, 0, none⟩)) ∧ w2.cell? ⟨D, 2, none⟩ = some (.int .u32 h.epoch)) (first | exact ⟨by assumption, by assumption⟩ | go_keep)
    (first
      | (go_at_call 32; refine (putVar_any b g2 ((s.inn h.kind 1 5).inn h.client 0 15).l h.epoch _ HP2.out.drew.wr (by omega) (by omega)).mono ?_; rintro e w3a ⟨rfl, g3, hw1, hs1⟩; obtain ⟨h1, h2⟩ := HP2.out.drew.inner hw1 hs1; have k0 := h1.c0; have H2 := Lib.hid h2; have ma2 := (h2.cell D 2 (heap_lt HB2.out) HZ2.out).trans m2)
      | (go_at_call 20; refine (keep_any c b g3 _ _ _ h1).mono ?_; rintro e w3 ⟨rfl, h3, h4⟩; have k2 := h3.c0; have mb2 := (h4.cell D 2 (lt_of_cell ma2) (dz_keep HZ2.out H2.out (heap_lt HB2.out))).trans ma2))
  have hz3 := dz_keep HZ2.out H2.out (heap_lt HB2.out)
  have hbx3 := (h4.block D (lt_of_cell ma2) hz3).trans ((H2.out.block D (heap_lt HB2.out) HZ2.out).trans HB2.out)
  have hst3 : Stp (pz c b g) w (pz c b g3) w3 := (HT2.out.trans ((Stp.refl (pz c b g2) w2).drew.trans H2.out)).trans h4
  have hp3 : PW w3 c b g3 s3 := by rw [HS3.out]; exact h3
  clear h1 h2 H2 h3 h4 hw1 hs1 k0 k2 ma2 mb2
  have cp3 := hp3.c0
  have m0 := cell_at (o := 0) hbx3 rfl
  have m1 := cell_at (o := 1) hbx3 rfl
  have m2 := cell_at (o := 2) hbx3 rfl
  have m3 := cell_at (o := 3) hbx3 rfl
  have m4 := cell_at (o := 4) hbx3 rfl
  have HP3 := Lib.hid hp3
  have HB3 := Lib.hid hbx3
  have HZ3 := Lib.hid hz3
  have HT3 := Lib.hid hst3
  clear hp3 hbx3 hz3 hst3
  by_cases hk : h.kind ≤ 3
  · go_wp2_with fail
    refine (plain_any c b g3 s3 h.tick 32 _ HP3.out (by omega) (by omega) (by omega) (by omega)).mono ?_
    rintro x w4 ⟨rfl, g4, hp4, hs4⟩
    have hz4 := dz_keep HZ3.out hs4 (heap_lt HB3.out)
    have hbx4 := (hs4.block D (heap_lt HB3.out) HZ3.out).trans HB3.out
    have hst4 : Stp (pz c b g) w (pz c b g4) w4 := HT3.out.trans hs4
    clear hs4
    have cp4 := hp4.c0
    have m0 := cell_at (o := 0) hbx4 rfl
    have m1 := cell_at (o := 1) hbx4 rfl
    have m2 := cell_at (o := 2) hbx4 rfl
    have m3 := cell_at (o := 3) hbx4 rfl
    have m4 := cell_at (o := 4) hbx4 rfl
    have HP4 := Lib.hid hp4
    have HB4 := Lib.hid hbx4
    have HZ4 := Lib.hid hz4
    have HT4 := Lib.hid hst4
    clear hp4 hbx4 hz4 hst4
    by_cases hs : h.kind = 2
    · have hs1 : (h.kind == 2) = true := by simp [hs]
      have HSS := Lib.hid hs
      clear hs
      go_wp2_with fail
      go_region_held3 (fun w2 => w2.cell? ⟨c, 0, none⟩ = some (.pointer (some ⟨b, 0, none⟩)) ∧ w2.cell? ⟨D, 3, none⟩ = some (.int .u32 h.tick) ∧ w2.cell? ⟨D, 4, none⟩ = some (.int .u32 h.base)) (first | exact ⟨by assumption, by assumption, by assumption⟩ | go_keep)
        (first
          | (go_at_call 32; refine (putVar_any b g4 (s3.put h.tick 32).l V _ HP4.out.drew.wr (by omega) (by omega)).mono ?_; rintro e w5a ⟨rfl, g5, hw1, hs1⟩; obtain ⟨h1, h2⟩ := HP4.out.drew.inner hw1 hs1; have k0 := h1.c0; have H2 := Lib.hid h2; have ma3 := (h2.cell D 3 (heap_lt HB4.out) HZ4.out).trans m3; have ma4 := (h2.cell D 4 (heap_lt HB4.out) HZ4.out).trans m4)
          | (go_at_call 20; refine (keep_any c b g5 _ _ _ h1).mono ?_; rintro e w5 ⟨rfl, h3, h4⟩; have k2 := h3.c0; have mb3 := (h4.cell D 3 (lt_of_cell ma3) (dz_keep HZ4.out H2.out (heap_lt HB4.out))).trans ma3; have mb4 := (h4.cell D 4 (lt_of_cell ma4) (dz_keep HZ4.out H2.out (heap_lt HB4.out))).trans ma4))
      have hz5 := dz_keep HZ4.out H2.out (heap_lt HB4.out)
      have hbx5 := (h4.block D (lt_of_cell ma3) hz5).trans ((H2.out.block D (heap_lt HB4.out) HZ4.out).trans HB4.out)
      have hst5 : Stp (pz c b g) w (pz c b g5) w5 := (HT4.out.trans ((Stp.refl (pz c b g4) w4).drew.trans H2.out)).trans h4
      have hp5 : PW w5 c b g5 ((s3.put h.tick 32).var V) := h3
      clear h1 h2 H2 h3 h4 hw1 hs1 k0 k2 ma3 mb3 ma4 mb4
      have cp5 := hp5.c0
      have m0 := cell_at (o := 0) hbx5 rfl
      have m1 := cell_at (o := 1) hbx5 rfl
      have m2 := cell_at (o := 2) hbx5 rfl
      have m3 := cell_at (o := 3) hbx5 rfl
      have m4 := cell_at (o := 4) hbx5 rfl
      have HP5 := Lib.hid hp5
      have HB5 := Lib.hid hbx5
      have HZ5 := Lib.hid hz5
      have HT5 := Lib.hid hst5
      clear hp5 hbx5 hz5 hst5
      go_wp2_with fail
      go_end0
      refine ⟨rfl, _, ?_, HT5.out⟩
      simp only [WS.head, ← HS3.out, ← HV.out]
      rw [if_pos hk, if_pos HSS.out]; exact HP5.out
    · have hs1 : (h.kind == 2) = false := by simp [hs]
      have HSS := Lib.hid hs
      clear hs
      go_wp2_with fail
      go_end0
      refine ⟨rfl, _, ?_, HT4.out⟩
      simp only [WS.head, ← HS3.out, ← HV.out]
      rw [if_pos hk, if_neg HSS.out]; exact HP4.out
  · have hs1 : (h.kind == 2) = false := by simpa using (show ¬ h.kind = 2 by omega)
    go_wp2_with fail
    go_end0
    refine ⟨rfl, _, ?_, HT3.out⟩
    simp only [WS.head, ← HS3.out, ← HV.out]
    rw [if_neg (show ¬ h.kind ≤ 3 by omega), if_neg (show ¬ h.kind = 2 by omega)]; exact HP3.out
end Go.Proofs.Ytbklglckmhfmcaa
