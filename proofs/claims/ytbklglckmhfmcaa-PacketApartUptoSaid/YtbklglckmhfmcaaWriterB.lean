/- packet.writer: id, comps. -/
import Derived.Test.YtbklglckmhfmcaaWriter
set_option linter.unusedVariables false
set_option linter.unusedSimpArgs false
namespace Go.Proofs.Ytbklglckmhfmcaa
open Go.RowKit
set_option maxRecDepth 100000

def pzd (c b g d : Nat) : Nat → Prop := fun k => pz c b g k ∨ k = d
theorem dz_keep {c b g g' d : Nat} {w w' : World} (h : ¬ pz c b g d) (hs : Stp (pz c b g) w (pz c b g') w') (hd : d < w.heap.size) : ¬ pz c b g' d := by
  intro hk
  rcases hs.zone d hk with h1 | h1
  · exact h h1
  · omega
set_option maxHeartbeats 4000000 in
theorem id_any (c b g d : Nat) (s : WS) (last id : Int) (w : World) (h : PW w c b g s) (hd : w.heap[d]? = some (.cells #[.int .u32 last] 40 (0, 0))) (hdz : ¬ pz c b g d)
    (hl0 : 0 ≤ last) (hl1 : last ≤ 4294967295) (hi0 : 0 ≤ id) (hi1 : id ≤ 4294967295) :
    Calls Try.prog 38 #[.pointer (some ⟨c, 0, none⟩), .pointer (some ⟨d, 0, none⟩), .int .u32 id] w
      fun e w' => e = .returned (.tuple #[]) ∧ ∃ g', PW w' c b g' (s.id last id) ∧ w'.heap[d]? = some (.cells #[.int .u32 id] 40 (0, 0)) ∧ ¬ pz c b g' d ∧ Stp (pzd c b g d) w (pzd c b g' d) w' := by
  have c0 := h.c0
  have d0 : w.cell? ⟨d, 0, none⟩ = some (.int .u32 last) := cell_at hd rfl
  have HH := Lib.hid h
  have HD := Lib.hid hd
  have HDZ := Lib.hid hdz
  have hx : IntKind.u32.wrap (IntKind.u32.wrap (id - last) - 1) = (id - last - 1) % 4294967296 := by simp only [IntKind.wrap_u32]; omega
  have hy : IntKind.u64.wrap ((id - last - 1) % 4294967296) = (id - last - 1) % 4294967296 := IntWalk.u64_in _ (by omega)
  obtain ⟨V, hV⟩ : ∃ V, V = (id - last - 1) % 4294967296 := ⟨_, rfl⟩
  rw [← hV] at hx hy
  have hV0 : 0 ≤ V := by omega
  have hV1 : V < 4294967296 := by omega
  have HV := Lib.hid hV
  clear h hd hdz hV
  go_enter Try.func38, Try.ntmps38
  go_wp2_with fail
  go_region_held3 (fun w2 => w2.cell? ⟨c, 0, none⟩ = some (.pointer (some ⟨b, 0, none⟩)) ∧ w2.cell? ⟨d, 0, none⟩ = some (.int .u32 last)) (first | exact ⟨by assumption, by assumption⟩ | go_keep)
    (first
      | (go_at_call 32; refine (putVar_any b g s.l V _ HH.out.drew.wr hV0 (by omega)).mono ?_; rintro e w1 ⟨rfl, g1, hw1, hs1⟩; obtain ⟨h1, h2⟩ := HH.out.drew.inner hw1 hs1; have k0 := h1.c0; have H2 := Lib.hid h2; have k1 := (h2.cell d 0 (heap_lt HD.out) HDZ.out).trans d0)
      | (go_at_call 20; refine (keep_any c b g1 _ _ _ h1).mono ?_; rintro e w2 ⟨rfl, h3, h4⟩; have k2 := h3.c0; have k3 := (h4.cell d 0 (lt_of_cell k1) (dz_keep HDZ.out H2.out (heap_lt HD.out))).trans k1))
  have hz1 := dz_keep HDZ.out H2.out (heap_lt HD.out)
  have hd1 := (H2.out.block d (heap_lt HD.out) HDZ.out).trans HD.out
  have hd2 := (h4.block d (heap_lt hd1) hz1).trans hd1
  have fd := unfrozen (o := 0) hd2
  have hS := ((Stp.refl (pz c b g) w).drew.trans H2.out).trans h4
  have hlt := heap_lt HD.out
  have HD2 := Lib.hid hd2
  have HS := Lib.hid hS
  have H3 := Lib.hid h3
  have HZ1 := Lib.hid hz1
  clear hd1 hd2 hS h3 h4 h1 hz1 hw1 hs1
  go_wp2_with fail
  go_end0
  have hst : Stp (fun k => k = d) w2 (fun k => k = d) (w2.setCell ⟨d, 0, none⟩ (.int .u32 id)) := (Stp.refl _ _).setCell _ _ (.inl rfl)
  refine ⟨rfl, g1, ?_, ?_, HZ1.out, ?_⟩
  · have h5 : PW (w2.setCell ⟨d, 0, none⟩ (.int .u32 id)) c b g1 _ := H3.out.stp hst (fun e => HZ1.out (.inl e.symm)) (fun e => HZ1.out (.inr (.inl e.symm))) (fun e => HZ1.out (.inr (.inr e.symm)))
    rw [WS.id, ← HV.out]; exact h5
  · simp [World.setCell, Array.getElem?_modify, HD2.out]
  · refine Stp.setCell (HS.out.mono' (Y := pzd c b g d) (Y' := pzd c b g1 d) (fun k hk => Or.inl hk) (fun k hk => ?_)) ⟨d, 0, none⟩ _ (Or.inl (Or.inr rfl))
    rcases hk with hk | hk
    · exact Or.inr hk
    · exact Or.inl (Or.inr hk)

theorem BoxC.all {w : World} {B : Nat} {c : Comp} (h : BoxC w B c) : w.cell? ⟨B, 0, none⟩ = some (.int .u8 c.k) ∧ w.cell? ⟨B, 1 + 0, none⟩ = some (.int .i32 c.f0) ∧ w.cell? ⟨B, 1 + 1, none⟩ = some (.int .i32 c.f1) ∧ w.cell? ⟨B, 1 + 2, none⟩ = some (.int .i32 c.f2) :=
  ⟨h.k, h.f 0 (by omega), h.f 1 (by omega), h.f 2 (by omega)⟩
set_option maxHeartbeats 4000000 in
theorem wcomps_any (c b g : Nat) (s : WS) (Z : Nat → Prop) (v : Value) (l : List Comp) (w : World) (h : PW w c b g s) (hv : RC Z w v l) (hz : ∀ k, pz c b g k → Z k) :
    Calls Try.prog 40 #[.pointer (some ⟨c, 0, none⟩), v] w
      fun e w' => e = .returned (.tuple #[]) ∧ ∃ g', PW w' c b g' (s.comps l) ∧ Stp (pz c b g) w (pz c b g') w' := by
  obtain ⟨A, cap, rfl, hcap1, hcap2⟩ := hv.form
  have HV := Lib.hid hv
  have HH := Lib.hid h
  clear h hv
  go_enter Try.func40, Try.ntmps40
  go_wp2_with fail
  go_loopg [8] l.length (fun gk s8 wx => ∃ i g', i + gk = l.length ∧ s8 = .int .i64 i ∧ PW wx c b g' (s.comps (l.take i)) ∧ Stp (pz c b g) w (pz c b g') wx)
  case atStart => exact ⟨0, g, by omega, rfl, HH.out, .refl _ _⟩
  case round =>
    obtain ⟨i, g', hi, rfl, hpw, hst⟩ := hrel
    by_cases hlt : i < l.length
    · obtain ⟨x, hxi⟩ : ∃ x, l[i]? = some x := ⟨_, List.getElem?_eq_getElem hlt⟩
      obtain ⟨b', o', rfl, hzb, hbl, hwf, c0, c1, c2, c3⟩ := HV.out.at hxi
      have hzz : ¬ pz c b g b' := fun hk => hzb (hz _ hk)
      have d0 := (hst.cell b' (o' + i * 4) hbl hzz).trans c0
      have d1 := (hst.cell b' (o' + i * 4 + 1) hbl hzz).trans c1
      have d2 := (hst.cell b' (o' + i * 4 + 2) hbl hzz).trans c2
      have d3 := (hst.cell b' (o' + i * 4 + 3) hbl hzz).trans c3
      have hxv : x.v = .agg #[.int .u8 x.k, .int .i32 x.f0, .int .i32 x.f1, .int .i32 x.f2] := rfl
      have HXV := Lib.hid hxv
      have HX := Lib.hid hxi
      have HPW := Lib.hid hpw
      have HST := Lib.hid hst
      have HWF := Lib.hid hwf
      have hL : (i : Int) < (l.length : Int) := by omega
      clear c0 c1 c2 c3 hzb hzz hxv hxi hst hwf hpw
      go_wp2_with fail
      have hp1 : PW (wr.alloc (.cells #[.int .u8 x.k, .int .i32 x.f0, .int .i32 x.f1, .int .i32 x.f2] 48)) c b g' (s.comps (l.take i)) := HPW.out.below ((Below.refl _ _).alloc (Nat.le_refl _) _)
      have hb1 : BoxC (wr.alloc (.cells #[.int .u8 x.k, .int .i32 x.f0, .int .i32 x.f1, .int .i32 x.f2] 48)) wr.heap.size x := BoxC.new wr x
      have hs1 : Stp (pz c b g) w (pz c b g') (wr.alloc (.cells #[.int .u8 x.k, .int .i32 x.f0, .int .i32 x.f1, .int .i32 x.f2] 48)) := HST.out.alloc _
      have hbz : ¬ pz c b g' wr.heap.size := by
        have := HPW.out.lt
        rintro (hk | hk | hk) <;> omega
      generalize wr.alloc (.cells #[.int .u8 x.k, .int .i32 x.f0, .int .i32 x.f1, .int .i32 x.f2] 48) = W at *
      obtain ⟨B, hBe⟩ : ∃ B, B = wr.heap.size := ⟨_, rfl⟩
      rw [← hBe] at hb1 hbz
      rw [← hBe]
      have q0 := hp1.c0
      have r0 := hb1.k
      have r1 := hb1.f 0 (by omega)
      have r2 := hb1.f 1 (by omega)
      have r3 := hb1.f 2 (by omega)
      simp only [Comp.f] at r1 r2 r3
      have HP1 := Lib.hid hp1
      have HS1 := Lib.hid hs1
      have HB1 := Lib.hid hb1
      clear hBe d0 d1 d2 d3 hp1 hb1 hs1
      go_region_held3 (fun w2 => w2.cell? ⟨c, 0, none⟩ = some (.pointer (some ⟨b, 0, none⟩)) ∧ w2.cell? ⟨B, 0, none⟩ = some (.int .u8 x.k) ∧ w2.cell? ⟨B, 1 + 0, none⟩ = some (.int .i32 x.f0) ∧ w2.cell? ⟨B, 1 + 1, none⟩ = some (.int .i32 x.f1) ∧ w2.cell? ⟨B, 1 + 2, none⟩ = some (.int .i32 x.f2)) (first | exact ⟨by assumption, by assumption⟩ | go_keep)
        (first
          | (go_at_call 61; rw [← HXV.out]; refine (compPut_any b g' _ x _ HP1.out.drew.wr HWF.out).mono ?_; rintro e w1 ⟨rfl, g1, hw1, hs1⟩; obtain ⟨h1, h2⟩ := HP1.out.drew.inner hw1 hs1; have k0 := h1.c0; have hbx1 : BoxC w1 B x := (h2.block B (heap_lt HB1.out) hbz).trans HB1.out; have k1 := hbx1.all; have H2 := Lib.hid h2)
          | (go_at_call 20; refine (keep_any c b g1 _ _ _ h1).mono ?_; rintro e w2 ⟨rfl, h3, h4⟩; have k2 := h3.c0; have hbx2 : BoxC w2 B x := (h4.block B (heap_lt hbx1) (dz_keep hbz H2.out (heap_lt HB1.out))).trans hbx1; have k3 := hbx2.all))
      have hS := (HS1.out.drew.trans H2.out).trans h4
      have h5 : PW w2 c b g1 (s.comps (l.take (i + 1))) := by rw [take_at HX.out, WS.comps, List.foldl_append]; exact h3
      have H5 := Lib.hid h5
      have HS := Lib.hid hS
      clear h1 h2 h3 h4 h5 hS hbx1 hbx2 k0 k1 k2 k3 hw1 hs1
      go_wp2_with fail
      go_roundg (gk - 1)
      case measure => omega
      case rel => exact ⟨i + 1, g1, by omega, by simp, H5.out, HS.out⟩
    · have hil : i = l.length := by omega
      subst hil
      rw [List.take_length] at hpw
      have hL : ¬ (l.length : Int) < (l.length : Int) := by omega
      have HPW := Lib.hid hpw
      have HST := Lib.hid hst
      clear hi hlt hpw hst
      go_wp2_with fail
      go_end0
      exact ⟨rfl, g', HPW.out, HST.out⟩
end Go.Proofs.Ytbklglckmhfmcaa
