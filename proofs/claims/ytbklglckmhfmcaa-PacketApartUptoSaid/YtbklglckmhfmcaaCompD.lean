/- comp: Put, PutStep. -/
import Derived.Test.YtbklglckmhfmcaaCompC
set_option linter.unusedVariables false
set_option linter.unusedSimpArgs false
namespace Go.Proofs.Ytbklglckmhfmcaa
open Go.RowKit
set_option maxRecDepth 100000

theorem whole_wf (c : Comp) (h : checkE c = 0) : ∀ p ∈ wholeP c, p.wf := by
  intro p hp
  unfold wholeP at hp
  rw [List.mem_map] at hp
  obtain ⟨i, hi, rfl⟩ := hp
  exact field_wf c i h (by simpa using hi)
theorem whole_len (c : Comp) : (wholeP c).length ≤ 3 := by simp [wholeP, cnt_le]
theorem step_wf (was c : Comp) (h : checkE c = 0) : ∀ p ∈ stepP was c, p.wf := by
  intro p hp
  unfold stepP at hp
  rw [List.mem_flatMap] at hp
  obtain ⟨i, hi, hp⟩ := hp
  have hz0 : 0 ≤ moreZ was c i := zig_nonneg _
  have hf := field_wf c i h (by simpa using hi)
  unfold stepI at hp
  split at hp
  · simp at hp; subst hp; exact ⟨by decide, by decide, by decide, by decide⟩
  · split at hp
    · simp at hp
      rcases hp with rfl | rfl
      · exact ⟨by decide, by decide, by decide, by decide⟩
      · rename_i h1 h2
        exact ⟨by show 0 ≤ moreZ was c i - 1; omega, by show (0 : Int) ≤ 4; decide, by show (4 : Int) ≤ 20; decide, by show moreZ was c i - 1 < 2 ^ 4; omega⟩
    · simp at hp
      rcases hp with rfl | rfl | rfl
      · exact ⟨by decide, by decide, by decide, by decide⟩
      · exact ⟨by decide, by decide, by decide, by decide⟩
      · exact hf
theorem step_len (was c : Comp) : (stepP was c).length ≤ 9 := by
  have h1 := steps_len was c (cnt c.k)
  have h2 := cnt_le c.k
  unfold stepP; omega

/-- What a writer says to a component, and its bits then. -/
def compE (l : List Bool) (c : Comp) : Int := if checkE c ≠ 0 then checkE c else putsE l (wholeP c)
def compL (l : List Bool) (c : Comp) : List Bool := if checkE c ≠ 0 then l else putsL l (wholeP c)
def compSE (l : List Bool) (was c : Comp) : Int := if pairE was c ≠ 0 then pairE was c else putsE l (stepP was c)
def compSL (l : List Bool) (was c : Comp) : List Bool := if pairE was c ≠ 0 then l else putsL l (stepP was c)
theorem Wr.below {w w' : World} {b g : Nat} {l : List Bool} (h : Wr w b g l) (hb : Below w.heap.size w w') : Wr w' b g l := h.stp (Stp.of_below (Z := fun _ => False) hb) id id

set_option maxHeartbeats 4000000 in
theorem compPut_any (b g : Nat) (l : List Bool) (c : Comp) (w : World) (h : Wr w b g l) (hc : c.wf) :
    Calls Try.prog 61 #[.pointer (some ⟨b, 0, none⟩), c.v] w
      fun e w' => e = .returned (.int .i64 (compE l c)) ∧ ∃ g', Wr w' b g' (compL l c) ∧ Stp (zn b g) w (zn b g') w' := by
  have hcv : c.v = .agg #[.int .u8 c.k, .int .i32 c.f0, .int .i32 c.f1, .int .i32 c.f2] := rfl
  have HCV := Lib.hid hcv
  have hlt := h.lt
  rw [hcv]
  clear hcv
  go_enter Try.func61, Try.ntmps61
  go_wp2_with fail
  rw [← HCV.out]
  refine (check_any c _ hc).mono ?_
  rintro e w1 ⟨rfl, hb⟩
  have hbc : BoxC w1 w.heap.size c := (BoxC.new w c).below hb
  have hB : Below w.heap.size w w1 := ((Below.refl _ _).alloc (Nat.le_refl _) _).trans (hb.mono (by simp))
  have HB := Lib.hid hB
  have HW := Lib.hid h
  have d0 := hbc.k
  have d1 := hbc.f 0 (by omega)
  have d2 := hbc.f 1 (by omega)
  have d3 := hbc.f 2 (by omega)
  simp only [Comp.f] at d1 d2 d3
  clear hb hB hbc h
  by_cases e1 : checkE c = 0
  · have f1 : (checkE c != 0) = false := by simp [e1]
    have he : compE l c = putsE l (wholeP c) := if_neg (by simp [e1])
    have hl : compL l c = putsL l (wholeP c) := if_neg (by simp [e1])
    have E1 := Lib.hid e1
    have HE := Lib.hid he
    have HL := Lib.hid hl
    clear e1 he hl
    go_wp2_with fail
    rw [← HCV.out]
    refine (whole_any c _ hc E1.out).mono ?_
    rintro e w2 ⟨v, rfl, hv, hb2⟩
    have hW2 := (HW.out.below HB.out).below hb2
    have HW2 := Lib.hid hW2
    have HV := Lib.hid hv
    have HB2 := Lib.hid hb2
    have hsz := HB.out.size
    obtain ⟨A, cap, rfl, _⟩ := hv.form
    clear hv hb2 hW2 d0 d1 d2 d3
    go_wp2_with fail
    refine (puts_any b g l _ _ (wholeP c) _ HW2.out HV.out (fun k hk => by rcases hk with rfl | rfl <;> omega) (whole_wf c E1.out) (by have := whole_len c; omega)).mono ?_
    rintro e w3 ⟨rfl, g3, hw3, hs3⟩
    go_wp2_with fail
    go_ret
    rw [HE.out, HL.out]
    exact ⟨rfl, g3, hw3, (Stp.of_below (HB.out.trans (HB2.out.mono HB.out.size))).trans hs3⟩
  · have f1 : (checkE c != 0) = true := by simpa using e1
    have he : compE l c = checkE c := if_pos e1
    have hl : compL l c = l := if_pos e1
    have HE := Lib.hid he
    have HL := Lib.hid hl
    clear e1 he hl
    go_wp2_with fail
    go_ret
    rw [HE.out, HL.out]
    exact ⟨rfl, g, HW.out.below HB.out, .of_below HB.out⟩

set_option maxHeartbeats 4000000 in
theorem compPutStep_any (b g : Nat) (l : List Bool) (was c : Comp) (w : World) (h : Wr w b g l) (h1 : was.wf) (hc : c.wf) :
    Calls Try.prog 44 #[.pointer (some ⟨b, 0, none⟩), was.v, c.v] w
      fun e w' => e = .returned (.int .i64 (compSE l was c)) ∧ ∃ g', Wr w' b g' (compSL l was c) ∧ Stp (zn b g) w (zn b g') w' := by
  have hcv : c.v = .agg #[.int .u8 c.k, .int .i32 c.f0, .int .i32 c.f1, .int .i32 c.f2] := rfl
  have hwv : was.v = .agg #[.int .u8 was.k, .int .i32 was.f0, .int .i32 was.f1, .int .i32 was.f2] := rfl
  have HCV := Lib.hid hcv
  have HWV := Lib.hid hwv
  have hlt := h.lt
  rw [hcv, hwv]
  clear hcv hwv
  go_enter Try.func44, Try.ntmps44
  go_wp2_with fail
  rw [← HCV.out, ← HWV.out]
  refine (pair_any was c _ h1 hc).mono ?_
  rintro e w1 ⟨rfl, hb⟩
  have hbx : BoxC w1 w.heap.size was := ((BoxC.new w was).below ((Below.refl _ _).alloc (Nat.le_refl _) _)).below hb
  have hbc : BoxC w1 (w.heap.size + 1) c := by
    have h0 := BoxC.new (w.alloc (.cells #[.int .u8 was.k, .int .i32 was.f0, .int .i32 was.f1, .int .i32 was.f2] 48)) c
    rw [show (w.alloc (.cells #[.int .u8 was.k, .int .i32 was.f0, .int .i32 was.f1, .int .i32 was.f2] 48)).heap.size = w.heap.size + 1 by simp] at h0
    exact h0.below hb
  have hB : Below w.heap.size w w1 := (((Below.refl _ _).alloc (Nat.le_refl _) _).alloc (by simp) _).trans (hb.mono (by simp; omega))
  have HB := Lib.hid hB
  have HW := Lib.hid h
  have c0 := hbx.k
  have c1 := hbx.f 0 (by omega)
  have c2 := hbx.f 1 (by omega)
  have c3 := hbx.f 2 (by omega)
  have d0 := hbc.k
  have d1 := hbc.f 0 (by omega)
  have d2 := hbc.f 1 (by omega)
  have d3 := hbc.f 2 (by omega)
  simp only [Comp.f] at c1 c2 c3 d1 d2 d3
  clear hb hB hbc hbx h
  by_cases e1 : pairE was c = 0
  · have hck : checkE c = 0 := by
      unfold pairE at e1
      split at e1
      · omega
      · split at e1
        · omega
        · rename_i h3; simpa using h3
    have f1 : (pairE was c != 0) = false := by simp [e1]
    have he : compSE l was c = putsE l (stepP was c) := if_neg (by simp [e1])
    have hl : compSL l was c = putsL l (stepP was c) := if_neg (by simp [e1])
    have E1 := Lib.hid hck
    have HE := Lib.hid he
    have HL := Lib.hid hl
    clear e1 he hl hck
    go_wp2_with fail
    rw [← HCV.out, ← HWV.out]
    refine (step_any was c _ h1 hc E1.out).mono ?_
    rintro e w2 ⟨v, rfl, hv, hb2⟩
    have hW2 := (HW.out.below HB.out).below hb2
    have HW2 := Lib.hid hW2
    have HV := Lib.hid hv
    have HB2 := Lib.hid hb2
    have hsz := HB.out.size
    obtain ⟨A, cap, rfl, _⟩ := hv.form
    clear hv hb2 hW2 c0 c1 c2 c3 d0 d1 d2 d3
    go_wp2_with fail
    refine (puts_any b g l _ _ (stepP was c) _ HW2.out HV.out (fun k hk => by rcases hk with rfl | rfl <;> omega) (step_wf was c E1.out) (by have := step_len was c; omega)).mono ?_
    rintro e w3 ⟨rfl, g3, hw3, hs3⟩
    go_wp2_with fail
    go_ret
    rw [HE.out, HL.out]
    exact ⟨rfl, g3, hw3, (Stp.of_below (HB.out.trans (HB2.out.mono HB.out.size))).trans hs3⟩
  · have f1 : (pairE was c != 0) = true := by simpa using e1
    have he : compSE l was c = pairE was c := if_pos e1
    have hl : compSL l was c = l := if_pos e1
    have HE := Lib.hid he
    have HL := Lib.hid hl
    clear e1 he hl
    go_wp2_with fail
    go_ret
    rw [HE.out, HL.out]
    exact ⟨rfl, g, HW.out.below HB.out, .of_below HB.out⟩
end Go.Proofs.Ytbklglckmhfmcaa
