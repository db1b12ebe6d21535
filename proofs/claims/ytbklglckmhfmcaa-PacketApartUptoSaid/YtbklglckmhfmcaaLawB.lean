/- pinnacelaw20.PacketShort: the walk. -/
import Derived.Test.YtbklglckmhfmcaaLawA
import Derived.Test.YtbklglckmhfmcaaPlainC
set_option linter.unusedVariables false
set_option linter.unusedSimpArgs false
namespace Go.Proofs.Ytbklglckmhfmcaa
open Go.RowKit
set_option maxRecDepth 100000

set_option maxHeartbeats 16000000 in
theorem lshort_any (Z : Nat → Prop) (v : Value) (was : List Ent) (t : Int) (w : World) (h : RE Z w v was) (hs : fewN was ≤ 1000000000000) (t0 : 0 ≤ t) (t1 : t ≤ 4294967295) :
    Calls Try.prog 3 #[v, .int .u32 t] w fun e w' => e = .returned (.bool true) ∧ Below w.heap.size w w' := by
  obtain ⟨A, cap, rfl, hca, hca'⟩ := h.form
  have HH := Lib.hid h
  have HS := Lib.hid hs
  clear h hs
  go_enter Try.func3, Try.ntmps3
  go_wp2_with fail
  refine (awake_any _).mono ?_
  rintro e w1 ⟨rfl, hb1⟩
  have h1 := HH.out.below hb1
  have H1 := Lib.hid h1
  have HB1 := Lib.hid hb1
  clear h1 hb1
  go_wp2_with fail
  refine (rfew_any _ _ was _ H1.out HS.out).mono ?_
  rintro e w2 ⟨rfl, hb2⟩
  have h2 := H1.out.below hb2
  have hb2' := HB1.out.trans (hb2.mono HB1.out.size)
  have H2 := Lib.hid h2
  have HB2 := Lib.hid hb2'
  clear h2 hb2 hb2'
  by_cases hf : fewN was ≤ 400
  · rw [decide_eq_true hf]
    have HF := Lib.hid hf
    clear hf
    go_wp2_with fail
    refine (rform_any _ _ was _ H2.out).mono ?_
    rintro e w3 ⟨rfl, hb3⟩
    have h3 := H2.out.below hb3
    have hb3' := HB2.out.trans (hb3.mono HB2.out.size)
    have H3 := Lib.hid h3
    have HB3 := Lib.hid hb3'
    clear h3 hb3 hb3'
    by_cases hfo : formE was = 0
    · have hfo1 : (formE was != 0) = false := by simp [hfo]
      have HFO := Lib.hid hfo
      clear hfo
      by_cases ht : t = 0
      · have ht1 : (t == 0) = true := by simp [ht]
        clear ht
        go_wp2_with fail
        go_ret
        exact ⟨rfl, HB3.out⟩
      · have ht1 : (t == 0) = false := by simp [ht]
        have htp : 0 < t := by omega
        have hw1 : IntKind.u32.wrap (t - 1) = t - 1 := IntWalk.u32_in _ (by omega)
        have hsh := short htp t1 HFO.out
        have hhwf : (⟨2, 0, 1, t, t - 1⟩ : Head).wf := by constructor <;> dsimp only <;> omega
        have HSH := Lib.hid hsh
        have HW := Lib.hid hhwf
        obtain ⟨hl1, hl2⟩ := few_len HF.out
        have HL2 := Lib.hid hl2
        clear ht hsh hhwf hl2
        go_wp2_with fail
        have hbX : Below w3.heap.size w3 (w3.alloc (.cells #[.int .u8 2, .int .u8 0, .int .u32 1, .int .u32 t, .int .u32 (t - 1)] 28)) := (Below.refl _ _).alloc (Nat.le_refl _) _
        have hX0 := heap_alloc_new w3 (.cells #[.int .u8 2, .int .u8 0, .int .u32 1, .int .u32 t, .int .u32 (t - 1)] 28)
        have hr := H3.out.below hbX
        have hbA := HB3.out.trans (hbX.mono HB3.out.size)
        obtain ⟨X, hX⟩ : ∃ X, X = w3.heap.size := ⟨_, rfl⟩
        rw [← hX] at hX0
        simp only [← hX]
        generalize w3.alloc (.cells #[.int .u8 2, .int .u8 0, .int .u32 1, .int .u32 t, .int .u32 (t - 1)] 28) = W1 at *
        have hXl := heap_lt hX0
        have K : Hid (∀ w2, Below W1.heap.size W1 w2 → w2.cell? ⟨X, 0, none⟩ = some (.int .u8 2) ∧ w2.cell? ⟨X, 1, none⟩ = some (.int .u8 0) ∧ w2.cell? ⟨X, 2, none⟩ = some (.int .u32 1) ∧ w2.cell? ⟨X, 3, none⟩ = some (.int .u32 t) ∧ w2.cell? ⟨X, 4, none⟩ = some (.int .u32 (t - 1))) :=
          Lib.hid fun w2 hb => by
            have hx := (hb.block X hXl).trans hX0
            exact ⟨cell_at (o := 0) hx rfl, cell_at (o := 1) hx rfl, cell_at (o := 2) hx rfl, cell_at (o := 3) hx rfl, cell_at (o := 4) hx rfl⟩
        have HR := Lib.hid hr
        have HBA := Lib.hid hbA
        have hlen : was.length ≤ 1000000 := by omega
        have hlc : ∀ e ∈ was, e.comps.length ≤ 8796093022000 := fun e he => by have := HL2.out e he; omega
        have HLC := Lib.hid hlc
        clear hbX hX0 hr hbA hX hlc
        go_region_held3 (fun w2 => w2.cell? ⟨X, 0, none⟩ = some (.int .u8 2) ∧ w2.cell? ⟨X, 1, none⟩ = some (.int .u8 0) ∧ w2.cell? ⟨X, 2, none⟩ = some (.int .u32 1) ∧ w2.cell? ⟨X, 3, none⟩ = some (.int .u32 t) ∧ w2.cell? ⟨X, 4, none⟩ = some (.int .u32 (t - 1)))
          (first | exact K.out _ (Below.refl _ _) | exact K.out _ (Below.refl _ _).drew | exact K.out _ hB3 | exact K.out _ hB2 | exact K.out _ hB1)
          (first
            | (go_at_call 9; refine (rtwins_any _ _ was _ (HR.out.below (Below.refl _ _).drew) hlen HLC.out).mono ?_; rintro e wa ⟨va, rfl, hra, hba⟩; obtain ⟨Aa, ca, rfl, hca1, hca2⟩ := hra.form; have hB1 : Below W1.heap.size W1 wa := (Below.refl _ _).drew.trans hba)
            | (go_at_call 9; refine (rtwins_any _ _ was _ (HR.out.below hB1) hlen HLC.out).mono ?_; rintro e wb ⟨vb, rfl, hrb, hbb⟩; obtain ⟨Ab, cb, rfl, hcb1, hcb2⟩ := hrb.form; have hB2 : Below W1.heap.size W1 wb := hB1.trans (hbb.mono hB1.size))
            | (go_at_call 8; refine (seal_any _ _ ⟨2, 0, 1, t, t - 1⟩ _ _ was was _ HW.out (hra.below hbb) hrb hlen hlen HLC.out).mono ?_; rintro e wc ⟨vc, rfl, hrc, hbc⟩; rw [HSH.out.1]; obtain ⟨Ac, cc, rfl, hcc1, hcc2⟩ := hrc.form; have hB3 : Below W1.heap.size W1 wc := hB2.trans (hbc.mono hB2.size)))
        all_goals
          have hP := HSH.out.2.2.2
          have hPQ := HSH.out.2.2.1
          obtain ⟨P, hPe⟩ : ∃ P, P = packBytes ⟨2, 0, 1, t, t - 1⟩ was was := ⟨_, rfl⟩
          rw [← hPe] at hrc hP hPQ
          try simp only [← hPe]
          obtain ⟨x0, x1, x2, x3, x4⟩ := K.out _ hB3
          have hPi : (P.length : Int) ≤ 16 := by omega
          have HRC := Lib.hid hrc
          have HB4 := Lib.hid (HBA.out.trans (hB3.mono HBA.out.size))
          have HPQ := Lib.hid hPQ
          clear hB1 hB2 hB3 hra hrb hrc hba hbb hbc hP hPQ hPe
          go_wp2_with fail
          refine (seal_any (fun _ => False) (fun _ => False) ⟨2, 0, 1, t, t - 1⟩ _ _ [] [] _ HW.out (RE.nil _ _) (RE.nil _ _) (by simp) (by simp) (by simp)).mono ?_
          rintro e wd ⟨vd, rfl, hrd, hbd⟩
          rw [HSH.out.2.1]
          rw [← HPQ.out] at hrd
          have hrc2 := HRC.out.below hbd
          obtain ⟨Ad, cd, rfl, hcd1, hcd2⟩ := hrd.form
          have HRD := Lib.hid hrd
          have HRC2 := Lib.hid hrc2
          have HB5 := Lib.hid (HB4.out.trans (hbd.mono HB4.out.size))
          clear hrd hrc2 hbd x0 x1 x2 x3 x4
          go_wp2_with fail
          refine (rsameB_any _ _ _ _ P P _ HRC2.out HRD.out).mono ?_
          rintro e we ⟨rfl, rfl⟩
          rw [decide_eq_true rfl]
          go_wp2_with fail
          go_ret
          exact ⟨by simp [hPi], HB5.out⟩
    · have hfo1 : (formE was != 0) = true := by simpa using hfo
      clear hfo
      go_wp2_with fail
      go_ret
      exact ⟨rfl, HB3.out⟩
  · rw [decide_eq_false hf]
    clear hf
    go_wp2_with fail
    go_ret
    exact ⟨rfl, HB2.out⟩
end Go.Proofs.Ytbklglckmhfmcaa
