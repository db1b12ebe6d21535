/- pinnacelaw20.few, awake. -/
import Derived.Test.YtbklglckmhfmcaaRefI
import Derived.Test.YtbklglckmhfmcaaRefE
set_option linter.unusedVariables false
set_option linter.unusedSimpArgs false
namespace Go.Proofs.Ytbklglckmhfmcaa
open Go.RowKit
set_option maxRecDepth 100000

set_option maxHeartbeats 2000000 in
theorem lfew_any (Z1 Z2 : Nat → Prop) (v1 v2 : Value) (a b : List Ent) (w : World) (h1 : RE Z1 w v1 a) (h2 : RE Z2 w v2 b) (hs1 : fewN a ≤ 1000000000000) (hs2 : fewN b ≤ 1000000000000) :
    Calls Try.prog 11 #[v1, v2] w fun e w' => e = .returned (.bool (decide (fewN a ≤ 400) && decide (fewN b ≤ 400))) ∧ Below w.heap.size w w' := by
  by_cases hf : fewN a ≤ 400
  · rw [decide_eq_true hf, Bool.true_and]
    obtain ⟨A1, cap1, rfl, hca1, hca1'⟩ := h1.form
    obtain ⟨A2, cap2, rfl, hca2, hca2'⟩ := h2.form
    have H1 := Lib.hid h1
    have H2 := Lib.hid h2
    have HS1 := Lib.hid hs1
    have HS2 := Lib.hid hs2
    have HF := Lib.hid hf
    clear h1 h2 hs1 hs2 hf
    go_enter Try.func11, Try.ntmps11
    go_wp2_with fail
    refine (rfew_any _ _ a _ H1.out HS1.out).mono ?_
    rintro e w1 ⟨rfl, hb1⟩
    rw [decide_eq_true HF.out]
    have HB1 := Lib.hid hb1
    clear hb1
    go_wp2_with fail
    refine (rfew_any _ _ b _ (H2.out.below HB1.out) HS2.out).mono ?_
    rintro e w2 ⟨rfl, hb2⟩
    have HB2 := Lib.hid hb2
    clear hb2
    go_wp2_with fail
    go_ret
    exact ⟨rfl, HB1.out.trans (HB2.out.mono HB1.out.size)⟩
  · rw [decide_eq_false hf, Bool.false_and]
    obtain ⟨A1, cap1, rfl, hca1, hca1'⟩ := h1.form
    have H1 := Lib.hid h1
    have HS1 := Lib.hid hs1
    have HF := Lib.hid hf
    clear h1 h2 hs1 hs2 hf
    go_enter Try.func11, Try.ntmps11
    go_wp2_with fail
    refine (rfew_any _ _ a _ H1.out HS1.out).mono ?_
    rintro e w1 ⟨rfl, hb1⟩
    rw [decide_eq_false HF.out]
    have HB1 := Lib.hid hb1
    clear hb1
    go_wp2_with fail
    go_ret
    exact ⟨rfl, HB1.out⟩

/-- The document's example. -/
def exH : Head := ⟨3, 2, 1, 5, 0⟩
theorem exH_wf : exH.wf := ⟨by decide, by decide, by decide, by decide, by decide, by decide, by decide, by decide, by decide, by decide⟩
theorem ex_err : packErr exH [] [] = 0 := by decide +kernel
theorem ex_open : ropenE (packBytes exH [] []) = 0 ∧ ropenB (packBytes exH [] []) = [146, 80, 0, 0, 0, 0] := by decide +kernel
theorem RE.nil (Z : Nat → Prop) (w : World) : RE Z w (.slice none 0 0) [] := ⟨⟨[], rfl, Sl.nil _ _ _, by simp⟩, by simp⟩

set_option maxHeartbeats 4000000 in
theorem awake_any (w : World) : Calls Try.prog 5 #[] w fun e w' => e = .returned (.bool true) ∧ Below w.heap.size w w' := by
  go_enter Try.func5, Try.ntmps5
  go_wp2_with fail
  refine (seal_any (fun _ => False) (fun _ => False) exH _ _ [] [] w exH_wf (RE.nil _ _) (RE.nil _ _) (by simp) (by simp) (by simp)).mono ?_
  rintro e w1 ⟨v1, rfl, hr1, hb1⟩
  rw [ex_err]
  have HR1 := Lib.hid hr1
  have HB1 := Lib.hid hb1
  clear hr1 hb1
  go_wp2_with fail
  refine (ropen_any _ _ _ _ HR1.out).mono ?_
  rintro e w2 ⟨v2, rfl, hr2, hb2⟩
  rw [ex_open.1]
  rw [ex_open.2] at hr2
  have HR2 := Lib.hid hr2
  have HB2 := Lib.hid (HB1.out.trans (hb2.mono HB1.out.size))
  clear hr2 hb2
  go_wp2_with fail
  have hr3 : RB (fun _ => False) (w2.alloc (.cells #[.int .u8 146, .int .u8 80, .int .u8 0, .int .u8 0, .int .u8 0, .int .u8 0] 5)) (.slice (some ⟨w2.heap.size, 0, none⟩) 6 6) [146, 80, 0, 0, 0, 0] := by
    refine ⟨⟨_, _, rfl, rfl, Nat.le_refl _, by omega, fun _ => ⟨w2.heap.size, 0, rfl, id, by simp, ?_⟩⟩, by intro x hx; simp at hx; omega⟩
    exact Cells.new w2 #[.int .u8 146, .int .u8 80, .int .u8 0, .int .u8 0, .int .u8 0, .int .u8 0] 5
  have hbA : Below w2.heap.size w2 (w2.alloc (.cells #[.int .u8 146, .int .u8 80, .int .u8 0, .int .u8 0, .int .u8 0, .int .u8 0] 5)) := (Below.refl _ _).alloc (Nat.le_refl _) _
  refine (rsameB_any _ _ _ _ _ _ _ (HR2.out.below hbA) hr3).mono ?_
  rintro e w3 ⟨rfl, rfl⟩
  go_wp2_with fail
  go_ret
  exact ⟨by simp, HB2.out.trans (hbA.mono HB2.out.size)⟩
end Go.Proofs.Ytbklglckmhfmcaa
