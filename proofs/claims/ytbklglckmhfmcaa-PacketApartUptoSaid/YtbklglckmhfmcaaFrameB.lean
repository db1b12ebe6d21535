/- bits.Writer.Bytes, frame.Seal. -/
import Derived.Test.YtbklglckmhfmcaaFrame
import Derived.Test.YtbklglckmhfmcaaComp0
set_option linter.unusedVariables false
set_option linter.unusedSimpArgs false
namespace Go.Proofs.Ytbklglckmhfmcaa
open Go.RowKit
set_option maxRecDepth 100000

def sealB (l : List Int) : List Int := l ++ tailL (sumC l)
def sealE (l : List Int) : Int := if 4096 < l.length then 3 else 0
theorem RB.mine {w : World} {B n : Nat} {v : Value} {l : List Int} (h : Mine w B 5 1 v n (l.map (.int .u8 ·))) (hwf : ∀ x ∈ l, 0 ≤ x ∧ x ≤ 255) : RB (fun j => j < B) w v l := by
  have h1 := h.own.1
  simp only [List.length_map, Nat.mul_one] at h1
  subst h1
  exact ⟨h.sl, hwf⟩
theorem pack_wf (l : List Bool) : ∀ x ∈ pack l, 0 ≤ x ∧ x ≤ 255 := by
  intro x hx
  obtain ⟨i, hi, rfl⟩ := List.mem_iff_getElem.1 hx
  exact pack_range l i _ (List.getElem?_eq_getElem hi)
set_option maxHeartbeats 2000000 in
theorem bytes_any (b g : Nat) (l : List Bool) (w : World) (h : Wr w b g l) :
    Calls Try.prog 26 #[.pointer (some ⟨b, 0, none⟩)] w fun e w' => ∃ v', e = .returned v' ∧ RB (fun k => k < w.heap.size) w' v' (pack l) ∧ Below w.heap.size w w' := by
  have hle := h.le
  obtain ⟨v, hb, hown, _⟩ := h.out
  have c0 := cell_at (o := 0) hb rfl
  have hr := RB.mine (B := 0) ⟨hown, fun _ _ => Nat.zero_le _⟩ (pack_wf l)
  obtain ⟨A, cap, rfl, hc1, hc2⟩ := hr.form
  have hpl := pack_length l
  have HR := Lib.hid hr
  have HPL := Lib.hid hpl
  clear hb hown hr hpl h
  go_enter Try.func26, Try.ntmps26
  go_wp2_with fail
  refine (bclone_any _ _ (pack l) _ HR.out (by rw [HPL.out]; omega)).mono ?_
  rintro e w1 ⟨v', rfl, hm, hb1⟩
  have HM := Lib.hid hm
  have HB := Lib.hid hb1
  clear hm hb1
  go_wp2_with fail
  go_ret
  exact ⟨v', rfl, RB.mine HM.out (pack_wf l), HB.out⟩

set_option maxHeartbeats 4000000 in
theorem frameSeal_any (Z : Nat → Prop) (v : Value) (l : List Int) (w : World) (h : RB Z w v l) :
    Calls Try.prog 25 #[v] w fun e w' => ∃ v', e = .returned (.tuple #[v', .int .i64 (sealE l)]) ∧ RB (fun k => k < w.heap.size) w' v' (if sealE l = 0 then sealB l else []) ∧ Below w.heap.size w w' := by
  obtain ⟨A, cap, rfl, hc1, hc2⟩ := h.form
  by_cases hlen : 4096 < l.length
  · have hs : sealE l = 3 := if_pos hlen
    rw [hs]
    clear h hs
    go_enter Try.func25, Try.ntmps25
    go_wp2_with fail
    go_ret2
    exact ⟨_, rfl, ⟨Sl.nil _ _ _, by simp⟩, .refl _ _⟩
  · have hs : sealE l = 0 := if_neg hlen
    rw [hs, if_pos rfl]
    have hwf := h.wf
    have HH := Lib.hid h
    have HWF := Lib.hid hwf
    clear h hs hwf
    go_enter Try.func25, Try.ntmps25
    go_wp2_with fail
    refine (bclone_any Z _ l _ HH.out (by omega)).mono ?_
    rintro e w1 ⟨v1, rfl, hm1, hb1⟩
    have h1 := HH.out.below hb1
    have HM1 := Lib.hid hm1
    have HB1 := Lib.hid hb1
    have H1 := Lib.hid h1
    clear hm1 hb1 h1
    go_wp2_with fail
    refine (sum_any Z _ l _ H1.out).mono ?_
    rintro e w2 ⟨rfl, rfl⟩
    have hsc := sumC_in l
    go_wp2_with fail
    refine (tail_any (sumC l) _ hsc.1 hsc.2).mono ?_
    rintro e w3 ⟨ad, rfl, hr3, hb3⟩
    have hm3 := HM1.out.below hb3
    have hsz := HB1.out.size
    have hsz3 := hb3.size
    have HB3 := Lib.hid hb3
    have HR3 := Lib.hid hr3
    have HM3 := Lib.hid hm3
    clear hb3 hr3 hm3
    go_wp2_with (at_builtin; refine wpl_append_mine rfl (.tmp 8) (.tmp 11) 29 rfl 5 (.int .u8 0) 1 1 Try.underlying29 info_u8 rfl (by decide) w.heap.size v1 _ _ rfl HM3.out (by omega) ad 4 4 ((tailL (sumC l)).map (.int .u8 ·)) rfl rfl (bnews HR3.out.sl) ?ho ?c3 ?c4 ?_)
    case ho => intro u hu; obtain ⟨x, _, rfl⟩ := List.mem_map.1 hu; rfl
    case c3 => omega
    case c4 => omega
    intro v' w4 hm4 hb4
    have HM4 := Lib.hid hm4
    have HB4 := Lib.hid hb4
    clear hm4 hb4
    go_wp2_with fail
    go_ret2
    refine ⟨v', rfl, RB.mine (n := l.length + 4) (by simpa [sealB] using HM4.out) ?_, (HB1.out.trans (HB3.out.mono hsz)).trans HB4.out⟩
    intro x hx
    simp only [sealB, List.mem_append] at hx
    rcases hx with hx | hx
    · exact HWF.out x hx
    · exact HR3.out.wf x hx
end Go.Proofs.Ytbklglckmhfmcaa
