/- pinnaceref03.Seal, Open. -/
import Derived.Test.YtbklglckmhfmcaaRefH
import Derived.Test.YtbklglckmhfmcaaRefC
set_option linter.unusedVariables false
set_option linter.unusedSimpArgs false
namespace Go.Proofs.Ytbklglckmhfmcaa
open Go.RowKit
set_option maxRecDepth 100000

def rsealB (l : List Int) : List Int := l ++ tailL (rsum l)
theorem rsum_in (l : List Int) (h : l.length ≤ 1000000) : 0 ≤ rsum l ∧ rsum l ≤ 4294967295 := by
  unfold rsum
  have hl : (((divL (startL l) (8 * l.length)).drop (8 * l.length)).map (!·)).length = 32 := by
    rw [List.length_map, List.length_drop, divL_length, startL_length]; omega
  have := num_lt (((divL (startL l) (8 * l.length)).drop (8 * l.length)).map (!·))
  rw [hl] at this
  have h4 : (2 : Nat) ^ 32 = 4294967296 := by decide
  omega
theorem tb_byte (s : Int) (j : Nat) (h0 : 0 ≤ s) : IntKind.u8.wrap (s / 2 ^ (8 * j)) = tb s j := by rw [IntKind.wrap_u8]; rfl
theorem RB.len0 {Z : Nat → Prop} {w : World} {n cap : Nat} {l : List Int} (h : RB Z w (.slice none n cap) l) : l = [] := by
  obtain ⟨A', cap', h1, h2, h3, h4, h5⟩ := h.sl
  simp only [Value.slice.injEq] at h1
  obtain ⟨rfl, _, rfl⟩ := h1
  rcases Nat.eq_zero_or_pos l.length with h0 | h0
  · exact List.eq_nil_of_length_eq_zero h0
  · obtain ⟨b, o, e, _⟩ := h5 h0; simp at e
theorem tailL_one (s : Int) : ∀ u ∈ (tailL s).map (Value.int .u8 ·), u.oneCell' = true := by
  intro u hu; obtain ⟨x, _, rfl⟩ := List.mem_map.1 hu; rfl
theorem bytes_one (l : List Int) : ∀ u ∈ l.map (Value.int .u8 ·), u.oneCell' = true := by
  intro u hu; obtain ⟨x, _, rfl⟩ := List.mem_map.1 hu; rfl
theorem tailL_wf (s : Int) : ∀ x ∈ tailL s, 0 ≤ x ∧ x ≤ 255 := by
  intro x hx
  simp only [tailL, List.mem_cons, List.not_mem_nil, or_false] at hx
  rcases hx with rfl | rfl | rfl | rfl <;> exact tb_in _ _

set_option maxHeartbeats 8000000 in
theorem rseal_any (Z : Nat → Prop) (v : Value) (l : List Int) (w : World) (h : RB Z w v l) :
    Calls Try.prog 29 #[v] w fun e w' => ∃ v', e = .returned (.tuple #[v', .int .i64 (sealE l)]) ∧ RB (fun k => k < w.heap.size) w' v' (if sealE l = 0 then rsealB l else []) ∧ Below w.heap.size w w' := by
  obtain ⟨A, cap, rfl, hc1, hc2⟩ := h.form
  by_cases hlen : 4096 < l.length
  · have hs : sealE l = 3 := if_pos hlen
    rw [hs]
    clear h hs
    go_enter Try.func29, Try.ntmps29
    go_wp2_with fail
    go_ret2
    exact ⟨_, rfl, ⟨Sl.nil _ _ _, by simp⟩, .refl _ _⟩
  · have hs : sealE l = 0 := if_neg hlen
    rw [hs, if_pos rfl]
    have hwf := h.wf
    have hin := rsum_in l (by omega)
    have HH := Lib.hid h
    have HWF := Lib.hid hwf
    have t0 := tb_byte (rsum l) 0 hin.1
    have t1 := tb_byte (rsum l) 1 hin.1
    have t2 := tb_byte (rsum l) 2 hin.1
    have t3 := tb_byte (rsum l) 3 hin.1
    simp only [show (2 : Int) ^ (8 * 0) = 1 by decide, show (2 : Int) ^ (8 * 1) = 256 by decide, show (2 : Int) ^ (8 * 2) = 65536 by decide, show (2 : Int) ^ (8 * 3) = 16777216 by decide, Int.ediv_one] at t0 t1 t2 t3
    have HT := Lib.hid (And.intro t0 (And.intro t1 (And.intro t2 t3)))
    clear h hs hwf
    have hfin : ∀ (w1 w3 : World) (v3 : Value), Below w.heap.size w w1 → Mine w3 w.heap.size 5 1 v3 l.length (l.map (.int .u8 ·)) → Below w.heap.size w w3 → True := fun _ _ _ _ _ _ => trivial
    clear hfin
    obtain ⟨S, hS⟩ : ∃ S, S = rsum l := ⟨_, rfl⟩
    have HS := Lib.hid hS
    rw [← hS] at t0 t1 t2 t3 hin
    have h256 : IntKind.u32.wrap (S / 256) = S / 256 := IntWalk.u32_in _ (by omega)
    have h65536 : IntKind.u32.wrap (S / 65536) = S / 65536 := IntWalk.u32_in _ (by omega)
    have h167 : IntKind.u32.wrap (S / 16777216) = S / 16777216 := IntWalk.u32_in _ (by omega)
    have hi0 := hin.1
    have hi1 := hin.2
    clear hS hin
    cases A with
    | none =>
      have hl0 := HH.out.len0
      subst hl0
      go_enter Try.func29, Try.ntmps29
      go_wp2_with fail
      refine (rsum_any Z _ _ _ HH.out (by simp)).mono ?_
      rintro e w1 ⟨rfl, hb1⟩
      rw [← HS.out]
      have HB1 := Lib.hid hb1
      have hs1 := hb1.size
      clear hb1
      go_wp2_with (first
        | (at_builtin; refine wpl_append_nil rfl (.tmp 10) (.tmp 11) 29 rfl 5 (.int .u8 0) 1 1 Try.underlying29 info_u8 w1.heap.size 0 0 cap rfl rfl (Nat.le_refl _) ?_)
        | (at_builtin; refine wpl_append_mine rfl (.tmp 12) (.tmp 24) 29 rfl 5 (.int .u8 0) 1 1 Try.underlying29 info_u8 rfl (by decide) w1.heap.size _ _ _ rfl (Mine.alloc (bmade_empty _ _ _) _) ?hB ⟨w1.heap.size + 1, 0, none⟩ 4 4 ((tailL S).map (Value.int .u8 ·)) rfl rfl (new_row _ ((tailL S).map (Value.int .u8 ·)) _ _ (by simp)) (tailL_one S) ?c3 ?c4 ?_))
      case hB => simp; omega
      case c3 => omega
      case c4 => omega
      intro v4 w4 hm4 hb4
      have HM4 := Lib.hid hm4
      have HB4 := Lib.hid hb4
      clear hm4 hb4
      go_wp2_with fail
      go_ret2
      refine ⟨v4, rfl, RB.mine (n := 0 + 4) ?_ ?_, HB1.out.trans ((((Below.refl _ _).alloc (Nat.le_refl _) _).alloc (by simp) _).trans HB4.out |>.mono hs1)⟩
      · have := HM4.out.mono hs1
        simpa [rsealB, ← HS.out] using this
      · rw [rsealB, ← HS.out]; exact tailL_wf S
    | some ad =>
      go_enter Try.func29, Try.ntmps29
      go_wp2_with fail
      refine (rsum_any Z _ l _ HH.out (by omega)).mono ?_
      rintro e w1 ⟨rfl, hb1⟩
      rw [← HS.out]
      have h1 := HH.out.below hb1
      have HB1 := Lib.hid hb1
      have H1 := Lib.hid h1
      have hs1 := hb1.size
      clear hb1 h1
      go_wp2_with (at_builtin; refine wpl_append_mine rfl (.tmp 10) (.tmp 11) 29 rfl 5 (.int .u8 0) 1 1 Try.underlying29 info_u8 rfl (by decide) w1.heap.size _ _ _ rfl (bmade_empty _ _ _) ?hB ad l.length cap (l.map (.int .u8 ·)) rfl (by simp) (bnews (H1.out.below ((Below.refl _ _).alloc (Nat.le_refl _) _)).sl) (bytes_one l) ?c3 ?c4 ?_)
      case hB => simp
      case c3 => omega
      case c4 => omega
      intro v3 w3 hm3 hb3
      have hs3 : w1.heap.size ≤ w3.heap.size := by have := hb3.size; simp at this; omega
      have HM3 := Lib.hid hm3
      have HB3 := Lib.hid hb3
      clear hm3 hb3
      go_wp2_with (at_builtin; refine wpl_append_mine rfl (.tmp 12) (.tmp 24) 29 rfl 5 (.int .u8 0) 1 1 Try.underlying29 info_u8 rfl (by decide) w1.heap.size _ _ _ rfl (HM3.out.alloc _) ?hB ⟨w3.heap.size, 0, none⟩ 4 4 ((tailL S).map (Value.int .u8 ·)) rfl rfl (new_row _ ((tailL S).map (Value.int .u8 ·)) _ _ rfl) (tailL_one S) ?c3 ?c4 ?_)
      case hB => simp; omega
      case c3 => omega
      case c4 => omega
      intro v4 w4 hm4 hb4
      have HM4 := Lib.hid hm4
      have HB4 := Lib.hid hb4
      clear hm4 hb4
      go_wp2_with fail
      go_ret2
      have hb3w : Below w1.heap.size w1 w3 := ((Below.refl _ _).alloc (Nat.le_refl _) _).trans HB3.out
      have hb4w : Below w1.heap.size w1 w4 := (hb3w.alloc hb3w.size _).trans HB4.out
      refine ⟨v4, rfl, RB.mine (n := l.length + 4) ?_ ?_, HB1.out.trans (hb4w.mono hs1)⟩
      · have := HM4.out.mono hs1
        simpa [rsealB, ← HS.out] using this
      · intro x hx
        rw [rsealB, ← HS.out, List.mem_append] at hx
        rcases hx with hx | hx
        · exact HWF.out x hx
        · exact tailL_wf S x hx

/-- The first bytes of a slice. -/
theorem RB.take {Z : Nat → Prop} {w : World} {A : Option Addr} {n cap : Nat} {l : List Int} (h : RB Z w (.slice A n cap) l) (m : Nat) (hm : m ≤ n) : RB Z w (.slice A m cap) (l.take m) := by
  obtain ⟨A', cap', h1, h2, h3, h4, h5⟩ := h.sl
  simp only [Value.slice.injEq] at h1
  obtain ⟨rfl, rfl, rfl⟩ := h1
  have htl : (l.take m).length = m := by rw [List.length_take]; omega
  refine ⟨⟨A, cap, by rw [htl], by simp [List.length_map], by omega, h4, fun h0 => ?_⟩, fun x hx => h.wf x (List.mem_of_mem_take hx)⟩
  obtain ⟨b, o, e, hz, hb, hc⟩ := h5 (by omega)
  refine ⟨b, o, e, hz, hb, fun i v hv => hc i v ?_⟩
  rw [List.getElem?_map] at hv ⊢
  rw [List.getElem?_take] at hv
  split at hv
  · exact hv
  · simp at hv
def ropenE (l : List Int) : Int := if l.length < 4 then 2 else if 4100 < l.length then 3 else if rsealB (l.take (l.length - 4)) ≠ l then 6 else 0
def openB (l : List Int) : List Int := l.take (l.length - 4)
def ropenB (l : List Int) : List Int := if ropenE l = 0 then openB l else []

set_option maxHeartbeats 8000000 in
theorem ropen_any (Z : Nat → Prop) (v : Value) (l : List Int) (w : World) (h : RB Z w v l) :
    Calls Try.prog 13 #[v] w fun e w' => ∃ v', e = .returned (.tuple #[v', .int .i64 (ropenE l)]) ∧ RB (fun k => k < w.heap.size) w' v' (ropenB l) ∧ Below w.heap.size w w' := by
  obtain ⟨A, cap, rfl, hc1, hc2⟩ := h.form
  by_cases h4 : l.length < 4
  · have hs : ropenE l = 2 := if_pos h4
    rw [ropenB, hs, if_neg (by decide)]
    clear h hs
    go_enter Try.func13, Try.ntmps13
    go_wp2_with fail
    go_ret2
    exact ⟨_, rfl, ⟨Sl.nil _ _ _, by simp⟩, .refl _ _⟩
  by_cases h41 : 4100 < l.length
  · have hs : ropenE l = 3 := by rw [ropenE, if_neg h4, if_pos h41]
    rw [ropenB, hs, if_neg (by decide)]
    clear h hs
    go_enter Try.func13, Try.ntmps13
    go_wp2_with fail
    go_ret2
    exact ⟨_, rfl, ⟨Sl.nil _ _ _, by simp⟩, .refl _ _⟩
  have hs : ropenE l = if rsealB (l.take (l.length - 4)) ≠ l then 6 else 0 := by rw [ropenE, if_neg h4, if_neg h41]
  have hsub : IntKind.i64.wrap ((l.length : Int) - 4) = ((l.length - 4 : Nat) : Int) := by rw [IntWalk.i64_in _ (by omega)]; omega
  have htk := h.take (l.length - 4) (by omega)
  have htl : (l.take (l.length - 4)).length = l.length - 4 := by rw [List.length_take]; omega
  obtain ⟨m, hm⟩ : ∃ m, m = l.length - 4 := ⟨_, rfl⟩
  rw [← hm] at hs hsub htk htl
  have hm1 : m ≤ 4096 := by omega
  have hm2 : m ≤ cap := by omega
  have hm3 : m ≤ l.length := by omega
  obtain ⟨B, hB⟩ : ∃ B, B = l.take m := ⟨_, rfl⟩
  rw [← hB] at hs htk htl
  have hse : sealE B = 0 := by rw [sealE, htl, if_neg (by omega)]
  have hob : openB l = B := by rw [openB, ← hm, hB]
  have HH := Lib.hid h
  have HTK := Lib.hid htk
  have HS := Lib.hid hs
  have HSE := Lib.hid hse
  have HOB := Lib.hid hob
  have HTL := Lib.hid htl
  have h4i : ¬ ((l.length : Int) < 4) := by omega
  have h41i : ¬ (4100 < (l.length : Int)) := by omega
  clear h hs htk hm hB hse hob htl
  go_enter Try.func13, Try.ntmps13
  go_wp2_with fail
  refine (rseal_any Z _ B _ HTK.out).mono ?_
  rintro e w1 ⟨v1, rfl, hr1, hb1⟩
  rw [HSE.out, if_pos rfl] at hr1
  rw [HSE.out]
  have h1 := HH.out.below hb1
  have htk1 := HTK.out.below hb1
  have HTK1 := Lib.hid htk1
  have HR1 := Lib.hid hr1
  have HB1 := Lib.hid hb1
  have H1 := Lib.hid h1
  clear hr1 hb1 h1 htk1
  go_wp2_with fail
  refine (rsameB_any _ _ _ _ (rsealB B) l _ HR1.out H1.out).mono ?_
  rintro e w2 ⟨rfl, rfl⟩
  by_cases heq : rsealB B = l
  · have hd : decide (rsealB B = l) = true := by simp [heq]
    have hre : ropenE l = 0 := by rw [HS.out, if_neg (by simp [heq])]
    rw [hd]
    have HRE := Lib.hid hre
    clear hd heq hre
    have hs1 := HB1.out.size
    cases A with
    | none =>
      have hl0 := HTK1.out.len0
      have hm0 : m = 0 := by have := HTL.out; rw [hl0] at this; simpa using this.symm
      subst hm0
      have HL0 := Lib.hid hl0
      clear hl0
      go_wp2_with (at_builtin; refine wpl_append_nil rfl (.tmp 27) (.tmp 28) 29 rfl 5 (.int .u8 0) 1 1 Try.underlying29 info_u8 w1.heap.size 0 0 cap rfl rfl (Nat.le_refl _) ?_)
      go_ret2
      rw [ropenB, HRE.out, if_pos rfl, HOB.out, HL0.out]
      exact ⟨_, rfl, RB.mine (n := 0) (by simpa using (bmade_empty w2 _ _).mono hs1) (by simp), HB1.out.alloc hs1 _⟩
    | some ad =>
      have hsl := (HTK1.out.below ((Below.refl _ _).alloc (Nat.le_refl _) (.cells #[] 5))).sl
      rw [HTL.out] at hsl
      have HSL := Lib.hid hsl
      clear hsl
      go_wp2_with (at_builtin; refine wpl_append_mine rfl (.tmp 27) (.tmp 28) 29 rfl 5 (.int .u8 0) 1 1 Try.underlying29 info_u8 rfl (by decide) w2.heap.size _ _ _ rfl (bmade_empty _ _ _) ?hB ad m cap (B.map (.int .u8 ·)) rfl (by simp [HTL.out]) (bnews HSL.out) (bytes_one B) ?c3 ?c4 ?_)
      case hB => simp
      case c3 => omega
      case c4 => omega
      intro v3 w3 hm3 hb3
      have HM3 := Lib.hid hm3
      have HB3 := Lib.hid hb3
      clear hm3 hb3
      go_wp2_with fail
      go_ret2
      rw [ropenB, HRE.out, if_pos rfl, HOB.out]
      exact ⟨v3, rfl, RB.mine (n := 0 + m) (by simpa using HM3.out.mono hs1) HTK.out.wf, (HB1.out.alloc hs1 _).trans (HB3.out.mono hs1)⟩
  · have hd : decide (rsealB B = l) = false := by simp [heq]
    have hre : ropenE l = 6 := by rw [HS.out, if_pos heq]
    rw [hd]
    have HRE := Lib.hid hre
    clear hd heq hre
    go_wp2_with fail
    go_ret2
    rw [ropenB, HRE.out, if_neg (by decide)]
    exact ⟨_, rfl, ⟨Sl.nil _ _ _, by simp⟩, HB1.out⟩
end Go.Proofs.Ytbklglckmhfmcaa
