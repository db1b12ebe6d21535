/- pinnaceref01.Bits, Same. -/
import Derived.Test.YtbklglckmhfmcaaFrameB
import Derived.Test.YtbklglckmhfmcaaZeros
import Derived.Laws.BytesArg
import Derived.BigQuiet
set_option linter.unusedVariables false
set_option linter.unusedSimpArgs false
namespace Go.Proofs.Ytbklglckmhfmcaa
open Go.RowKit
set_option maxRecDepth 100000

theorem info_bool : (Try.prog.info? 4).map (fun i => (i.zero, i.size, i.bytes)) = some (some (.bool false), 1, 1) := by kernel_rfl
/-- The bits of bytes, the least bit of a byte first. -/
def bitsL (l : List Int) : List Bool := l.flatMap fun b => bitsOf b.toNat 8
theorem bitsL_length (l : List Int) : (bitsL l).length = 8 * l.length := by
  induction l with
  | nil => rfl
  | cons b r ih => simp only [bitsL, List.flatMap_cons, List.length_append, bitsOf_length, List.length_cons] at ih ⊢; omega
theorem bitsL_append (a b : List Int) : bitsL (a ++ b) = bitsL a ++ bitsL b := by simp [bitsL]

theorem half_bits (x : Int) (h0 : 0 ≤ x) (h1 : x ≤ 255) (j : Nat) : ((x.toNat / 2 ^ j : Nat) : Int) / 2 = ((x.toNat / 2 ^ (j + 1) : Nat) : Int) := by
  rw [Nat.pow_succ, ← Nat.div_div_eq_div_mul]; omega

set_option maxHeartbeats 8000000 in
theorem rbits_any (Z : Nat → Prop) (v : Value) (l : List Int) (w : World) (h : RB Z w v l) (hl : l.length ≤ 1048576) :
    Calls Try.prog 68 #[v] w fun e w' => ∃ v', e = .returned v' ∧ Mine w' w.heap.size 4 1 v' (8 * l.length) ((bitsL l).map .bool) ∧ Below w.heap.size w w' := by
  obtain ⟨A, cap, rfl, hcap1, hcap2⟩ := h.form
  have HH := Lib.hid h
  clear h
  go_enter Try.func68, Try.ntmps68
  go_wp2_with fail
  go_loopg [3, 8] l.length (fun g s3 s8 wx => ∃ i : Nat, i + g = l.length ∧ s8 = .int .i64 i ∧ Below w.heap.size w wx ∧ Mine wx w.heap.size 4 1 s3 (8 * i) ((bitsL (l.take i)).map .bool))
  case atStart => exact ⟨0, by omega, rfl, .refl _ _, Mine.nil _ _ _ _⟩
  case round =>
    obtain ⟨i, hi, rfl, hbw, hm⟩ := hrel
    have HM := Lib.hid hm
    have HBW := Lib.hid hbw
    by_cases hlt : i < l.length
    · obtain ⟨x, hx⟩ : ∃ x, l[i]? = some x := ⟨_, List.getElem?_eq_getElem hlt⟩
      obtain ⟨b, o, rfl, hz, hbl, hx0, hx1, c0⟩ := (HH.out.below hbw).at hx
      have hL : (i : Int) < (l.length : Int) := by omega
      have htk : l.take (i + 1) = l.take i ++ [x] := by rw [List.take_add_one, hx]; rfl
      have HTK := Lib.hid htk
      obtain ⟨G, hG⟩ : ∃ G, G = gk := ⟨_, rfl⟩
      subst hG
      clear hx hz hm hbw htk
      go_wp2_with fail
      go_loopg [3, 5, 12] 8 (fun gk s3 s5 s12 wx => ∃ j : Nat, j + gk = 8 ∧ s12 = .int .i64 j ∧ s5 = .int .u8 ((x.toNat / 2 ^ j : Nat) : Int) ∧ Below w.heap.size w wx ∧ Mine wx w.heap.size 4 1 s3 (8 * i + j) ((bitsL (l.take i) ++ bitsOf x.toNat j).map .bool))
      case atStart => exact ⟨0, by omega, rfl, by simp; omega, HBW.out, by simpa [bitsOf] using HM.out⟩
      case round =>
        obtain ⟨j, hj, rfl, rfl, hbw, hm⟩ := hrel
        have HM2 := Lib.hid hm
        have HBW2 := Lib.hid hbw
        by_cases hlt2 : j < 8
        · have hL2 : (j : Int) < 8 := by omega
          have hy0 : (0 : Int) ≤ ((x.toNat / 2 ^ j : Nat) : Int) := Int.natCast_nonneg _
          have hy1 : ((x.toNat / 2 ^ j : Nat) : Int) ≤ 255 := by
            have := Nat.div_le_self x.toNat (2 ^ j)
            omega
          have hhf := half_bits x hx0 hx1 j
          have hbs := bitsOf_succ x.toNat j
          have hjs : (x.toNat / 2 ^ j) / 2 = x.toNat / 2 ^ (j + 1) := by rw [Nat.div_div_eq_div_mul, ← Nat.pow_succ]
          obtain ⟨y, hy⟩ : ∃ y, y = x.toNat / 2 ^ j := ⟨_, rfl⟩
          rw [← hy] at hy0 hy1 hhf hbs
          rw [← hy]
          have hrem : ((y : Int) % 2 == 1) = (y % 2 == 1) := by
            rw [show (y : Int) % 2 = ((y % 2 : Nat) : Int) from rfl]
            rcases (show y % 2 = 0 ∨ y % 2 = 1 by omega) with h | h <;> rw [h] <;> rfl
          have hw2 : IntKind.u8.wrap ((y : Int) / 2) = (y : Int) / 2 := IntWalk.u8_in _ (by omega)
          have hw1 : IntKind.u8.wrap ((y : Int) % 2) = (y : Int) % 2 := IntWalk.u8_in _ (by omega)
          have hbs2 := hbw.size
          have HHF := Lib.hid hhf
          have HBS := Lib.hid hbs
          have HREM := Lib.hid hrem
          clear hm hbw hy hhf hbs hrem
          go_wp2_with (at_builtin; refine wpl_append_mine rfl (.tmp 14) (.tmp 18) 115 rfl 4 (.bool false) 1 1 Try.underlying115 info_bool rfl (by decide) w.heap.size _ _ _ rfl (HM2.out.alloc _) ?hB ⟨wr.heap.size, 0, none⟩ 1 1 [.bool ((y : Int) % 2 == 1)] rfl rfl (new_row _ [.bool ((y : Int) % 2 == 1)] _ _ rfl) (by simp [Value.oneCell']) ?c3 ?c4 ?_)
          case hB => simp; omega
          case c3 => omega
          case c4 => omega
          intro v' w3 hm3 hb3
          have HM3 := Lib.hid hm3
          have HB3 := Lib.hid ((HBW2.out.alloc HBW2.out.size (.cells #[.bool ((y : Int) % 2 == 1)] 4)).trans hb3)
          clear hm3 hb3
          go_wp2_with fail
          go_roundg (gk - 1)
          case measure => omega
          case rel => exact ⟨j + 1, by omega, by simp, by rw [← HHF.out], HB3.out, by
            have := HM3.out
            rw [HREM.out] at this
            rw [HBS.out]
            simpa [Nat.add_assoc] using this⟩
        · have hj9 : j = 8 := by omega
          subst hj9
          have HM3 : Hid (Mine wr w.heap.size 4 1 u3 (8 * (i + 1)) ((bitsL (l.take (i + 1))).map .bool)) := by
            refine Lib.hid ?_
            rw [HTK.out, bitsL_append, show 8 * (i + 1) = 8 * i + 8 by omega]
            simpa [bitsL] using hm
          clear hm hbw HM2
          go_wp2_with fail
          go_roundg (G - 1)
          case measure => omega
          case rel => exact ⟨i + 1, by omega, by simp, HBW2.out, HM3.out⟩
    · have hil : i = l.length := by omega
      subst hil
      rw [List.take_length] at hm
      have hL : ¬ (l.length : Int) < (l.length : Int) := by omega
      have HM2 := Lib.hid hm
      clear hlt hi hm hbw HM
      go_wp2_with fail
      go_ret
      exact ⟨_, rfl, HM2.out, HBW.out⟩
end Go.Proofs.Ytbklglckmhfmcaa
