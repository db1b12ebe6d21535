/- Contracts of nums.PutVar and nums.PutIn. -/
import Derived.Test.YtbklglckmhfmcaaBits
set_option linter.unusedVariables false
set_option linter.unusedSimpArgs false
namespace Go.Proofs.Ytbklglckmhfmcaa
open Go.RowKit
set_option maxRecDepth 100000

/-- The group number j of a number's n groups. -/
def grpX (v n j : Nat) : Nat := (v / 16 ^ j) % 16 + if j + 1 < n then 16 else 0
def varPre (v n : Nat) : Nat → List Bool
  | 0 => []
  | i + 1 => varPre v n i ++ bitsOf (grpX v n i) 5
/-- A number's bits, in groups. -/
def varL (v : Int) : List Bool := varPre v.toNat (grp v).toNat (grp v).toNat
theorem grpX_lt (v n j : Nat) : grpX v n j < 32 := by unfold grpX; split <;> omega
theorem varPre_length (v n i : Nat) : (varPre v n i).length = 5 * i := by
  induction i with
  | zero => rfl
  | succ i ih => rw [varPre, List.length_append, ih, bitsOf_length]; omega
theorem varL_length (v : Int) : (varL v).length = 5 * (grp v).toNat := varPre_length _ _ _

theorem grpX_eq (v : Int) (n i : Nat) (hv0 : 0 ≤ v) (hv1 : v < 18446744073709551616) :
    (if i + 1 < n then bits .or .u64 (bits .and .u64 (v / 2 ^ (4 * i)) 15) 16 else bits .and .u64 (v / 2 ^ (4 * i)) 15) = ((grpX v.toNat n i : Nat) : Int) := by
  have hp : (0 : Int) < 2 ^ (4 * i) := Int.pow_pos (by omega)
  have h1 : v / 2 ^ (4 * i) ≤ v := Int.ediv_le_self _ hv0
  have h0 : 0 ≤ v / 2 ^ (4 * i) := Int.ediv_nonneg hv0 (by omega)
  have e : v / 2 ^ (4 * i) = ((v.toNat / 16 ^ i : Nat) : Int) := by
    conv => lhs; rw [show v = (v.toNat : Int) from by omega]
    rw [show (2 : Int) ^ (4 * i) = ((16 ^ i : Nat) : Int) by rw [Int.pow_mul]; push_cast; rfl]
    push_cast; rfl
  rw [u64_and15 _ h0 (by omega), e, grpX]
  split
  · rw [u64_or16 _ (by omega) (by omega)]; omega
  · omega
theorem putVar_step (v : Int) (n i : Nat) (l : List Bool) (h : (l ++ varPre v.toNat n i).length + 5 ≤ 1048576) :
    putL (l ++ varPre v.toNat n i) ((grpX v.toNat n i : Nat) : Int) 5 = l ++ varPre v.toNat n (i + 1) := by
  have hx := grpX_lt v.toNat n i
  have h0 : putE (l ++ varPre v.toNat n i) ((grpX v.toNat n i : Nat) : Int) 5 = 0 := by
    unfold putE
    rw [if_neg (by simp; omega), if_neg (by omega)]
  rw [putL, if_pos h0, varPre, List.append_assoc]; rfl
def putVarE (l : List Bool) (v : Int) : Int := if 1048576 < l.length + 5 * grp v then 3 else 0
def putVarL (l : List Bool) (v : Int) : List Bool := if putVarE l v = 0 then l ++ varL v else l

set_option maxHeartbeats 4000000 in
theorem putVar_any (b g : Nat) (l : List Bool) (v : Int) (w : World) (h : Wr w b g l) (hv0 : 0 ≤ v) (hv1 : v < 18446744073709551616) :
    Calls Try.prog 32 #[.pointer (some ⟨b, 0, none⟩), .int .u64 v] w
      fun e w' => e = .returned (.int .i64 (putVarE l v)) ∧ ∃ g', Wr w' b g' (putVarL l v) ∧ Stp (zn b g) w (zn b g') w' := by
  have hg1 := grp_pos v
  have hg2 := grp_le v hv1
  have hle := h.le
  go_enter Try.func32, Try.ntmps32
  go_wp2_with (first | (go_at_call 55; refine (groups_any _ _ hv0 hv1).mono ?_; rintro e w' ⟨rfl, rfl⟩) | (go_at_call 56; refine (len_any _ _ _ _ h).mono ?_; rintro e w' ⟨rfl, rfl⟩))
  · have he : putVarE l v = 3 := if_pos (by omega)
    go_ret
    refine ⟨by rw [he]; rfl, g, ?_, .refl _ _⟩
    rw [putVarL, if_neg (by rw [he]; decide)]; exact h
  · obtain ⟨n, hn⟩ : ∃ n : Nat, grp v = n := ⟨(grp v).toNat, by omega⟩
    have hln : l.length + 5 * n ≤ 1048576 := by omega
    have hn16 : n ≤ 16 := by omega
    rw [hn]
    have HN := Lib.hid hn
    clear hn
    go_loopg [21] n (fun gk s21 wr => ∃ i g', i + gk = n ∧ s21 = .int .i64 i ∧ Wr wr b g' (l ++ varPre v.toNat n i) ∧ Stp (zn b g) w' (zn b g') wr)
    case atStart => exact ⟨0, g, by omega, rfl, by simpa [varPre] using h, .refl _ _⟩
    case round =>
      obtain ⟨i, g', hi, rfl, hwr, hst⟩ := hrel
      by_cases hlt : i < n
      · have hi1 : (i : Int) < (n : Int) := by omega
        have hi15 : (i : Int) ≤ 15 := by omega
        have hx := grpX_lt v.toNat n i
        have hand := grpX_eq v n i hv0 hv1
        have HAND := Lib.hid hand
        clear hand
        have hlen : (l ++ varPre v.toNat n i).length = l.length + 5 * i := by rw [List.length_append, varPre_length]
        have HLEN := Lib.hid hlen
        clear hlen
        by_cases hlast : i + 1 < n
        · have hl1 : (i : Int) < (n : Int) - 1 := by omega
          go_wp2_with fail
          rw [show bits .or .u64 (bits .and .u64 (v / 2 ^ (4 * i)) 15) 16 = ((grpX v.toNat n i : Nat) : Int) by have := HAND.out; rwa [if_pos hlast] at this]
          refine (put_any _ _ _ _ _ _ hwr (by omega) (by omega) (by omega) (by omega)).mono ?_
          rintro e w2 ⟨rfl, g2, hw2, hs2⟩
          rw [putVar_step v n i l (by rw [HLEN.out]; omega)] at hw2
          go_wp2_with fail
          go_roundg (gk - 1)
          case measure => omega
          case rel => exact ⟨i + 1, g2, by omega, by simp, hw2, hst.trans hs2⟩
        · have hl1 : ¬ (i : Int) < (n : Int) - 1 := by omega
          go_wp2_with fail
          rw [show bits .and .u64 (v / 2 ^ (4 * i)) 15 = ((grpX v.toNat n i : Nat) : Int) by have := HAND.out; rwa [if_neg hlast] at this]
          refine (put_any _ _ _ _ _ _ hwr (by omega) (by omega) (by omega) (by omega)).mono ?_
          rintro e w2 ⟨rfl, g2, hw2, hs2⟩
          rw [putVar_step v n i l (by rw [HLEN.out]; omega)] at hw2
          go_wp2_with fail
          go_roundg (gk - 1)
          case measure => omega
          case rel => exact ⟨i + 1, g2, by omega, by simp, hw2, hst.trans hs2⟩
      · have hin : i = n := by omega
        subst hin
        have hL : ¬ (i : Int) < (i : Int) := by omega
        have he : putVarE l v = 0 := if_neg (by rw [HN.out]; omega)
        have hp : putVarL l v = l ++ varPre v.toNat i i := by rw [putVarL, if_pos he, varL, HN.out]; rfl
        have HE := Lib.hid he
        have HP := Lib.hid hp
        clear he hp hlt hi
        go_wp2_with fail
        go_ret
        rw [HE.out, HP.out]
        exact ⟨rfl, g', hwr, hst⟩

/-- One of a range. -/
def putInE (l : List Bool) (n lo hi : Int) : Int := if n < lo ∨ hi < n then 5 else putE l (n - lo) (blen (hi - lo))
def putInL (l : List Bool) (n lo hi : Int) : List Bool := if n < lo ∨ hi < n then l else putL l (n - lo) (blen (hi - lo))
set_option maxHeartbeats 4000000 in
theorem putIn_any (b g : Nat) (l : List Bool) (n lo hi : Int) (w : World) (h : Wr w b g l) (h1 : -2147483648 ≤ lo) (h2 : lo ≤ hi) (h3 : hi ≤ 2147483647) (h4 : -2147483648 ≤ n) (h5 : n ≤ 2147483647) :
    Calls Try.prog 31 #[.pointer (some ⟨b, 0, none⟩), .int .i64 n, .int .i64 lo, .int .i64 hi] w
      fun e w' => e = .returned (.int .i64 (putInE l n lo hi)) ∧ ∃ g', Wr w' b g' (putInL l n lo hi) ∧ Stp (zn b g) w (zn b g') w' := by
  have hlt : ¬ hi < lo := by omega
  by_cases hr : n < lo ∨ hi < n
  · have he : putInE l n lo hi = 5 := if_pos hr
    have hl : putInL l n lo hi = l := if_pos hr
    have HE := Lib.hid he
    have HL := Lib.hid hl
    have hr1 : (decide (n < lo) || decide (hi < n)) = true := by simpa using hr
    clear he hl
    rcases hr with hr | hr
    all_goals
      go_enter Try.func31, Try.ntmps31
      go_wp2_with fail
      all_goals
        go_ret
        rw [HE.out, HL.out]
        exact ⟨rfl, g, h, .refl _ _⟩
  · have he : putInE l n lo hi = putE l (n - lo) (blen (hi - lo)) := if_neg hr
    have hl : putInL l n lo hi = putL l (n - lo) (blen (hi - lo)) := if_neg hr
    have HE := Lib.hid he
    have HL := Lib.hid hl
    have hx : IntKind.u64.wrap (IntKind.u64.wrap n - IntKind.u64.wrap lo) = n - lo := by simp only [IntKind.wrap_u64]; omega
    have HX := Lib.hid hx
    have hr1 : ¬ n < lo := by omega
    have hr2 : ¬ hi < n := by omega
    have hb0 := blen_nonneg (hi - lo)
    have hb1 := blen_lt (hi - lo) 64 (by omega)
    clear he hl hr hx
    go_enter Try.func31, Try.ntmps31
    go_wp2_with fail
    refine (width_any _ _ _ h1 h2 h3).mono ?_
    rintro e w' ⟨rfl, rfl⟩
    go_wp2_with fail
    rw [HX.out]
    refine (put_any _ _ _ _ _ _ h hb0 (by omega) (by omega) (by omega)).mono ?_
    rintro e w2 ⟨rfl, g2, hw2, hs2⟩
    go_wp2_with fail
    go_ret
    rw [HE.out, HL.out]
    exact ⟨rfl, g2, hw2, hs2⟩
end Go.Proofs.Ytbklglckmhfmcaa
