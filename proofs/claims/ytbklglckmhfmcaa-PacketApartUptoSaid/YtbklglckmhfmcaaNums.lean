/- Contracts of math/bits.Len64 and of nums' plain functions: how many bits a number has, groups of four, signs. -/
import Derived.Test.YtbklglckmhfmcaaBase
set_option linter.unusedVariables false
set_option linter.unusedSimpArgs false
namespace Go.Proofs.Ytbklglckmhfmcaa
open Go.RowKit

/-- How many bits a number has. -/
def blen (x : Int) : Int := if x ≤ 0 then 0 else ((Nat.log2 x.toNat + 1 : Nat) : Int)
theorem blen_zero : blen 0 = 0 := rfl
theorem blen_nonneg (x : Int) : 0 ≤ blen x := by unfold blen; split <;> omega
theorem blen_lt (x : Int) (k : Nat) (h : x < 2 ^ k) : blen x ≤ k := by
  unfold blen; split
  · omega
  · have h1 : x.toNat ≠ 0 := by omega
    have h2 : x.toNat < 2 ^ k := by
      have : ((x.toNat : Nat) : Int) < ((2 ^ k : Nat) : Int) := by push_cast; omega
      exact_mod_cast this
    have := (Nat.log2_lt h1).2 h2
    omega
theorem lt_blen (x : Int) (h : 0 ≤ x) : x < 2 ^ (blen x).toNat := by
  unfold blen; split
  · have : x = 0 := by omega
    subst this; simp
  · have h1 : x.toNat ≠ 0 := by omega
    have := (Nat.log2_lt h1 (k := Nat.log2 x.toNat + 1)).1 (by omega)
    have h3 : ((x.toNat : Nat) : Int) < ((2 ^ (Nat.log2 x.toNat + 1) : Nat) : Int) := by exact_mod_cast this
    have h4 : ((Nat.log2 x.toNat + 1 : Nat) : Int).toNat = Nat.log2 x.toNat + 1 := by omega
    rw [h4]
    have h5 : (x.toNat : Int) = x := by omega
    rw [h5] at h3
    simpa using h3
theorem blen_div (x : Int) (k : Nat) (h : (2 ^ k : Int) ≤ x) : blen x = k + blen (x / 2 ^ k) := by
  have hk : (0 : Int) < 2 ^ k := Int.pow_pos (by omega)
  have h1 : 1 ≤ x / 2 ^ k := Int.le_ediv_of_mul_le hk (by omega)
  unfold blen
  rw [if_neg (by omega), if_neg (by omega)]
  have e : (x / 2 ^ k).toNat = x.toNat / 2 ^ k := by
    have : x = (x.toNat : Int) := by omega
    conv => lhs; rw [this]
    have h2 : ((x.toNat : Int) / 2 ^ k) = ((x.toNat / 2 ^ k : Nat) : Int) := by push_cast; rfl
    rw [h2]; rfl
  rw [e]
  have hx : 2 ^ k ≤ x.toNat := by
    have : ((2 ^ k : Nat) : Int) ≤ (x.toNat : Int) := by push_cast; omega
    exact_mod_cast this
  have : Nat.log2 x.toNat = Nat.log2 (x.toNat / 2 ^ k) + k := by
    have hne : x.toNat ≠ 0 := by omega
    have hq : x.toNat / 2 ^ k ≠ 0 := by
      have := Nat.div_pos hx (Nat.pow_pos (by omega : 0 < 2))
      omega
    apply Nat.le_antisymm
    · have hlt := (Nat.log2_lt hq (k := Nat.log2 (x.toNat / 2 ^ k) + 1)).1 (by omega)
      have : x.toNat < 2 ^ (Nat.log2 (x.toNat / 2 ^ k) + 1) * 2 ^ k := (Nat.div_lt_iff_lt_mul (Nat.pow_pos (by omega))).1 hlt
      rw [← Nat.pow_add] at this
      have := (Nat.log2_lt hne).2 this
      omega
    · have := Nat.log2_self_le hq
      have h3 : 2 ^ (Nat.log2 (x.toNat / 2 ^ k)) * 2 ^ k ≤ x.toNat := (Nat.le_div_iff_mul_le (Nat.pow_pos (by omega))).1 this
      rw [← Nat.pow_add] at h3
      exact (Nat.le_log2 hne).2 h3
  rw [this]; push_cast; omega

theorem ret_int {k : IntKind} {a b : Int} (h : a = b) : Ending.returned (.int k a) = .returned (.int k b) := by rw [h]
def lenTab : Array UInt8 := #[0, 1, 2, 2, 3, 3, 3, 3, 4, 4, 4, 4, 4, 4, 4, 4, 5, 5, 5, 5, 5, 5, 5, 5, 5, 5, 5, 5, 5, 5, 5, 5, 6, 6, 6, 6, 6, 6, 6, 6, 6, 6, 6, 6, 6, 6, 6, 6, 6, 6, 6, 6, 6, 6, 6, 6, 6, 6, 6, 6, 6, 6, 6, 6, 7, 7, 7, 7, 7, 7, 7, 7, 7, 7, 7, 7, 7, 7, 7, 7, 7, 7, 7, 7, 7, 7, 7, 7, 7, 7, 7, 7, 7, 7, 7, 7, 7, 7, 7, 7, 7, 7, 7, 7, 7, 7, 7, 7, 7, 7, 7, 7, 7, 7, 7, 7, 7, 7, 7, 7, 7, 7, 7, 7, 7, 7, 7, 7, 8, 8, 8, 8, 8, 8, 8, 8, 8, 8, 8, 8, 8, 8, 8, 8, 8, 8, 8, 8, 8, 8, 8, 8, 8, 8, 8, 8, 8, 8, 8, 8, 8, 8, 8, 8, 8, 8, 8, 8, 8, 8, 8, 8, 8, 8, 8, 8, 8, 8, 8, 8, 8, 8, 8, 8, 8, 8, 8, 8, 8, 8, 8, 8, 8, 8, 8, 8, 8, 8, 8, 8, 8, 8, 8, 8, 8, 8, 8, 8, 8, 8, 8, 8, 8, 8, 8, 8, 8, 8, 8, 8, 8, 8, 8, 8, 8, 8, 8, 8, 8, 8, 8, 8, 8, 8, 8, 8, 8, 8, 8, 8, 8, 8, 8, 8, 8, 8, 8, 8, 8, 8, 8, 8, 8, 8, 8, 8]
theorem len_table : ∀ y : Fin 256, (lenTab[y.val]?.map (fun u => (u.toNat : Int))) = some (blen (y.val : Int)) := by decide +kernel
theorem len_at (s : ByteArray) (hs : s.data = lenTab) (y : Int) (h0 : 0 ≤ y) (h1 : y < 256) (h : y.toNat < s.size) : ((s[y.toNat]'h).toNat : Int) = blen y := by
  have := len_table ⟨y.toNat, by omega⟩
  simp only [← hs] at this
  have hz : y.toNat < s.data.size := h
  rw [Array.getElem?_eq_getElem hz] at this
  simp only [Option.map_some, Option.some.injEq] at this
  rw [show ((y.toNat : Nat) : Int) = y from by omega] at this
  exact this
theorem len_close (s : ByteArray) (hs : s.data = lenTab) (x y K : Int) (k : Nat) (h0 : 0 ≤ y) (h1 : y < 256) (h : y.toNat < s.size) (hK : K = k) (hk : k ≤ 56) (hy : y = x / 2 ^ k) (hx : 2 ^ k ≤ x ∨ k = 0) :
    wrap64 (K + wrap64 ((s[y.toNat]'h).toNat : Int)) = blen x := by
  rw [len_at s hs y h0 h1 h]
  have hb := blen_lt y 8 (by simpa using h1)
  have hb0 := blen_nonneg y
  have e : blen x = k + blen y := by
    rcases hx with hx | rfl
    · rw [blen_div x k hx, hy]
    · simp at hy; subst hy; simp
  rw [e, hK]; unfold wrap64; omega
theorem len_close0 (s : ByteArray) (hs : s.data = lenTab) (x : Int) (h0 : 0 ≤ x) (h1 : x < 256) (h : x.toNat < s.size) :
    wrap64 (wrap64 ((s[x.toNat]'h).toNat : Int)) = blen x := by
  rw [len_at s hs x h0 h1 h]
  have hb := blen_lt x 8 (by simpa using h1)
  have hb0 := blen_nonneg x
  unfold wrap64; omega

set_option maxRecDepth 100000
set_option maxHeartbeats 1000000 in
theorem len64_any (x : Int) (w : World) (h0 : 0 ≤ x) (h1 : x < 18446744073709551616) :
    Calls Try.prog 69 #[.int .u64 x] w (fun e w' => e = .returned (.int .i64 (blen x)) ∧ w' = w) := by
  go_enter Try.func69, Try.ntmps69
  go_wp2_with fail
  all_goals
    go_ret
    refine ⟨?_, rfl⟩
  · exact ret_int (len_close _ rfl x _ 56 56 (by omega) (by omega) _ rfl (by omega) (by omega) (.inl (by omega)))
  · exact ret_int (len_close _ rfl x _ 48 48 (by omega) (by omega) _ rfl (by omega) (by omega) (.inl (by omega)))
  · exact ret_int (len_close _ rfl x _ 40 40 (by omega) (by omega) _ rfl (by omega) (by omega) (.inl (by omega)))
  · exact ret_int (len_close _ rfl x _ 32 32 (by omega) (by omega) _ rfl (by omega) (by omega) (.inl (by omega)))
  · exact ret_int (len_close _ rfl x _ 24 24 (by omega) (by omega) _ rfl (by omega) (by omega) (.inl (by omega)))
  · exact ret_int (len_close _ rfl x _ 16 16 (by omega) (by omega) _ rfl (by omega) (by omega) (.inl (by omega)))
  · exact ret_int (len_close _ rfl x _ 8 8 (by omega) (by omega) _ rfl (by omega) (by omega) (.inl (by omega)))
  · exact ret_int (len_close0 _ rfl x (by omega) (by omega) _)

/-- How many groups of four bits a number takes. -/
def grp (v : Int) : Int := if v ≤ 0 then 1 else (blen v + 3) / 4
theorem grp_pos (v : Int) : 1 ≤ grp v := by
  unfold grp; split
  · omega
  · have : 1 ≤ blen v := by unfold blen; rw [if_neg (by omega)]; omega
    omega
theorem grp_le (v : Int) (h1 : v < 18446744073709551616) : grp v ≤ 16 := by
  have := blen_lt v 64 (by simpa using h1)
  unfold grp; split <;> omega
theorem grp_eq (v : Int) (h0 : 0 ≤ v) : grp v = max 1 ((blen v + 4 - 1) / 4) := by
  have hb := blen_nonneg v
  unfold grp; split
  · have : v = 0 := by omega
    subst this; rw [blen_zero]; decide
  · have : 1 ≤ blen v := by unfold blen; rw [if_neg (by omega)]; omega
    omega

set_option maxHeartbeats 1000000 in
theorem groups_any (v : Int) (w : World) (h0 : 0 ≤ v) (h1 : v < 18446744073709551616) :
    Calls Try.prog 55 #[.int .u64 v] w (fun e w' => e = .returned (.int .i64 (grp v)) ∧ w' = w) := by
  have hb := blen_lt v 64 (by simpa using h1)
  have hb0 := blen_nonneg v
  have hb1 : blen v ≤ 64 := by omega
  clear hb
  have HG := Lib.hid (grp_eq v h0)
  go_enter Try.func55, Try.ntmps55
  go_wp2_with (go_at_call 69; refine (len64_any _ _ h0 h1).mono ?_; rintro e w' ⟨rfl, rfl⟩)
  all_goals
    go_ret
    exact ⟨ret_int (by rw [HG.out]; omega), rfl⟩

set_option maxHeartbeats 1000000 in
theorem width_any (lo hi : Int) (w : World) (h1 : -2147483648 ≤ lo) (h2 : lo ≤ hi) (h3 : hi ≤ 2147483647) :
    Calls Try.prog 54 #[.int .i64 lo, .int .i64 hi] w (fun e w' => e = .returned (.int .i64 (blen (hi - lo))) ∧ w' = w) := by
  have e : IntKind.u64.wrap (IntKind.u64.wrap hi - IntKind.u64.wrap lo) = hi - lo := by simp only [IntKind.wrap_u64]; omega
  have HE := Lib.hid e
  clear e
  go_enter Try.func54, Try.ntmps54
  go_wp2_with fail
  rw [HE.out]
  refine (len64_any _ _ (by omega) (by omega)).mono ?_
  rintro e w' ⟨rfl, rfl⟩
  go_wp2_with fail
  go_ret
  exact ⟨rfl, rfl⟩

/-- The complement on 64 bits. -/
theorem xor_ones {b : Nat} (hb : b < 2 ^ 64) : (2 ^ 64 - 1) ^^^ b = 2 ^ 64 - 1 - b := by
  apply Nat.eq_of_testBit_eq
  intro i
  rw [Nat.testBit_xor, Nat.testBit_two_pow_sub_one, show 2 ^ 64 - 1 - b = 2 ^ 64 - (b + 1) by omega, Nat.testBit_two_pow_sub_succ hb]
  by_cases hi : i < 64
  · simp [hi]
  · have : b.testBit i = false := Nat.testBit_lt_two_pow (Nat.lt_of_lt_of_le hb (Nat.pow_le_pow_right (by decide) (by omega)))
    simp [hi, this]
/-- A number with a sign as one without. -/
def zig (n : Int) : Int := if n < 0 then -2 * n - 1 else 2 * n
theorem zig_nonneg (n : Int) : 0 ≤ zig n := by unfold zig; split <;> omega
theorem zig_zero (n : Int) : zig n = 0 ↔ n = 0 := by unfold zig; split <;> omega
theorem zig_nat (n : Int) : zig n = ((if 0 ≤ n then 2 * n.toNat else 2 * (-n - 1).toNat + 1 : Nat) : Int) := by unfold zig; split <;> split <;> omega
theorem zig_bits (n : Int) (h1 : -4294967296 ≤ n) (h2 : n ≤ 4294967296) :
    bits .xor .u64 (IntKind.u64.wrap (n * 2)) (IntKind.u64.wrap (n / 9223372036854775808)) = zig n := by
  by_cases hn : 0 ≤ n
  · have e1 : IntKind.u64.wrap (n * 2) = ((2 * n.toNat : Nat) : Int) := by rw [IntKind.wrap_u64]; omega
    have e2 : IntKind.u64.wrap (n / 9223372036854775808) = ((0 : Nat) : Int) := by rw [IntKind.wrap_u64]; omega
    rw [e1, e2, bits_xor_u64_nat _ _ (by omega) (by omega)]
    simp only [Nat.xor_zero]; unfold zig; omega
  · have e1 : IntKind.u64.wrap (n * 2) = ((18446744073709551616 - 2 * (-n).toNat : Nat) : Int) := by rw [IntKind.wrap_u64]; omega
    have e2 : IntKind.u64.wrap (n / 9223372036854775808) = ((2 ^ 64 - 1 : Nat) : Int) := by rw [IntKind.wrap_u64]; omega
    rw [e1, e2, bits_xor_u64_nat _ _ (by omega) (by omega), Nat.xor_comm, xor_ones (by omega)]
    unfold zig; omega
set_option maxHeartbeats 1000000 in
theorem zig_any (n : Int) (w : World) (h1 : -4294967296 ≤ n) (h2 : n ≤ 4294967296) :
    Calls Try.prog 81 #[.int .i64 n] w (fun e w' => e = .returned (.int .u64 (zig n)) ∧ w' = w) := by
  have HZ := Lib.hid (zig_bits n h1 h2)
  go_enter Try.func81, Try.ntmps81
  go_wp2_with fail
  go_ret
  exact ⟨ret_int HZ.out, rfl⟩
end Go.Proofs.Ytbklglckmhfmcaa
