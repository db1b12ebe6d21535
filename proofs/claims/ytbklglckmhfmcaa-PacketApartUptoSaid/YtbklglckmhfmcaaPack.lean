/- Lists of bits and the bytes that hold them; numbers as bits. No program in sight. -/
import Derived.Test.YtbklglckmhfmcaaBase
set_option linter.unusedVariables false
set_option linter.unusedSimpArgs false
namespace Go.Proofs.Ytbklglckmhfmcaa
open Go.RowKit

/-! ### Numbers and bits -/
/-- The number whose bits, the least first, are l. -/
def num : List Bool → Nat
  | [] => 0
  | b :: r => (if b then 1 else 0) + 2 * num r
/-- The n least bits of v. -/
def bitsOf (v : Nat) : Nat → List Bool
  | 0 => []
  | n + 1 => (v % 2 == 1) :: bitsOf (v / 2) n
theorem bitsOf_length (v n : Nat) : (bitsOf v n).length = n := by induction n generalizing v with
  | zero => rfl
  | succ n ih => simp [bitsOf, ih]
theorem num_lt (l : List Bool) : num l < 2 ^ l.length := by induction l with
  | nil => simp [num]
  | cons b r ih => simp only [num, List.length_cons, Nat.pow_succ]; split <;> omega
theorem num_bitsOf (v n : Nat) : num (bitsOf v n) = v % 2 ^ n := by induction n generalizing v with
  | zero => simp [bitsOf, num, Nat.mod_one]
  | succ n ih =>
    simp only [bitsOf, num, ih]
    rw [Nat.pow_succ, Nat.mul_comm (2 ^ n) 2, Nat.mod_mul]
    have : v % 2 = 0 ∨ v % 2 = 1 := by omega
    rcases this with h | h <;> simp [h]
theorem bitsOf_num (l : List Bool) : bitsOf (num l) l.length = l := by induction l with
  | nil => rfl
  | cons b r ih =>
    simp only [List.length_cons, bitsOf, num]
    cases b
    · simp [Nat.mul_div_cancel_left, ih]
    · have h1 : (1 + 2 * num r) % 2 = 1 := by omega
      have h2 : (1 + 2 * num r) / 2 = num r := by omega
      simp [h1, h2, ih]
theorem bitsOf_succ (v n : Nat) : bitsOf v (n + 1) = bitsOf v n ++ [(v / 2 ^ n) % 2 == 1] := by induction n generalizing v with
  | zero => simp [bitsOf]
  | succ n ih =>
    rw [bitsOf, ih (v / 2)]
    simp only [bitsOf, List.cons_append]
    rw [Nat.div_div_eq_div_mul, Nat.pow_succ, Nat.mul_comm 2]
theorem num_append (a b : List Bool) : num (a ++ b) = num a + 2 ^ a.length * num b := by induction a with
  | nil => simp [num]
  | cons x r ih => simp only [List.cons_append, num, ih, List.length_cons, Nat.pow_succ]; rw [Nat.mul_add]; rw [← Nat.mul_assoc, Nat.mul_comm 2 (2 ^ r.length)]; omega
theorem bitsOf_inj {a b n : Nat} (ha : a < 2 ^ n) (hb : b < 2 ^ n) (h : bitsOf a n = bitsOf b n) : a = b := by
  have := congrArg num h
  rw [num_bitsOf, num_bitsOf, Nat.mod_eq_of_lt ha, Nat.mod_eq_of_lt hb] at this
  exact this

/-! ### Bytes -/
/-- The bytes that hold bits, the least bit of a byte first; the last one is filled up with noughts. -/
def pack (l : List Bool) : List Int := (List.range ((l.length + 7) / 8)).map fun i => (num ((l.drop (8 * i)).take 8) : Int)
theorem pack_length (l : List Bool) : (pack l).length = (l.length + 7) / 8 := by simp [pack]
theorem pack_get (l : List Bool) (i : Nat) (h : i < (l.length + 7) / 8) : (pack l)[i]? = some (num ((l.drop (8 * i)).take 8) : Int) := by
  simp [pack, h]
theorem pack_range (l : List Bool) (i : Nat) (v : Int) (h : (pack l)[i]? = some v) : 0 ≤ v ∧ v ≤ 255 := by
  have hi : i < (l.length + 7) / 8 := by rw [← pack_length]; exact (List.getElem?_eq_some_iff.1 h).1
  rw [pack_get l i hi] at h
  have := num_lt ((l.drop (8 * i)).take 8)
  have h8 : ((l.drop (8 * i)).take 8).length ≤ 8 := List.length_take_le _ _
  have := Nat.pow_le_pow_right (show 0 < 2 by omega) h8
  simp only [Option.some.injEq] at h
  omega
theorem pack_nil : pack [] = [] := rfl
/-- A new byte for a bit. -/
theorem pack_snoc_new (l : List Bool) (x : Bool) (h : l.length % 8 = 0) : pack (l ++ [x]) = pack l ++ [if x then 1 else 0] := by
  apply List.ext_getElem?
  intro i
  by_cases hi : i < l.length / 8
  · rw [List.getElem?_append_left (by rw [pack_length]; omega), pack_get _ _ (by simp; omega), pack_get _ _ (by omega)]
    rw [List.drop_append_of_le_length (by omega), List.take_append_of_le_length (by simp; omega)]
  · by_cases he : i = l.length / 8
    · subst he
      rw [pack_get _ _ (by simp; omega), List.getElem?_append_right (by rw [pack_length]; omega)]
      have e : 8 * (l.length / 8) = l.length := by omega
      rw [e, pack_length, show l.length / 8 - (l.length + 7) / 8 = 0 by omega]
      cases x <;> simp [num]
    · rw [List.getElem?_eq_none (by rw [pack_length]; simp; omega), List.getElem?_eq_none (by simp [pack_length]; omega)]
/-- A bit into the last byte. -/
theorem pack_snoc_old (l : List Bool) (x : Bool) (h : l.length % 8 ≠ 0) :
    ∃ y : Nat, (pack l)[l.length / 8]? = some (y : Int) ∧ y < 2 ^ (l.length % 8) ∧ pack (l ++ [x]) = (pack l).set (l.length / 8) ((y + 2 ^ (l.length % 8) * (if x then 1 else 0) : Nat) : Int) := by
  have hlen : ((l.drop (8 * (l.length / 8))).take 8).length = l.length % 8 := by simp; omega
  refine ⟨num ((l.drop (8 * (l.length / 8))).take 8), pack_get _ _ (by omega), by have := num_lt ((l.drop (8 * (l.length / 8))).take 8); rwa [hlen] at this, ?_⟩
  apply List.ext_getElem?
  intro i
  by_cases hi : i < l.length / 8
  · rw [List.getElem?_set_ne (by omega), pack_get _ _ (by simp; omega), pack_get _ _ (by omega)]
    rw [List.drop_append_of_le_length (by omega), List.take_append_of_le_length (by simp; omega)]
  · by_cases he : i = l.length / 8
    · subst he
      rw [pack_get _ _ (by simp; omega), List.getElem?_set_self (by rw [pack_length]; omega)]
      rw [List.drop_append_of_le_length (by omega)]
      have e1 : (l.drop (8 * (l.length / 8))).length = l.length % 8 := by simp; omega
      have e2 : (l.drop (8 * (l.length / 8)) ++ [x]).take 8 = l.drop (8 * (l.length / 8)) ++ [x] := List.take_of_length_le (by simp; omega)
      have e3 : (l.drop (8 * (l.length / 8))).take 8 = l.drop (8 * (l.length / 8)) := List.take_of_length_le (by omega)
      rw [e2, e3, num_append, e1]
      cases x <;> simp [num]
    · rw [List.getElem?_eq_none (by rw [pack_length]; simp; omega), List.getElem?_eq_none (by simp [pack_length]; omega)]

/-! ### The machine's and, or, shifts on numbers without a sign -/
theorem u64_mask (x : Int) (i : Nat) (hi : i ≤ 64) (h0 : 0 ≤ x) (h1 : x < 18446744073709551616) : bits .and .u64 x (2 ^ i - 1) = x % 2 ^ i :=
  bits_mask .u64 64 (by decide) (fun n h h' => by rw [IntKind.wrap_u64]; omega) i hi x h0 (by simpa using h1)
theorem u64_and1 (x : Int) (h0 : 0 ≤ x) (h1 : x < 18446744073709551616) : bits .and .u64 x 1 = x % 2 := by simpa using u64_mask x 1 (by omega) h0 h1
theorem u64_and15 (x : Int) (h0 : 0 ≤ x) (h1 : x < 18446744073709551616) : bits .and .u64 x 15 = x % 16 := by simpa using u64_mask x 4 (by omega) h0 h1
theorem u64_or16 (x : Int) (h0 : 0 ≤ x) (h1 : x < 16) : bits .or .u64 x 16 = x + 16 := by
  obtain ⟨n, rfl⟩ := Int.eq_ofNat_of_zero_le h0
  have hn : n < 16 := by omega
  have h := bits_or_u64_nat n 16 (by omega) (by omega)
  have e : n ||| 16 = n + 16 := by
    have := Nat.shiftLeft_add_eq_or_of_lt (a := 1) (b := n) (i := 4) hn
    rw [Nat.or_comm]; simp at this; omega
  rw [e] at h; simpa using h
theorem u8_or_hi (y k : Nat) (b : Nat) (hy : y < 2 ^ k) (hk : k ≤ 7) (hb : b ≤ 1) : bits .or .u8 (y : Int) ((2 ^ k * b : Nat) : Int) = ((y + 2 ^ k * b : Nat) : Int) := by
  have h7 : 2 ^ k ≤ 2 ^ 7 := Nat.pow_le_pow_right (by omega) hk
  have hb' : 2 ^ k * b ≤ 2 ^ k * 1 := Nat.mul_le_mul_left _ hb
  have h := (bits_nat .u8 8 (by decide) (fun n h h' => by rw [IntKind.wrap_u8]; omega) y (2 ^ k * b) (by omega) (by omega)).2
  rw [h]
  have := Nat.shiftLeft_add_eq_or_of_lt (a := b) (b := y) (i := k) hy
  rw [Nat.shiftLeft_eq, Nat.mul_comm b] at this
  rw [Nat.or_comm, ← this]; norm_cast; omega
end Go.Proofs.Ytbklglckmhfmcaa
