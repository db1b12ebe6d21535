/- pinnaceref07.Gen; pinnaceref05.Told, Count, Range. (Printed by wip/tools/mk_ref.py.) -/
import Derived.Test.YtbklglckmhfmcaaComps
set_option linter.unusedVariables false
set_option linter.unusedSimpArgs false
namespace Go.Proofs.Ytbklglckmhfmcaa
open Go.RowKit
set_option maxRecDepth 100000

theorem rgen_any (id : Int) (w : World) (h0 : 0 ≤ id) (h1 : id ≤ 4294967295) : Calls Try.prog 14 #[.int .u32 id] w fun e w' => e = .returned (.int .i64 (id / 1024)) ∧ w' = w := by
  have hx : IntKind.i64.wrap id = id := IntWalk.i64_in _ (by omega)
  have hq : id.tdiv 1024 = id / 1024 := Int.tdiv_eq_ediv_of_nonneg h0
  have hy : IntKind.i64.wrap (id / 1024) = id / 1024 := IntWalk.i64_in _ (by omega)
  go_enter Try.func14, Try.ntmps14
  go_wp2_with fail
  go_ret
  exact ⟨by simp [hq, hy], rfl⟩
theorem rtold_any (k : Int) (w : World) (h0 : 0 ≤ k) (h1 : k ≤ 255) : Calls Try.prog 16 #[.int .u8 k] w fun e w' => e = .returned (.bool (told k)) ∧ w' = w := by
  unfold told
  go_enter Try.func16, Try.ntmps16
  go_wp2_with fail
  go_ret
  exact ⟨rfl, rfl⟩
set_option maxHeartbeats 2000000 in
theorem rcount_any (k : Int) (w : World) (h0 : 0 ≤ k) (h1 : k ≤ 255) : Calls Try.prog 51 #[.int .u8 k] w fun e w' => e = .returned (.int .i64 (cnt k)) ∧ Below w.heap.size w w' := by
  by_cases h : 5 < k
  · have hc : cnt k = 0 := by unfold cnt; repeat (first | omega | split)
    rw [hc]; clear hc
    go_enter Try.func51, Try.ntmps51
    go_wp2_with fail
    go_ret
    exact ⟨rfl, .refl _ _⟩
  · obtain rfl | rfl | rfl | rfl | rfl | rfl : k = 0 ∨ k = 1 ∨ k = 2 ∨ k = 3 ∨ k = 4 ∨ k = 5 := by omega
    all_goals
      clear h0 h1 h
      go_enter Try.func51, Try.ntmps51
      go_wp2_with fail
      go_ret
      exact ⟨rfl, (Below.refl _ _).alloc (Nat.le_refl _) _⟩
set_option maxHeartbeats 4000000 in
theorem rrange_0_0 (w : World) : Calls Try.prog 52 #[.int .u8 0, .int .i64 0] w
    fun e w' => e = .returned (.tuple #[.int .i32 (lo 0 0), .int .i32 (hi 0 0), .int .i64 0]) ∧ Below w.heap.size w w' := by
  go_enter Try.func52, Try.ntmps52
  go_wp2_with fail
  refine (rcount_any _ _ (by decide) (by decide)).mono ?_
  rintro e w1 ⟨rfl, hb⟩
  simp only [show cnt 0 = 2 from rfl]
  have HB := Lib.hid hb
  clear hb
  go_wp2_with fail
  go_ret3
  refine ⟨rfl, ?_⟩
  have hs := HB.out.size
  repeat (first | exact HB.out | refine Below.alloc ?_ (by first | omega | (simp; omega)) _)
set_option maxHeartbeats 4000000 in
theorem rrange_0_1 (w : World) : Calls Try.prog 52 #[.int .u8 0, .int .i64 1] w
    fun e w' => e = .returned (.tuple #[.int .i32 (lo 0 1), .int .i32 (hi 0 1), .int .i64 0]) ∧ Below w.heap.size w w' := by
  go_enter Try.func52, Try.ntmps52
  go_wp2_with fail
  refine (rcount_any _ _ (by decide) (by decide)).mono ?_
  rintro e w1 ⟨rfl, hb⟩
  simp only [show cnt 0 = 2 from rfl]
  have HB := Lib.hid hb
  clear hb
  go_wp2_with fail
  go_ret3
  refine ⟨rfl, ?_⟩
  have hs := HB.out.size
  repeat (first | exact HB.out | refine Below.alloc ?_ (by first | omega | (simp; omega)) _)
set_option maxHeartbeats 4000000 in
theorem rrange_1_0 (w : World) : Calls Try.prog 52 #[.int .u8 1, .int .i64 0] w
    fun e w' => e = .returned (.tuple #[.int .i32 (lo 1 0), .int .i32 (hi 1 0), .int .i64 0]) ∧ Below w.heap.size w w' := by
  go_enter Try.func52, Try.ntmps52
  go_wp2_with fail
  refine (rcount_any _ _ (by decide) (by decide)).mono ?_
  rintro e w1 ⟨rfl, hb⟩
  simp only [show cnt 1 = 2 from rfl]
  have HB := Lib.hid hb
  clear hb
  go_wp2_with fail
  go_ret3
  refine ⟨rfl, ?_⟩
  have hs := HB.out.size
  repeat (first | exact HB.out | refine Below.alloc ?_ (by first | omega | (simp; omega)) _)
set_option maxHeartbeats 4000000 in
theorem rrange_1_1 (w : World) : Calls Try.prog 52 #[.int .u8 1, .int .i64 1] w
    fun e w' => e = .returned (.tuple #[.int .i32 (lo 1 1), .int .i32 (hi 1 1), .int .i64 0]) ∧ Below w.heap.size w w' := by
  go_enter Try.func52, Try.ntmps52
  go_wp2_with fail
  refine (rcount_any _ _ (by decide) (by decide)).mono ?_
  rintro e w1 ⟨rfl, hb⟩
  simp only [show cnt 1 = 2 from rfl]
  have HB := Lib.hid hb
  clear hb
  go_wp2_with fail
  go_ret3
  refine ⟨rfl, ?_⟩
  have hs := HB.out.size
  repeat (first | exact HB.out | refine Below.alloc ?_ (by first | omega | (simp; omega)) _)
set_option maxHeartbeats 4000000 in
theorem rrange_2_0 (w : World) : Calls Try.prog 52 #[.int .u8 2, .int .i64 0] w
    fun e w' => e = .returned (.tuple #[.int .i32 (lo 2 0), .int .i32 (hi 2 0), .int .i64 0]) ∧ Below w.heap.size w w' := by
  go_enter Try.func52, Try.ntmps52
  go_wp2_with fail
  refine (rcount_any _ _ (by decide) (by decide)).mono ?_
  rintro e w1 ⟨rfl, hb⟩
  simp only [show cnt 2 = 1 from rfl]
  have HB := Lib.hid hb
  clear hb
  go_wp2_with fail
  go_ret3
  refine ⟨rfl, ?_⟩
  have hs := HB.out.size
  repeat (first | exact HB.out | refine Below.alloc ?_ (by first | omega | (simp; omega)) _)
set_option maxHeartbeats 4000000 in
theorem rrange_3_0 (w : World) : Calls Try.prog 52 #[.int .u8 3, .int .i64 0] w
    fun e w' => e = .returned (.tuple #[.int .i32 (lo 3 0), .int .i32 (hi 3 0), .int .i64 0]) ∧ Below w.heap.size w w' := by
  go_enter Try.func52, Try.ntmps52
  go_wp2_with fail
  refine (rcount_any _ _ (by decide) (by decide)).mono ?_
  rintro e w1 ⟨rfl, hb⟩
  simp only [show cnt 3 = 3 from rfl]
  have HB := Lib.hid hb
  clear hb
  go_wp2_with fail
  go_ret3
  refine ⟨rfl, ?_⟩
  have hs := HB.out.size
  repeat (first | exact HB.out | refine Below.alloc ?_ (by first | omega | (simp; omega)) _)
set_option maxHeartbeats 4000000 in
theorem rrange_3_1 (w : World) : Calls Try.prog 52 #[.int .u8 3, .int .i64 1] w
    fun e w' => e = .returned (.tuple #[.int .i32 (lo 3 1), .int .i32 (hi 3 1), .int .i64 0]) ∧ Below w.heap.size w w' := by
  go_enter Try.func52, Try.ntmps52
  go_wp2_with fail
  refine (rcount_any _ _ (by decide) (by decide)).mono ?_
  rintro e w1 ⟨rfl, hb⟩
  simp only [show cnt 3 = 3 from rfl]
  have HB := Lib.hid hb
  clear hb
  go_wp2_with fail
  go_ret3
  refine ⟨rfl, ?_⟩
  have hs := HB.out.size
  repeat (first | exact HB.out | refine Below.alloc ?_ (by first | omega | (simp; omega)) _)
set_option maxHeartbeats 4000000 in
theorem rrange_3_2 (w : World) : Calls Try.prog 52 #[.int .u8 3, .int .i64 2] w
    fun e w' => e = .returned (.tuple #[.int .i32 (lo 3 2), .int .i32 (hi 3 2), .int .i64 0]) ∧ Below w.heap.size w w' := by
  go_enter Try.func52, Try.ntmps52
  go_wp2_with fail
  refine (rcount_any _ _ (by decide) (by decide)).mono ?_
  rintro e w1 ⟨rfl, hb⟩
  simp only [show cnt 3 = 3 from rfl]
  have HB := Lib.hid hb
  clear hb
  go_wp2_with fail
  go_ret3
  refine ⟨rfl, ?_⟩
  have hs := HB.out.size
  repeat (first | exact HB.out | refine Below.alloc ?_ (by first | omega | (simp; omega)) _)
set_option maxHeartbeats 4000000 in
theorem rrange_4_0 (w : World) : Calls Try.prog 52 #[.int .u8 4, .int .i64 0] w
    fun e w' => e = .returned (.tuple #[.int .i32 (lo 4 0), .int .i32 (hi 4 0), .int .i64 0]) ∧ Below w.heap.size w w' := by
  go_enter Try.func52, Try.ntmps52
  go_wp2_with fail
  refine (rcount_any _ _ (by decide) (by decide)).mono ?_
  rintro e w1 ⟨rfl, hb⟩
  simp only [show cnt 4 = 3 from rfl]
  have HB := Lib.hid hb
  clear hb
  go_wp2_with fail
  go_ret3
  refine ⟨rfl, ?_⟩
  have hs := HB.out.size
  repeat (first | exact HB.out | refine Below.alloc ?_ (by first | omega | (simp; omega)) _)
set_option maxHeartbeats 4000000 in
theorem rrange_4_1 (w : World) : Calls Try.prog 52 #[.int .u8 4, .int .i64 1] w
    fun e w' => e = .returned (.tuple #[.int .i32 (lo 4 1), .int .i32 (hi 4 1), .int .i64 0]) ∧ Below w.heap.size w w' := by
  go_enter Try.func52, Try.ntmps52
  go_wp2_with fail
  refine (rcount_any _ _ (by decide) (by decide)).mono ?_
  rintro e w1 ⟨rfl, hb⟩
  simp only [show cnt 4 = 3 from rfl]
  have HB := Lib.hid hb
  clear hb
  go_wp2_with fail
  go_ret3
  refine ⟨rfl, ?_⟩
  have hs := HB.out.size
  repeat (first | exact HB.out | refine Below.alloc ?_ (by first | omega | (simp; omega)) _)
set_option maxHeartbeats 4000000 in
theorem rrange_4_2 (w : World) : Calls Try.prog 52 #[.int .u8 4, .int .i64 2] w
    fun e w' => e = .returned (.tuple #[.int .i32 (lo 4 2), .int .i32 (hi 4 2), .int .i64 0]) ∧ Below w.heap.size w w' := by
  go_enter Try.func52, Try.ntmps52
  go_wp2_with fail
  refine (rcount_any _ _ (by decide) (by decide)).mono ?_
  rintro e w1 ⟨rfl, hb⟩
  simp only [show cnt 4 = 3 from rfl]
  have HB := Lib.hid hb
  clear hb
  go_wp2_with fail
  go_ret3
  refine ⟨rfl, ?_⟩
  have hs := HB.out.size
  repeat (first | exact HB.out | refine Below.alloc ?_ (by first | omega | (simp; omega)) _)
set_option maxHeartbeats 4000000 in
theorem rrange_5_0 (w : World) : Calls Try.prog 52 #[.int .u8 5, .int .i64 0] w
    fun e w' => e = .returned (.tuple #[.int .i32 (lo 5 0), .int .i32 (hi 5 0), .int .i64 0]) ∧ Below w.heap.size w w' := by
  go_enter Try.func52, Try.ntmps52
  go_wp2_with fail
  refine (rcount_any _ _ (by decide) (by decide)).mono ?_
  rintro e w1 ⟨rfl, hb⟩
  simp only [show cnt 5 = 3 from rfl]
  have HB := Lib.hid hb
  clear hb
  go_wp2_with fail
  go_ret3
  refine ⟨rfl, ?_⟩
  have hs := HB.out.size
  repeat (first | exact HB.out | refine Below.alloc ?_ (by first | omega | (simp; omega)) _)
set_option maxHeartbeats 4000000 in
theorem rrange_5_1 (w : World) : Calls Try.prog 52 #[.int .u8 5, .int .i64 1] w
    fun e w' => e = .returned (.tuple #[.int .i32 (lo 5 1), .int .i32 (hi 5 1), .int .i64 0]) ∧ Below w.heap.size w w' := by
  go_enter Try.func52, Try.ntmps52
  go_wp2_with fail
  refine (rcount_any _ _ (by decide) (by decide)).mono ?_
  rintro e w1 ⟨rfl, hb⟩
  simp only [show cnt 5 = 3 from rfl]
  have HB := Lib.hid hb
  clear hb
  go_wp2_with fail
  go_ret3
  refine ⟨rfl, ?_⟩
  have hs := HB.out.size
  repeat (first | exact HB.out | refine Below.alloc ?_ (by first | omega | (simp; omega)) _)
set_option maxHeartbeats 4000000 in
theorem rrange_5_2 (w : World) : Calls Try.prog 52 #[.int .u8 5, .int .i64 2] w
    fun e w' => e = .returned (.tuple #[.int .i32 (lo 5 2), .int .i32 (hi 5 2), .int .i64 0]) ∧ Below w.heap.size w w' := by
  go_enter Try.func52, Try.ntmps52
  go_wp2_with fail
  refine (rcount_any _ _ (by decide) (by decide)).mono ?_
  rintro e w1 ⟨rfl, hb⟩
  simp only [show cnt 5 = 3 from rfl]
  have HB := Lib.hid hb
  clear hb
  go_wp2_with fail
  go_ret3
  refine ⟨rfl, ?_⟩
  have hs := HB.out.size
  repeat (first | exact HB.out | refine Below.alloc ?_ (by first | omega | (simp; omega)) _)

theorem rrange_any (k : Int) (i : Nat) (w : World) (h0 : 0 ≤ k) (hlt : i < cnt k) : Calls Try.prog 52 #[.int .u8 k, .int .i64 i] w
    fun e w' => e = .returned (.tuple #[.int .i32 (lo k i), .int .i32 (hi k i), .int .i64 0]) ∧ Below w.heap.size w w' := by
  have hk : k = 0 ∨ k = 1 ∨ k = 2 ∨ k = 3 ∨ k = 4 ∨ k = 5 := by
    unfold cnt at hlt
    by_cases h : k ≤ 5
    · omega
    · exfalso; repeat (first | omega | split at hlt)
  have hi3 : i = 0 ∨ i = 1 ∨ i = 2 := by have := cnt_le k; omega
  rcases hk with rfl | rfl | rfl | rfl | rfl | rfl <;> rcases hi3 with rfl | rfl | rfl
  · exact rrange_0_0 w
  · exact rrange_0_1 w
  · exact absurd hlt (by decide)
  · exact rrange_1_0 w
  · exact rrange_1_1 w
  · exact absurd hlt (by decide)
  · exact rrange_2_0 w
  · exact absurd hlt (by decide)
  · exact absurd hlt (by decide)
  · exact rrange_3_0 w
  · exact rrange_3_1 w
  · exact rrange_3_2 w
  · exact rrange_4_0 w
  · exact rrange_4_1 w
  · exact rrange_4_2 w
  · exact rrange_5_0 w
  · exact rrange_5_1 w
  · exact rrange_5_2 w
end Go.Proofs.Ytbklglckmhfmcaa
