/- Contracts of schema's tables: at, Range, Count, Told. -/
import Derived.Test.YtbklglckmhfmcaaSchemaOf
set_option linter.unusedVariables false
set_option linter.unusedSimpArgs false
namespace Go.Proofs.Ytbklglckmhfmcaa
open Go.RowKit
set_option maxRecDepth 100000

@[go_sem] theorem field_kind1 (nm : ByteArray) (b : Bool) (v : Value) (w : World) : (Instr.field 123 (.agg #[.string nm, .bool b, v]) 1).run Try.prog w = .ok (.bool b) w := by kernel_rfl
@[go_sem] theorem field_kind2 (nm : ByteArray) (b : Bool) (v : Value) (w : World) : (Instr.field 123 (.agg #[.string nm, .bool b, v]) 2).run Try.prog w = .ok v w := by kernel_rfl
set_option maxHeartbeats 1000000 in
theorem count_any (k : Int) (w : World) (h0 : 0 ≤ k) (h1 : k ≤ 255) : Calls Try.prog 75 #[.int .u8 k] w fun e w' => e = .returned (.int .i64 (cnt k)) ∧ Below w.heap.size w w' := by
  go_enter Try.func75, Try.ntmps75
  go_wp2_with (go_at_call 71; refine (of_any _ _ h0 h1).mono ?_; rintro e w' ⟨nm, v, rfl, ⟨A, cap, rfl, -⟩, hb⟩)
  go_ret
  exact ⟨rfl, hb⟩
set_option maxHeartbeats 1000000 in
theorem told_any (k : Int) (w : World) (h0 : 0 ≤ k) (h1 : k ≤ 255) : Calls Try.prog 60 #[.int .u8 k] w fun e w' => e = .returned (.bool (told k)) ∧ Below w.heap.size w w' := by
  go_enter Try.func60, Try.ntmps60
  go_wp2_with (go_at_call 71; refine (of_any _ _ h0 h1).mono ?_; rintro e w' ⟨nm, v, rfl, ⟨A, cap, rfl, -⟩, hb⟩)
  go_ret
  exact ⟨rfl, hb⟩
set_option maxHeartbeats 1000000 in
theorem at_any (k : Int) (i : Nat) (w : World) (h0 : 0 ≤ k) (h1 : k ≤ 255) (hlt : i < cnt k) : Calls Try.prog 84 #[.int .u8 k, .int .i64 i] w
    fun e w' => e = .returned (.tuple #[.agg #[.string (fname k i), .int .i32 (lo k i), .int .i32 (hi k i)], .bool true]) ∧ Below w.heap.size w w' := by
  obtain ⟨q1, q2, q3⟩ := fcells_get k i hlt
  have hc3 := cnt_le k
  have HQ := Lib.hid (And.intro q1 (And.intro q2 q3))
  clear q1 q2 q3
  have i0 : (0 : Int) ≤ (i : Int) := by omega
  have i1 : (i : Int) < (cnt k : Int) := by omega
  go_enter Try.func84, Try.ntmps84
  go_wp2_with fail
  refine (of_any _ _ h0 h1).mono ?_
  rintro e w' ⟨nm, v, rfl, ⟨A, cap, rfl, -, h3, h4, h5⟩, hb⟩
  obtain ⟨b, o, rfl, hz, hbl, hcs⟩ := h5 (by omega)
  have c0 := hcs _ _ HQ.out.1
  have c1 := hcs _ _ HQ.out.2.1
  have c2 := hcs _ _ HQ.out.2.2
  simp only [← Nat.add_assoc] at c0 c1 c2
  have hb1 : b ≠ w.heap.size := fun e => hz (by simp [e])
  obtain ⟨hce, hfe⟩ := bcell hb
  have hsz := hb.size
  clear h5 hcs
  go_wp2_with fail
  exact bodyPost_ret (v := .tuple #[.agg #[.string (fname k i), .int .i32 (lo k i), .int .i32 (hi k i)], .bool true]) (by simp [results, Try.results84, go_sem, hce, hfe]) rfl
    ⟨rfl, ((((((Below.refl _ _).alloc (Nat.le_refl _) _).trans (hb.mono (by simp))).setCell (by simp) _).setCell (by simp) _).setCell (by simp) _)⟩
set_option maxHeartbeats 1000000 in
theorem range_any (k : Int) (i : Nat) (w : World) (h0 : 0 ≤ k) (h1 : k ≤ 255) (hlt : i < cnt k) : Calls Try.prog 82 #[.int .u8 k, .int .i64 i] w
    fun e w' => e = .returned (.tuple #[.int .i32 (lo k i), .int .i32 (hi k i), .int .i64 0]) ∧ Below w.heap.size w w' := by
  go_enter Try.func82, Try.ntmps82
  go_wp2_with fail
  refine (at_any _ _ _ h0 h1 hlt).mono ?_
  rintro e w' ⟨rfl, hb⟩
  go_wp2_with fail
  go_quiet (fail)
  go_wp2_with fail
  go_ret3
  exact ⟨rfl, below_drewN (hb.alloc hb.size _) _⟩
end Go.Proofs.Ytbklglckmhfmcaa
