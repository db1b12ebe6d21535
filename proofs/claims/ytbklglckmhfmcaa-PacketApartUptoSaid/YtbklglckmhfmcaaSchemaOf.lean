/- Contracts of schema's tables: of, at, Range, Count, Told. -/
import Derived.Test.YtbklglckmhfmcaaNums
import Derived.Deep.QuietTactic
import Derived.BigQuiet
set_option linter.unusedVariables false
set_option linter.unusedSimpArgs false
namespace Go.Proofs.Ytbklglckmhfmcaa
open Go.RowKit

/-- How many fields a kind has; their bounds. -/
def cnt (k : Int) : Nat := if k = 0 then 2 else if k = 1 then 2 else if k = 2 then 1 else if k = 3 then 3 else if k = 4 then 3 else if k = 5 then 3 else 0
def lo (k : Int) (i : Nat) : Int := if k = 0 then -524288 else if k = 1 then -32768 else if k = 3 ∧ i = 2 then 1 else if k = 5 ∧ i = 0 then 1 else 0
def hi (k : Int) (i : Nat) : Int :=
  if k = 0 then 524287 else if k = 1 then 32767 else if k = 2 then 4095
  else if k = 3 then (if i = 0 then 15 else if i = 1 then 1000 else 100)
  else if k = 4 then (if i = 0 then 7 else if i = 1 then 255 else 31)
  else (if i = 0 then 255 else if i = 1 then 254 else 15)
def told (k : Int) : Bool := decide (k < 5)
def fname (k : Int) (i : Nat) : ByteArray :=
  if k = 0 then (if i = 0 then ⟨#[120]⟩ else ⟨#[121]⟩) else if k = 1 then (if i = 0 then ⟨#[100, 120]⟩ else ⟨#[100, 121]⟩) else if k = 2 then ⟨#[108, 101, 102, 116]⟩
  else if k = 3 then (if i = 0 then ⟨#[115, 104, 97, 112, 101]⟩ else if i = 1 then ⟨#[104, 112]⟩ else ⟨#[115, 105, 122, 101]⟩)
  else if k = 4 then (if i = 0 then ⟨#[116, 101, 97, 109]⟩ else if i = 1 then ⟨#[99, 111, 108, 111, 114]⟩ else ⟨#[102, 108, 97, 103, 115]⟩)
  else (if i = 0 then ⟨#[101, 118, 101, 114, 121]⟩ else if i = 1 then ⟨#[108, 101, 102, 116]⟩ else ⟨#[115, 104, 97, 112, 101]⟩)
theorem cnt_le (k : Int) : cnt k ≤ 3 := by unfold cnt; repeat (first | omega | split)
theorem lohi (k : Int) (i : Nat) : -524288 ≤ lo k i ∧ lo k i ≤ hi k i ∧ hi k i ≤ 524287 := by
  unfold lo hi; refine ⟨?_, ?_, ?_⟩ <;> repeat (first | omega | split)
/-- A kind's row of fields, as it lies in memory. -/
def fcells (k : Int) : List Value := (List.range (cnt k)).flatMap fun i => [.string (fname k i), .int .i32 (lo k i), .int .i32 (hi k i)]
theorem fcells_length (k : Int) : (fcells k).length = cnt k * 3 := by
  unfold fcells; rw [List.length_flatMap]; simp [Nat.mul_comm]; rw [List.map_const']; simp [Nat.mul_comm]
theorem flat3_get {α : Type} (f g h : Nat → α) (n i : Nat) (hi : i < n) :
    ((List.range n).flatMap fun i => [f i, g i, h i])[i * 3]? = some (f i) ∧ ((List.range n).flatMap fun i => [f i, g i, h i])[i * 3 + 1]? = some (g i) ∧ ((List.range n).flatMap fun i => [f i, g i, h i])[i * 3 + 2]? = some (h i) := by
  induction n with
  | zero => omega
  | succ n ih =>
    rw [List.range_succ, List.flatMap_append]
    have hl : ((List.range n).flatMap fun i => [f i, g i, h i]).length = n * 3 := by rw [List.length_flatMap]; simp; rw [List.map_const']; simp [Nat.mul_comm]
    by_cases hin : i < n
    · obtain ⟨a, b, c⟩ := ih hin
      refine ⟨?_, ?_, ?_⟩
      · rw [List.getElem?_append_left (by omega)]; exact a
      · rw [List.getElem?_append_left (by omega)]; exact b
      · rw [List.getElem?_append_left (by omega)]; exact c
    · have : i = n := by omega
      subst this
      refine ⟨?_, ?_, ?_⟩
      · rw [List.getElem?_append_right (by omega)]; simp [hl]
      · rw [List.getElem?_append_right (by omega)]; simp [hl]
      · rw [List.getElem?_append_right (by omega)]; simp [hl]
theorem fcells_get (k : Int) (i : Nat) (hlt : i < cnt k) : (fcells k)[i * 3]? = some (.string (fname k i)) ∧ (fcells k)[i * 3 + 1]? = some (.int .i32 (lo k i)) ∧ (fcells k)[i * 3 + 2]? = some (.int .i32 (hi k i)) := by
  unfold fcells; exact flat3_get _ _ _ _ _ hlt

theorem Cells.new (w : World) (cs : Array Value) (T : TypeId) : Cells (w.alloc (.cells cs T)) w.heap.size 0 cs.toList := by
  intro i v hv
  have := heap_alloc_new w (.cells cs T)
  simp only [World.cell?, this, Option.isSome_none, Bool.false_eq_true, if_false, Nat.zero_add]
  rw [← Array.getElem?_toList]; exact hv
theorem Cells.new1 (w : World) (o : Obj) (cs : Array Value) (T : TypeId) : Cells ((w.alloc o).alloc (.cells cs T)) (w.heap.size + 1) 0 cs.toList := by
  have := Cells.new (w.alloc o) cs T
  simpa using this

/-- What schema.of hands back. -/
def OfPost (k : Int) (w : World) (e : Ending) (w' : World) : Prop :=
  ∃ nm v, e = .returned (.agg #[.string nm, .bool (told k), v]) ∧ Sl (fun j => j < w.heap.size) w' 3 v (cnt k) (fcells k) ∧ Below w.heap.size w w'
theorem of_end (k : Int) (w : World) (nm : ByteArray) (b : Bool) (cs : List Value) (n : Nat) (hn : n ≤ 3) (hb : b = told k) (hcs : cs = fcells k) (hk : n = cnt k) (o : Obj) (T : TypeId) :
    OfPost k w (.returned (.agg #[.string nm, .bool b, .slice (some ⟨w.heap.size + 1, 0, none⟩) n n])) ((w.alloc o).alloc (.cells cs.toArray T)) := by
  subst hb hcs hk
  refine ⟨nm, _, rfl, ⟨_, _, rfl, fcells_length k, Nat.le_refl _, by omega, fun _ => ⟨_, 0, rfl, by omega, by simp, ?_⟩⟩, ((Below.refl _ _).alloc (Nat.le_refl _) _).alloc (by simp) _⟩
  have := Cells.new1 w o (fcells k).toArray T
  simpa using this
set_option maxRecDepth 100000
set_option maxHeartbeats 1000000 in
theorem of_any (k : Int) (w : World) (h0 : 0 ≤ k) (h1 : k ≤ 255) : Calls Try.prog 71 #[.int .u8 k] w (OfPost k w) := by
  by_cases k0 : k = 0
  · subst k0
    go_enter Try.func71, Try.ntmps71
    go_wp2
    exact bodyPost_ret (by simp [results, Try.results71, go_sem]; rfl) rfl (of_end 0 w _ true _ 2 (by omega) (by decide) rfl (by decide) _ _)
  by_cases k1 : k = 1
  · subst k1
    go_enter Try.func71, Try.ntmps71
    go_wp2
    exact bodyPost_ret (by simp [results, Try.results71, go_sem]; rfl) rfl (of_end 1 w _ true _ 2 (by omega) (by decide) rfl (by decide) _ _)
  by_cases k2 : k = 2
  · subst k2
    go_enter Try.func71, Try.ntmps71
    go_wp2
    exact bodyPost_ret (by simp [results, Try.results71, go_sem]; rfl) rfl (of_end 2 w _ true _ 1 (by omega) (by decide) rfl (by decide) _ _)
  by_cases k3 : k = 3
  · subst k3
    go_enter Try.func71, Try.ntmps71
    go_wp2
    exact bodyPost_ret (by simp [results, Try.results71, go_sem]; rfl) rfl (of_end 3 w _ true _ 3 (by omega) (by decide) rfl (by decide) _ _)
  by_cases k4 : k = 4
  · subst k4
    go_enter Try.func71, Try.ntmps71
    go_wp2
    exact bodyPost_ret (by simp [results, Try.results71, go_sem]; rfl) rfl (of_end 4 w _ true _ 3 (by omega) (by decide) rfl (by decide) _ _)
  by_cases k5 : k = 5
  · subst k5
    go_enter Try.func71, Try.ntmps71
    go_wp2
    exact bodyPost_ret (by simp [results, Try.results71, go_sem]; rfl) rfl (of_end 5 w _ false _ 3 (by omega) (by decide) rfl (by decide) _ _)
  have n0 : (k == 0) = false := by simpa using k0
  have n1 : (k == 1) = false := by simpa using k1
  have n2 : (k == 2) = false := by simpa using k2
  have n3 : (k == 3) = false := by simpa using k3
  have n4 : (k == 4) = false := by simpa using k4
  have n5 : (k == 5) = false := by simpa using k5
  have hc : cnt k = 0 := by unfold cnt; simp [k0, k1, k2, k3, k4, k5]
  have hf : fcells k = [] := by unfold fcells; rw [hc]; rfl
  have ht : told k = false := by unfold told; simp; omega
  have HC := Lib.hid hc
  have HF := Lib.hid hf
  have HT := Lib.hid ht
  clear hc hf ht k0 k1 k2 k3 k4 k5
  go_enter Try.func71, Try.ntmps71
  go_wp2
  refine bodyPost_ret (v := .agg #[.string ⟨#[]⟩, .bool false, .slice none 0 0]) (by simp [results, Try.results71, go_sem]) rfl ⟨_, .slice none 0 0, by rw [HT.out], ?_, (Below.refl _ _).alloc (Nat.le_refl _) _⟩
  rw [HC.out, HF.out]
  exact Sl.nil _ _ _

end Go.Proofs.Ytbklglckmhfmcaa
