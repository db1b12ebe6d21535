/- Components: what they are, as values and in memory; schema.Check. -/
import Derived.Test.YtbklglckmhfmcaaSchema
import Derived.Deep.DeepCutAuto
import Derived.Deep.LoopGhost
import Derived.Deep.CutBlock
set_option linter.unusedVariables false
set_option linter.unusedSimpArgs false
namespace Go.Proofs.Ytbklglckmhfmcaa
open Go.RowKit
set_option maxRecDepth 100000

/-- A component. -/
structure Comp where
  k : Int
  f0 : Int
  f1 : Int
  f2 : Int
  deriving DecidableEq
/-- Its fields by number. -/
def Comp.f (c : Comp) : Nat → Int
  | 0 => c.f0
  | 1 => c.f1
  | _ => c.f2
/-- What Go's types let it be. -/
structure Comp.wf (c : Comp) : Prop where
  k0 : 0 ≤ c.k
  k1 : c.k ≤ 255
  f : ∀ i, -2147483648 ≤ c.f i ∧ c.f i ≤ 2147483647
/-- As a value; as cells. -/
def Comp.v (c : Comp) : Value := .agg #[.int .u8 c.k, .int .i32 c.f0, .int .i32 c.f1, .int .i32 c.f2]
def Comp.cells (c : Comp) : List Value := [.int .u8 c.k, .int .i32 c.f0, .int .i32 c.f1, .int .i32 c.f2]

/-- schema.Check. -/
def okTail (c : Comp) : Bool := (List.range 3).all fun i => decide (i < cnt c.k) || decide (c.f i = 0)
def okRange (c : Comp) : Bool := (List.range (cnt c.k)).all fun i => decide (lo c.k i ≤ c.f i) && decide (c.f i ≤ hi c.k i)
def checkE (c : Comp) : Int := if cnt c.k = 0 then 1 else if okTail c = false then 4 else if okRange c = false then 5 else 0

theorem cell_at {w : World} {B o : Nat} {cs : Array Value} {T : TypeId} {fz : Nat × Nat} {v : Value} (h : w.heap[B]? = some (.cells cs T fz)) (hi : cs[o]? = some v) : w.cell? ⟨B, o, none⟩ = some v := by
  simp only [World.cell?, h, Option.isSome_none, Bool.false_eq_true, if_false]; exact hi
theorem unfrozen {w : World} {B o : Nat} {cs : Array Value} {T : TypeId} (h : w.heap[B]? = some (.cells cs T (0, 0))) : w.frozen? ⟨B, o, none⟩ = false := by
  simp [World.frozen?, h]
/-- A box that holds a component. -/
def BoxC (w : World) (B : Nat) (c : Comp) : Prop := w.heap[B]? = some (.cells c.cells.toArray 48 (0, 0))
theorem BoxC.k {w : World} {B : Nat} {c : Comp} (h : BoxC w B c) : w.cell? ⟨B, 0, none⟩ = some (.int .u8 c.k) := cell_at h rfl
theorem BoxC.f {w : World} {B : Nat} {c : Comp} (h : BoxC w B c) (i : Nat) (hi : i < 3) : w.cell? ⟨B, 1 + i, none⟩ = some (.int .i32 (c.f i)) := by
  match i, hi with
  | 0, _ => exact cell_at h rfl
  | 1, _ => exact cell_at h rfl
  | 2, _ => exact cell_at h rfl
theorem BoxC.below {w w' : World} {B : Nat} {c : Comp} (h : BoxC w B c) (hb : Below w.heap.size w w') : BoxC w' B c := (hb.block B (heap_lt h)).trans h
theorem BoxC.new (w : World) (c : Comp) : BoxC (w.alloc (.cells #[.int .u8 c.k, .int .i32 c.f0, .int .i32 c.f1, .int .i32 c.f2] 48)) w.heap.size c := heap_alloc_new w _

theorem okTail_false (c : Comp) (i : Nat) (h : i < 3) (hc : cnt c.k ≤ i) (hf : c.f i ≠ 0) : okTail c = false := by
  unfold okTail
  rw [List.all_eq_false]
  exact ⟨i, by simp [h], by simp; omega⟩
theorem okTail_true (c : Comp) (h : ∀ i, cnt c.k ≤ i → i < 3 → c.f i = 0) : okTail c = true := by
  unfold okTail
  rw [List.all_eq_true]
  intro i hi
  simp at hi ⊢
  by_cases hc : i < cnt c.k
  · exact .inl hc
  · exact .inr (h i (by omega) hi)
theorem okRange_false (c : Comp) (i : Nat) (h : i < cnt c.k) (hf : c.f i < lo c.k i ∨ hi c.k i < c.f i) : okRange c = false := by
  unfold okRange
  rw [List.all_eq_false]
  exact ⟨i, by simp [h], by simp; omega⟩
theorem okRange_true (c : Comp) (h : ∀ i, i < cnt c.k → lo c.k i ≤ c.f i ∧ c.f i ≤ hi c.k i) : okRange c = true := by
  unfold okRange
  rw [List.all_eq_true]
  intro i hi
  simp at hi ⊢
  exact h i hi

set_option maxHeartbeats 2000000 in
theorem check_any (c : Comp) (w : World) (hc : c.wf) : Calls Try.prog 70 #[c.v] w fun e w' => e = .returned (.int .i64 (checkE c)) ∧ Below w.heap.size w w' := by
  obtain ⟨k0, k1, hf⟩ := hc
  have HF := Lib.hid hf
  clear hf
  unfold Comp.v
  go_enter Try.func70, Try.ntmps70
  go_wp2_with fail
  refine (of_any _ _ k0 k1).mono ?_
  rintro e w' ⟨nm, v, rfl, hsl, hb⟩
  have hbx := (BoxC.new w c).below hb
  have hB : Below w.heap.size w w' := ((Below.refl _ _).alloc (Nat.le_refl _) _).trans (hb.mono (by simp))
  obtain ⟨A, cap, rfl, h2, h3, h4, h5⟩ := hsl
  have hn3 := cnt_le c.k
  have hn3i : (cnt c.k : Int) ≤ 3 := by omega
  obtain ⟨B, hBe⟩ : ∃ B, B = w.heap.size := ⟨_, rfl⟩
  rw [← hBe] at hbx
  have HBX := Lib.hid hbx
  have hce := hbx.k
  clear h2 hb hbx
  by_cases hz : cnt c.k = 0
  · have hz1 : ((cnt c.k : Int) == 0) = true := by simp; omega
    have he : checkE c = 1 := if_pos hz
    have HE := Lib.hid he
    clear hz he h5
    go_wp2_with fail
    go_ret
    rw [HE.out]
    exact ⟨rfl, hB⟩
  · have hz1 : ((cnt c.k : Int) == 0) = false := by simp; omega
    have hzp : 0 < cnt c.k := by omega
    have HZ := Lib.hid hz
    have H5 := Lib.hid h5
    clear hz h5
    subst hBe
    go_upto_region 4 with (fail)
    go_cut [16, 17, 18, 19, 20] (fun s16 s17 s18 s19 s20 wx => ∃ o d : Nat, d + cnt c.k = 3 ∧ s18 = .slice (some ⟨w.heap.size, o, none⟩) d d ∧ (0 < d → o = 1 + cnt c.k) ∧ s19 = .int .i64 d ∧ s20 = .int .i64 0 ∧ w' = wx)
    case first =>
      go_wp2_with fail
      · go_meet
        exact ⟨1, 0, by omega, rfl, by omega, rfl, rfl, rfl⟩
      · go_meet
        exact ⟨1 + cnt c.k, 3 - cnt c.k, by omega, rfl, fun _ => rfl, rfl, rfl, rfl⟩
    case rest =>
      obtain ⟨o, d, hd, rfl, ho, rfl, rfl, rfl⟩ := hcut
      have HD := Lib.hid hd
      have HO := Lib.hid ho
      have hd3 : (d : Int) ≤ 3 := by omega
      clear hd ho
      go_wp2_with fail
      go_loopg [20] d (fun g s20 wx => ∃ j, j + g = d ∧ s20 = .int .i64 j ∧ w' = wx ∧ ∀ i, cnt c.k ≤ i → i < cnt c.k + j → c.f i = 0)
      case atStart => exact ⟨0, by omega, rfl, rfl, fun i h1 h2 => by omega⟩
      case round =>
        obtain ⟨j, hj, rfl, rfl, hall⟩ := hrel
        have HALL := Lib.hid hall
        clear hall
        by_cases hlt : j < d
        · have hcell := HBX.out.f (cnt c.k + j) (by have := HD.out; omega)
          rw [show 1 + (cnt c.k + j) = o + j by have := HO.out (by omega); omega] at hcell
          have hfw := HF.out (cnt c.k + j)
          by_cases hz : c.f (cnt c.k + j) = 0
          · have hz1 : (c.f (cnt c.k + j) != 0) = false := by simp [hz]
            have HZ2 := Lib.hid hz
            clear hz
            go_wp2_with fail
            go_roundg (gk - 1)
            case measure => omega
            case rel => exact ⟨j + 1, by omega, by simp, rfl, fun i h1 h2 => by
              by_cases h3 : i = cnt c.k + j
              · rw [h3]; exact HZ2.out
              · exact HALL.out i h1 (by omega)⟩
          · have hz1 : (c.f (cnt c.k + j) != 0) = true := by simpa using hz
            have he : checkE c = 4 := by unfold checkE; rw [if_neg HZ.out, if_pos (okTail_false c _ (by have := HD.out; omega) (by omega) hz)]
            have HE := Lib.hid he
            clear hz he
            go_wp2_with fail
            go_ret
            rw [HE.out]
            exact ⟨rfl, hB⟩
        · have hjd : j = d := by omega
          subst hjd
          have ht : okTail c = true := okTail_true c (fun i h1 h2 => HALL.out i h1 (by have := HD.out; omega))
          have HT := Lib.hid ht
          clear ht hlt hj
          go_wp2_with fail
          go_loopg [29] (cnt c.k) (fun g s29 wx => ∃ i : Nat, i + g = cnt c.k ∧ s29 = .int .i64 i ∧ Below w'.heap.size w' wx ∧ ∀ j, j < i → lo c.k j ≤ c.f j ∧ c.f j ≤ hi c.k j)
          case atStart => exact ⟨0, by omega, rfl, .refl _ _, fun j h1 => by omega⟩
          case round =>
            obtain ⟨i, hi, rfl, hbw, hall⟩ := hrel
            have HALL2 := Lib.hid hall
            clear hall
            by_cases hlt : i < cnt c.k
            · obtain ⟨b, o, rfl, hzb, hbl, hcs⟩ := H5.out (by omega)
              obtain ⟨q1, q2, q3⟩ := fcells_get c.k i hlt
              have c0 := hcs _ _ q1
              have c1 := hcs _ _ q2
              have c2 := hcs _ _ q3
              simp only [← Nat.add_assoc] at c0 c1 c2
              rw [← hbw.cell (p := ⟨b, o + i * 3, none⟩) hbl] at c0
              rw [← hbw.cell (p := ⟨b, o + i * 3 + 1, none⟩) hbl] at c1
              rw [← hbw.cell (p := ⟨b, o + i * 3 + 2, none⟩) hbl] at c2
              have hbx := HBX.out.below hbw
              have hcell := hbx.f i (by omega)
              have hbl2 := heap_lt hbx
              have hbl3 : b < wr.heap.size := Nat.lt_of_lt_of_le hbl hbw.size
              have hi3 : (i : Int) < 3 := by omega
              have hi3n : i < 3 := by omega
              have HBW := Lib.hid hbw
              have HH := Lib.hid hi
              clear hcs q1 q2 q3 hbx hbw hi
              have hL : (i : Int) < (cnt c.k : Int) := by omega
              by_cases hlo : c.f i < lo c.k i
              · have hlo1 : decide (c.f i < lo c.k i) = true := by simpa using hlo
                have he : checkE c = 5 := by unfold checkE; rw [if_neg HZ.out, if_neg (by simp [HT.out]), if_pos (okRange_false c i hlt (.inl hlo))]
                have HE := Lib.hid he
                clear he
                go_wp2_with fail
                go_quiet (fail)
                go_wp2_with fail
                go_ret
                rw [HE.out]
                exact ⟨rfl, hB.trans (below_drewN ((HBW.out.alloc HBW.out.size _).mono hB.size) _)⟩
              · by_cases hhi : hi c.k i < c.f i
                · have hlo1 : decide (c.f i < lo c.k i) = false := by simpa using hlo
                  have hhi1 : decide (hi c.k i < c.f i) = true := by simpa using hhi
                  have he : checkE c = 5 := by unfold checkE; rw [if_neg HZ.out, if_neg (by simp [HT.out]), if_pos (okRange_false c i hlt (.inr hhi))]
                  have HE := Lib.hid he
                  clear he
                  go_wp2_with fail
                  go_quiet (fail)
                  go_wp2_with fail
                  go_ret
                  rw [HE.out]
                  exact ⟨rfl, hB.trans (below_drewN ((HBW.out.alloc HBW.out.size _).mono hB.size) _)⟩
                · have hlo1 : decide (c.f i < lo c.k i) = false := by simpa using hlo
                  have hhi1 : decide (hi c.k i < c.f i) = false := by simpa using hhi
                  have HLH := Lib.hid (And.intro hlo hhi)
                  clear hlo hhi
                  go_wp2_with fail
                  go_quiet (fail)
                  go_wp2_with fail
                  go_roundg (gk - 1)
                  case measure => have := HH.out; omega
                  case rel => exact ⟨i + 1, by have := HH.out; omega, by simp, below_drewN (HBW.out.alloc HBW.out.size _) _, fun j hj => by
                    by_cases h3 : j = i
                    · subst h3; have := HLH.out; omega
                    · exact HALL2.out j (by omega)⟩
            · have hic : i = cnt c.k := by omega
              have he : checkE c = 0 := by
                unfold checkE; rw [if_neg HZ.out, if_neg (by simp [HT.out]), if_neg (by rw [okRange_true c (fun j hj => HALL2.out j (by omega))]; simp)]
              have HE := Lib.hid he
              have hL : ¬ (i : Int) < (cnt c.k : Int) := by omega
              clear he hic hi hlt
              go_wp2_with fail
              go_ret
              rw [HE.out]
              exact ⟨rfl, hB.trans (hbw.mono hB.size)⟩
end Go.Proofs.Ytbklglckmhfmcaa
