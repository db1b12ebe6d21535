/- pinnaceref03.Sum. -/
import Derived.Test.YtbklglckmhfmcaaRefG
set_option linter.unusedVariables false
set_option linter.unusedSimpArgs false
namespace Go.Proofs.Ytbklglckmhfmcaa
open Go.RowKit
set_option maxRecDepth 100000

theorem dropB {α : Type} {l : List α} {i : Nat} {a : α} (h : l[i]? = some a) : l.drop i = a :: l.drop (i + 1) := by
  obtain ⟨h1, h2⟩ := List.getElem?_eq_some_iff.1 h
  rw [List.drop_eq_getElem_cons h1, h2]
def byCells : Array Value := #[.int .i64 0, .int .i64 1, .int .i64 2, .int .i64 4, .int .i64 5, .int .i64 7, .int .i64 8, .int .i64 10, .int .i64 11, .int .i64 12, .int .i64 16, .int .i64 22, .int .i64 23, .int .i64 26]
theorem by_get (q : Nat) (h : q < 14) : ∃ k : Nat, byL[q]? = some k ∧ byCells[q]? = some (.int .i64 k) ∧ k ≤ 26 := by
  have : ∀ q : Fin 14, ∃ k : Fin 27, byL[q.val]? = some k.val ∧ byCells[q.val]? = some (.int .i64 k.val) := by
    intro q
    match q with
    | 0 => exact ⟨0, rfl, rfl⟩
    | 1 => exact ⟨1, rfl, rfl⟩
    | 2 => exact ⟨2, rfl, rfl⟩
    | 3 => exact ⟨4, rfl, rfl⟩
    | 4 => exact ⟨5, rfl, rfl⟩
    | 5 => exact ⟨7, rfl, rfl⟩
    | 6 => exact ⟨8, rfl, rfl⟩
    | 7 => exact ⟨10, rfl, rfl⟩
    | 8 => exact ⟨11, rfl, rfl⟩
    | 9 => exact ⟨12, rfl, rfl⟩
    | 10 => exact ⟨16, rfl, rfl⟩
    | 11 => exact ⟨22, rfl, rfl⟩
    | 12 => exact ⟨23, rfl, rfl⟩
    | 13 => exact ⟨26, rfl, rfl⟩
  obtain ⟨k, h1, h2⟩ := this ⟨q, h⟩
  exact ⟨k.val, h1, h2, by omega⟩
theorem by_len : byL.length = 14 := rfl
theorem notFirst_succ (L : List Bool) (i : Nat) (b : Bool) (h : L[i]? = some b) : ((L.take i).map (!·) ++ L.drop i).set i (!b) = (L.take (i + 1)).map (!·) ++ L.drop (i + 1) := by
  have hlt := (List.getElem?_eq_some_iff.1 h).1
  have hl : ((L.take i).map (!·)).length = i := by simp; omega
  rw [List.set_append_right _ _ (by omega), hl, Nat.sub_self, List.take_add_one, h, List.map_append]
  rw [List.drop_eq_getElem_cons hlt]
  simp only [Option.toList_some, List.map_cons, List.map_nil, List.append_assoc, List.cons_append, List.nil_append, List.set_cons_zero]
theorem notFirst_get (L : List Bool) (i : Nat) (b : Bool) (h : L[i]? = some b) : ((L.take i).map (!·) ++ L.drop i)[i]? = some b := by
  have hlt := (List.getElem?_eq_some_iff.1 h).1
  have hl : ((L.take i).map (!·)).length = i := by simp; omega
  rw [List.getElem?_append_right (by omega), hl, Nat.sub_self, List.getElem?_drop]; simpa using h

set_option maxHeartbeats 16000000 in
theorem rsum_any (Z : Nat → Prop) (v : Value) (l : List Int) (w : World) (h : RB Z w v l) (hl : l.length ≤ 1000000) :
    Calls Try.prog 50 #[v] w fun e w' => e = .returned (.int .u32 (rsum l)) ∧ Below w.heap.size w w' := by
  obtain ⟨A, cap, rfl, hcap1, hcap2⟩ := h.form
  have HH := Lib.hid h
  clear h
  go_enter Try.func50, Try.ntmps50
  go_wp2_with fail
  refine (rbits_any Z _ l _ HH.out (by omega)).mono ?_
  rintro e w1 ⟨v1, rfl, hm1, hb1⟩
  have HM1 := Lib.hid hm1
  have hs1 := hb1.size
  have HB1 := Lib.hid hb1
  clear hm1 hb1
  go_wp2_with (at_builtin; refine wpl_append_zeros rfl (.tmp 13) (.const (.int .i64 32)) 115 3 rfl 4 .i64 (.bool false) 1 Try.underlying115 Try.underlying3 info_bool rfl rfl w.heap.size v1 _ _ rfl HM1.out (by omega) 32 rfl (by omega) (by omega) (by omega) (by omega) (by unfold maxLen; omega) ?_)
  intro v2 w2 hm2 hb2
  obtain ⟨g, cap2, rfl, hgl, hc2, hc2'⟩ := own_form hm2.own (by omega)
  have hr2 : Row w2 w.heap.size g (8 * l.length + 32) cap2 (bitsL l ++ List.replicate 32 false) := by unfold Row; simpa using hm2
  obtain ⟨L0, hL0⟩ : ∃ L0, L0 = bitsL l ++ List.replicate 32 false := ⟨_, rfl⟩
  rw [← hL0] at hr2
  have HR2 := Lib.hid hr2
  have HB2 := Lib.hid (HB1.out.trans hb2)
  have hL0l : L0.length = 8 * l.length + 32 := hr2.len
  obtain ⟨N, hN⟩ : ∃ N, N = 8 * l.length + 32 := ⟨_, rfl⟩
  rw [← hN] at HR2 hL0l
  have HL0 := Lib.hid hL0
  clear hm2 hb2 hr2 hL0
  simp only [← hN]
  have hN1 : N ≤ 8 * l.length + 32 := by omega
  have hN2 : 8 * l.length + 32 ≤ N := by omega
  have HN := Lib.hid hN
  clear hN
  go_wp2_with fail
  go_loopg [4, 15] 32 (fun gk s4 s15 wx => ∃ i : Nat, i + gk = 32 ∧ s15 = .int .i64 i ∧ Below w.heap.size w wx ∧ Row wx w.heap.size g N cap2 ((L0.take i).map (!·) ++ L0.drop i))
  case atStart => exact ⟨0, by omega, rfl, HB2.out, by simpa using HR2.out⟩
  case round =>
    obtain ⟨i, hi, rfl, hbw, hr⟩ := hrel
    have HBW := Lib.hid hbw
    have HR := Lib.hid hr
    by_cases hlt : i < 32
    · obtain ⟨b, hbi⟩ : ∃ b, L0[i]? = some b := ⟨_, List.getElem?_eq_getElem (by omega)⟩
      obtain ⟨c0, f0, hiN⟩ := hr.at (notFirst_get L0 i b hbi)
      have hp := hr.put i (!b)
      rw [notFirst_succ L0 i b hbi] at hp
      have hb' := hbw.setCell (p := ⟨g, i, none⟩) hr.from.1 (.bool (!b))
      have HP := Lib.hid hp
      have HB' := Lib.hid hb'
      have hL : (i : Int) < 32 := by omega
      have hcN : N ≤ cap2 := hr.from.2.2
      clear hbi hp hb' hbw hr
      go_wp2_with fail
      go_roundg (gk - 1)
      case measure => omega
      case rel => exact ⟨i + 1, by omega, by simp, HB'.out, HP.out⟩
    · have hi32 : i = 32 := by omega
      subst hi32
      have hst : Row wr w.heap.size g N cap2 (startL l) := by rw [startL, ← HL0.out]; exact hr
      have HST := Lib.hid hst
      have hcN : N ≤ cap2 := hr.from.2.2
      have hgl2 := hr.from.2.1
      clear hr hbw HR hst
      go_wp2_with fail
      have hbA : Below wr.heap.size wr (wr.alloc (.cells byCells 3)) := (Below.refl _ _).alloc (Nat.le_refl _) _
      have hby := heap_alloc_new wr (.cells byCells 3)
      have hrA := HST.out.below hbA
      have hBA := HBW.out.trans (hbA.mono HBW.out.size)
      obtain ⟨BY, hBY⟩ : ∃ BY, BY = wr.heap.size := ⟨_, rfl⟩
      rw [← hBY] at hby
      have hne : g ≠ BY := by omega
      unfold byCells at hby hrA hBA
      simp only [← hBY]
      generalize wr.alloc (.cells #[.int .i64 0, .int .i64 1, .int .i64 2, .int .i64 4, .int .i64 5, .int .i64 7, .int .i64 8, .int .i64 10, .int .i64 11, .int .i64 12, .int .i64 16, .int .i64 22, .int .i64 23, .int .i64 26] 3) = W3 at *
      have HBY : Hid (W3.heap[BY]? = some (.cells byCells 3 (0, 0))) := Lib.hid hby
      have HRA := Lib.hid hrA
      have HBA := Lib.hid hBA
      clear hby hrA hBA hbA hBY hgl2
      go_loopg [6] (8 * l.length) (fun gk s6 wx => ∃ i : Nat, i + gk = 8 * l.length ∧ s6 = .int .i64 i ∧ Below w.heap.size w wx ∧ Row wx w.heap.size g N cap2 (divL (startL l) i) ∧ wx.heap[BY]? = some (.cells byCells 3 (0, 0)))
      case atStart => exact ⟨0, by omega, rfl, HBA.out, HRA.out, HBY.out⟩
      case round =>
        obtain ⟨i, hi, rfl, hbw, hr, hby⟩ := hrel
        have HBW2 := Lib.hid hbw
        have HR2 := Lib.hid hr
        have HY2 := Lib.hid hby
        have hlen := hr.len
        by_cases hlt : i < 8 * l.length
        · obtain ⟨b, hbi⟩ : ∃ b, (divL (startL l) i)[i]? = some b := ⟨_, List.getElem?_eq_getElem (by omega)⟩
          obtain ⟨c0, f0, hiN⟩ := hr.at hbi
          have hL : (i : Int) + 32 < (N : Int) := by omega
          have hiN1 : (i : Int) < (N : Int) := by omega
          have hds : divL (startL l) (i + 1) = if b then flipsAt i (divL (startL l) i) byL else divL (startL l) i := by rw [divL_succ, divStep, List.getD, hbi]; rfl
          have HDS := Lib.hid hds
          clear hbi hds hr hbw hby
          cases b with
          | false =>
            go_wp2_with fail
            go_roundg (gk - 1)
            case measure => omega
            case rel => exact ⟨i + 1, by omega, by simp, HBW2.out, by rw [HDS.out]; exact HR2.out, HY2.out⟩
          | true =>
            go_wp2_with fail
            obtain ⟨G, hG⟩ : ∃ G, G = gk := ⟨_, rfl⟩
            subst hG
            go_loopg [8, 42] 14 (fun gk s8 s42 wx => ∃ q : Nat, q + gk = 14 ∧ s42 = .int .i64 q ∧ Below w.heap.size w wx ∧ Row wx w.heap.size g N cap2 (flipsAt i (divL (startL l) i) (byL.take q)) ∧ wx.heap[BY]? = some (.cells byCells 3 (0, 0)))
            case atStart => exact ⟨0, by omega, rfl, HBW2.out, HR2.out, HY2.out⟩
            case round =>
              obtain ⟨q, hq, rfl, hbw, hr, hby⟩ := hrel
              by_cases hq14 : q < 14
              · obtain ⟨k, hk, hkc, hk26⟩ := by_get q hq14
                have y0 := cell_atB hby hkc
                have htk : byL.take (q + 1) = byL.take q ++ [k] := by rw [List.take_add_one, hk]; rfl
                have hlen2 := hr.len
                obtain ⟨j, hj⟩ : ∃ j, j = i + 32 - k := ⟨_, rfl⟩
                obtain ⟨b, hbj⟩ : ∃ b, (flipsAt i (divL (startL l) i) (byL.take q))[j]? = some b := ⟨_, List.getElem?_eq_getElem (by omega)⟩
                obtain ⟨c1, f1, hjN⟩ := hr.at hbj
                have hp := hr.put j (!b)
                have hfl : (flipsAt i (divL (startL l) i) (byL.take q)).set j (!b) = flipsAt i (divL (startL l) i) (byL.take (q + 1)) := by
                  have h1 : ∀ M, flipsAt i M (byL.take q ++ [k]) = flipAt (flipsAt i M (byL.take q)) (i + 32 - k) := fun M => by unfold flipsAt; rw [List.foldl_append]; rfl
                  rw [htk, h1, flipAt, ← hj, List.getD, hbj]; rfl
                rw [hfl] at hp
                have hb' := hbw.setCell (p := ⟨g, j, none⟩) hr.from.1 (.bool (!b))
                have hy' : (wr.setCell ⟨g, j, none⟩ (.bool (!b))).heap[BY]? = some (.cells byCells 3 (0, 0)) := by rw [Below.heap_setCell _ _ _ _ (by simpa using fun e => hne e.symm)]; exact hby
                have HP := Lib.hid hp
                have HB' := Lib.hid hb'
                have HY' := Lib.hid hy'
                have hx1 : IntKind.i64.wrap ((i : Int) + 32) = (i : Int) + 32 := IntWalk.i64_in _ (by omega)
                have hx2 : IntKind.i64.wrap ((i : Int) + 32 - (k : Int)) = (j : Int) := by rw [IntWalk.i64_in _ (by omega)]; omega
                have hj1 : (j : Int) < (N : Int) := by omega
                have hq1 : (q : Int) < 14 := by omega
                clear hk hkc htk hlen2 hj hbj hp hfl hb' hy' hbw hr hby
                go_wp2_with fail
                go_roundg (gk - 1)
                case measure => omega
                case rel => exact ⟨q + 1, by omega, by simp, HB'.out, HP.out, HY'.out⟩
              · have hq15 : q = 14 := by omega
                subst hq15
                have HR3 : Hid (Row wr w.heap.size g N cap2 (flipsAt i (divL (startL l) i) byL)) := Lib.hid hr
                have HB3 := Lib.hid hbw
                have HY3 := Lib.hid hby
                clear hr hbw hby
                go_wp2_with fail
                go_roundg (G - 1)
                case measure => omega
                case rel => exact ⟨i + 1, by omega, by simp, HB3.out, by rw [HDS.out]; simp only [if_true]; exact HR3.out, HY3.out⟩
        · have hil : i = 8 * l.length := by omega
          subst hil
          have hL : ¬ ((8 * l.length : Nat) : Int) + 32 < (N : Int) := by omega
          obtain ⟨D, hD⟩ : ∃ D, D = divL (startL l) (8 * l.length) := ⟨_, rfl⟩
          rw [← hD] at HR2 hlen
          obtain ⟨M, hM⟩ : ∃ M, M = (D.drop (8 * l.length)).map (!·) := ⟨_, rfl⟩
          have hrs : rsum l = num M := by rw [rsum, hM, hD]
          have hMl : M.length = 32 := by rw [hM]; simp; omega
          have HRS := Lib.hid hrs
          have HD := Lib.hid hD
          have HMM := Lib.hid hM
          have HML := Lib.hid hMl
          have HLEN := Lib.hid hlen
          have hx1 : IntKind.i64.wrap ((N : Int) - 32) = ((8 * l.length : Nat) : Int) := by rw [IntWalk.i64_in _ (by omega)]; omega
          have hx2 : ((8 * l.length : Nat) : Int) ≤ (N : Int) := by omega
          have hx3 : ((N : Int) - 32).toNat = 8 * l.length := by omega
          have hx4 : N - 8 * l.length = 32 := by omega
          clear hlt hr hbw hby hrs hMl hM hD hlen
          go_wp2_with fail
          go_loopg [10, 11] 32 (fun gk s10 s11 wx => ∃ m : Nat, m = gk ∧ m ≤ 32 ∧ s11 = .int .i64 ((m : Int) - 1) ∧ s10 = .int .u32 (num (M.drop m) : Nat) ∧ Below w.heap.size w wx ∧ Row wx w.heap.size g N cap2 D)
          case atStart => exact ⟨32, rfl, by omega, rfl, by rw [List.drop_eq_nil_of_le (by rw [HML.out]; omega)]; rfl, HBW2.out, HR2.out⟩
          case round =>
            obtain ⟨m, hmk, hm32, rfl, rfl, hbw, hr⟩ := hrel
            have HBW3 := Lib.hid hbw
            have HR3 := Lib.hid hr
            cases m with
            | zero =>
              have hz : ((0 : Nat) : Int) - 1 = -1 := by omega
              have hrs : rsum l = (num (M.drop 0) : Nat) := by rw [HRS.out]; rfl
              have HRS2 := Lib.hid hrs
              clear hr hbw hrs
              go_wp2_with fail
              go_ret
              rw [HRS2.out]
              exact ⟨rfl, HBW3.out⟩
            | succ m =>
              have hz : ((m + 1 : Nat) : Int) - 1 = (m : Int) := by omega
              obtain ⟨b, hb⟩ : ∃ b, M[m]? = some b := ⟨_, List.getElem?_eq_getElem (by rw [HML.out]; omega)⟩
              have hbD : D[8 * l.length + m]? = some (!b) := by
                have := hb
                rw [HMM.out, List.getElem?_map, List.getElem?_drop] at this
                cases hx : D[8 * l.length + m]? with
                | none => rw [hx] at this; simp at this
                | some y => rw [hx] at this; simp at this; simp [← this]
              obtain ⟨c1, f1, hjN⟩ := hr.at hbD
              have hdr : num (M.drop m) = (if b then 1 else 0) + 2 * num (M.drop (m + 1)) := by rw [dropB hb]; rfl
              have hlt := num_lt (M.drop (m + 1))
              have hle : num (M.drop (m + 1)) < 2147483648 := by
                have h2 : (M.drop (m + 1)).length ≤ 31 := by rw [List.length_drop, HML.out]; omega
                have h3 := Nat.pow_le_pow_right (show 0 < 2 by omega) h2
                have h4 : (2 : Nat) ^ 31 = 2147483648 := by decide
                omega
              obtain ⟨S, hS⟩ : ∃ S, S = num (M.drop (m + 1)) := ⟨_, rfl⟩
              rw [← hS] at hdr hle
              rw [← hS]
              have hw1 : IntKind.u32.wrap ((S : Int) * 2) = (S : Int) * 2 := IntWalk.u32_in _ (by omega)
              have hw2 : IntKind.u32.wrap ((S : Int) * 2 + 1) = (S : Int) * 2 + 1 := IntWalk.u32_in _ (by omega)
              have hm0 : (m : Int) < 32 := by omega
              have HDR := Lib.hid hdr
              clear hr hbw hb hbD hdr hlt hS
              rw [hz]
              clear hz
              cases b with
              | true =>
                go_wp2_with fail
                go_roundg (gk - 1)
                case measure => omega
                case rel => exact ⟨m, by omega, by omega, by simp, by rw [HDR.out]; simp; omega, HBW3.out, HR3.out⟩
              | false =>
                go_wp2_with fail
                go_roundg (gk - 1)
                case measure => omega
                case rel => exact ⟨m, by omega, by omega, by simp, by rw [HDR.out]; simp; omega, HBW3.out, HR3.out⟩
end Go.Proofs.Ytbklglckmhfmcaa
