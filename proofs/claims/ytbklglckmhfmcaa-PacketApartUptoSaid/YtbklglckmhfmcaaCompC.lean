/- comp: put, Put, PutStep. -/
import Derived.Test.YtbklglckmhfmcaaCompB
import Derived.Test.YtbklglckmhfmcaaPut
set_option linter.unusedVariables false
set_option linter.unusedSimpArgs false
namespace Go.Proofs.Ytbklglckmhfmcaa
open Go.RowKit
set_option maxRecDepth 100000

/-- The parts' bits. -/
def partsL (l : List Part) : List Bool := l.flatMap fun p => bitsOf p.v.toNat p.n.toNat
theorem partsL_length (l : List Part) (h : ∀ p ∈ l, p.wf) : ((partsL l).length : Int) = sizeP l := by
  induction l with
  | nil => rfl
  | cons p r ih =>
    have h1 := ih fun q hq => h q (List.mem_cons_of_mem _ hq)
    have h2 := (h p (List.mem_cons_self)).n0
    have e : sizeP (p :: r) = p.n + sizeP r := by unfold sizeP; simp only [List.map_cons, List.foldl_cons]; rw [foldl_n]; omega
    rw [e, partsL, List.flatMap_cons, List.length_append, bitsOf_length]
    rw [partsL] at h1
    omega
theorem partsL_snoc (l : List Part) (p : Part) : partsL (l ++ [p]) = partsL l ++ bitsOf p.v.toNat p.n.toNat := by simp [partsL]
def putsE (l : List Bool) (ps : List Part) : Int := if 1048576 < l.length + sizeP ps then 3 else 0
def putsL (l : List Bool) (ps : List Part) : List Bool := if putsE l ps = 0 then l ++ partsL ps else l
theorem fit_zero (p : Part) (h : p.wf) (l : List Bool) (hl : l.length + p.n ≤ 1048576) : putL l p.v p.n = l ++ bitsOf p.v.toNat p.n.toNat := by
  have h0 : putE l p.v p.n = 0 := by
    unfold putE
    rw [if_neg, if_neg (by omega)]
    rintro ⟨_, h1⟩
    exact h1 (Int.ediv_eq_zero_of_lt h.v0 h.fit)
  rw [putL, if_pos h0]

set_option maxHeartbeats 4000000 in
theorem puts_any (b g : Nat) (l : List Bool) (Z : Nat → Prop) (v : Value) (ps : List Part) (w : World) (h : Wr w b g l) (hp : RP Z w v ps) (hz : ∀ k, zn b g k → Z k) (hwf : ∀ p ∈ ps, p.wf) (hlen : ps.length ≤ 1000) :
    Calls Try.prog 64 #[.pointer (some ⟨b, 0, none⟩), v] w
      fun e w' => e = .returned (.int .i64 (putsE l ps)) ∧ ∃ g', Wr w' b g' (putsL l ps) ∧ Stp (zn b g) w (zn b g') w' := by
  obtain ⟨A, cap, rfl, hcap1, hcap2⟩ := hp.form
  have hle := h.le
  have hsb := sizeP_bd ps hwf
  have hpl := partsL_length ps hwf
  have HWF := Lib.hid hwf
  have HPL := Lib.hid hpl
  have hlt0 := h.lt
  have HH := Lib.hid h
  have HP0 := Lib.hid hp
  clear hwf hpl
  go_enter Try.func64, Try.ntmps64
  go_wp2_with fail
  refine (len_any _ _ _ _ h).mono ?_
  rintro e w0 ⟨rfl, rfl⟩
  go_wp2_with fail
  refine (size_any Z _ ps _ hp HWF.out hlen).mono ?_
  rintro e w1 ⟨rfl, hb⟩
  have hw1 := HH.out.stp (Stp.of_below (Z := fun _ => False) hb) id id
  have hp1 := HP0.out.below hb
  have hs1 : Stp (zn b g) w0 (zn b g) w1 := .of_below hb
  clear hp h hb
  by_cases hL : 1048576 < l.length + sizeP ps
  · have he : putsE l ps = 3 := if_pos hL
    have hl : putsL l ps = l := if_neg (by rw [he]; decide)
    have HE := Lib.hid he
    have HL := Lib.hid hl
    clear he hl
    go_wp2_with fail
    go_ret
    rw [HE.out, HL.out]
    exact ⟨rfl, g, hw1, hs1⟩
  · have he : putsE l ps = 0 := if_neg hL
    have hl : putsL l ps = l ++ partsL ps := if_pos he
    have HE := Lib.hid he
    have HL := Lib.hid hl
    clear he hl
    have HW1 := Lib.hid hw1
    have HP1 := Lib.hid hp1
    have HS1 := Lib.hid hs1
    clear hw1 hp1 hs1
    go_wp2_with fail
    go_loopg [15] ps.length (fun gk s15 wx => ∃ i g', i + gk = ps.length ∧ s15 = .int .i64 i ∧ Wr wx b g' (l ++ partsL (ps.take i)) ∧ Stp (zn b g) w1 (zn b g') wx)
    case atStart => exact ⟨0, g, by omega, rfl, by simpa [partsL] using HW1.out, .refl _ _⟩
    case round =>
      obtain ⟨i, g', hi, rfl, hwx, hsx⟩ := hrel
      by_cases hlt : i < ps.length
      · obtain ⟨p, hpi⟩ : ∃ p, ps[i]? = some p := ⟨_, List.getElem?_eq_getElem hlt⟩
        obtain ⟨b', o', rfl, hzb, hbl, c0, c1⟩ := HP1.out.at hpi
        have hzz : ¬ zn b g b' := fun hk => hzb (hz _ hk)
        have d0 := (hsx.cell b' (o' + i * 2) hbl hzz).trans c0
        have d1 := (hsx.cell b' (o' + i * 2 + 1) hbl hzz).trans c1
        have hbl2 : b' < wr.heap.size := Nat.lt_of_lt_of_le hbl hsx.size
        have hwp := HWF.out p (List.mem_of_getElem? hpi)
        have htk := take_at hpi
        have hnx : (l ++ partsL (ps.take i)).length + p.n ≤ 1048576 := by
          have h1 := partsL_length (ps.take (i + 1)) (fun q hq => HWF.out q (List.mem_of_mem_take hq))
          have h2 : sizeP ps = sizeP (ps.take (i + 1)) + sizeP (ps.drop (i + 1)) := by rw [← sizeP_append, List.take_append_drop]
          have h3 := sizeP_bd (ps.drop (i + 1)) (fun q hq => HWF.out q (List.mem_of_mem_drop hq))
          rw [htk, partsL_snoc, List.length_append, bitsOf_length, ← htk] at h1
          have := hwp.n0
          rw [List.length_append]
          omega
        have hst := fit_zero p hwp _ hnx
        rw [List.append_assoc, ← partsL_snoc, ← htk] at hst
        have HST := Lib.hid hst
        have HWX := Lib.hid hwx
        have HSX := Lib.hid hsx
        have hp0 := hwp.n0
        have hp1 := hwp.n1
        have hp2 := hwp.v0
        have hp3 : p.v < 18446744073709551616 := by
          have h1 := hwp.fit
          have h2 : p.n.toNat ≤ 20 := by omega
          have h3 : (2 : Int) ^ p.n.toNat ≤ 2 ^ 20 := by exact_mod_cast Nat.pow_le_pow_right (show 0 < 2 by omega) h2
          omega
        have hL2 : (i : Int) < (ps.length : Int) := by omega
        clear hpi c0 c1 hwp htk hnx hst hwx hsx hzb hzz
        go_wp2_with fail
        refine (put_any _ _ _ _ _ _ (HWX.out.stp (Stp.of_below (Z := fun _ => False) ((Below.refl _ _).alloc (Nat.le_refl _) _)) id id) hp0 (by omega) hp2 hp3).mono ?_
        rintro e w2 ⟨rfl, g2, hw2, hs2⟩
        rw [HST.out] at hw2
        go_wp2_with fail
        go_roundg (gk - 1)
        case measure => omega
        case rel => exact ⟨i + 1, g2, by omega, by simp, hw2, (HSX.out.alloc _).trans hs2⟩
      · have hil : i = ps.length := by omega
        subst hil
        have ht : ps.take ps.length = ps := List.take_length
        rw [ht] at hwx
        have hL2 : ¬ (ps.length : Int) < (ps.length : Int) := by omega
        have HWX := Lib.hid hwx
        clear ht hi hlt hwx
        go_wp2_with fail
        go_ret
        rw [HE.out, HL.out]
        exact ⟨rfl, g', HWX.out, HS1.out.trans hsx⟩
end Go.Proofs.Ytbklglckmhfmcaa
