/- comp: size, more, step, pair. -/
import Derived.Test.YtbklglckmhfmcaaCompA
set_option linter.unusedVariables false
set_option linter.unusedSimpArgs false
namespace Go.Proofs.Ytbklglckmhfmcaa
open Go.RowKit
set_option maxRecDepth 100000

def sizeP (l : List Part) : Int := (l.map Part.n).foldl (· + ·) 0
theorem sizeP_snoc (l : List Part) (p : Part) : sizeP (l ++ [p]) = sizeP l + p.n := by simp [sizeP, List.foldl_append]
theorem foldl_n (l : List Int) (a : Int) : l.foldl (· + ·) a = a + l.foldl (· + ·) 0 := by
  induction l generalizing a with
  | nil => simp
  | cons x r ih => simp only [List.foldl_cons]; rw [ih (a + x), ih (0 + x)]; omega
theorem sizeP_append (l r : List Part) : sizeP (l ++ r) = sizeP l + sizeP r := by
  unfold sizeP; rw [List.map_append, List.foldl_append, foldl_n]
theorem sizeP_bd (l : List Part) (h : ∀ p ∈ l, p.wf) : 0 ≤ sizeP l ∧ sizeP l ≤ 20 * l.length := by
  induction l with
  | nil => simp [sizeP]
  | cons p r ih =>
    have h1 := ih fun q hq => h q (List.mem_cons_of_mem _ hq)
    have h2 := h p (List.mem_cons_self)
    have e : sizeP (p :: r) = p.n + sizeP r := by unfold sizeP; simp only [List.map_cons, List.foldl_cons]; rw [foldl_n]; omega
    rw [e, List.length_cons]
    have := h2.n0
    have := h2.n1
    omega

set_option maxHeartbeats 2000000 in
theorem size_any (Z : Nat → Prop) (v : Value) (l : List Part) (w : World) (h : RP Z w v l) (hwf : ∀ p ∈ l, p.wf) (hl : l.length ≤ 1000) :
    Calls Try.prog 74 #[v] w fun e w' => e = .returned (.int .i64 (sizeP l)) ∧ Below w.heap.size w w' := by
  obtain ⟨A, cap, rfl, hcap1, hcap2⟩ := h.form
  have HWF := Lib.hid hwf
  clear hwf
  go_enter Try.func74, Try.ntmps74
  go_wp2_with fail
  go_loopg [3, 8] l.length (fun g s3 s8 wx => ∃ i, i + g = l.length ∧ s8 = .int .i64 i ∧ s3 = .int .i64 (sizeP (l.take i)) ∧ Below w.heap.size w wx)
  case atStart => exact ⟨0, by omega, rfl, by simp [sizeP], .refl _ _⟩
  case round =>
    obtain ⟨i, hi, rfl, rfl, hbw⟩ := hrel
    have HBW := Lib.hid hbw
    by_cases hlt : i < l.length
    · obtain ⟨p, hpi⟩ : ∃ p, l[i]? = some p := ⟨_, List.getElem?_eq_getElem hlt⟩
      obtain ⟨b, o, rfl, hz, hbl, c0, c1⟩ := (h.below hbw).at hpi
      have hp := HWF.out p (List.mem_of_getElem? hpi)
      have hp0 := hp.n0
      have hp1 := hp.n1
      have hs := sizeP_bd (l.take i) (fun q hq => HWF.out q (List.mem_of_mem_take hq))
      have hs2 : 0 ≤ sizeP (l.take i) ∧ sizeP (l.take i) ≤ 20000 := by rw [List.length_take] at hs; omega
      have he : sizeP (l.take (i + 1)) = sizeP (l.take i) + p.n := by rw [take_at hpi, sizeP_snoc]
      have HE := Lib.hid he
      obtain ⟨S, hS⟩ : ∃ S, S = sizeP (l.take i) := ⟨_, rfl⟩
      rw [← hS] at hs2
      have HS := Lib.hid hS
      have hL : (i : Int) < (l.length : Int) := by omega
      rw [← hS]
      clear hbw hpi hp hs he hS
      go_wp2_with fail
      go_roundg (gk - 1)
      case measure => omega
      case rel => exact ⟨i + 1, by omega, by simp, by rw [HE.out, HS.out], HBW.out.alloc HBW.out.size _⟩
    · have hil : i = l.length := by omega
      subst hil
      have hL : ¬ (l.length : Int) < (l.length : Int) := by omega
      clear hi hlt
      go_wp2_with fail
      go_ret
      exact ⟨rfl, hbw⟩

theorem f_i32 {c : Comp} (hc : c.wf) (i : Nat) : -2147483648 ≤ c.f i ∧ c.f i ≤ 2147483647 := hc.f i
set_option maxHeartbeats 2000000 in
theorem more_any (was c : Comp) (i : Nat) (w : World) (h1 : was.wf) (h2 : c.wf) (hlt : i < 3) :
    Calls Try.prog 76 #[was.v, c.v, .int .i64 i] w fun e w' => e = .returned (.int .u64 (moreZ was c i)) ∧ Below w.heap.size w w' := by
  have hf1 := h1.f i
  have hf2 := h2.f i
  have hx1 : IntKind.i64.wrap (was.f i) = was.f i := IntWalk.i64_in _ (by omega)
  have hx2 : IntKind.i64.wrap (c.f i) = c.f i := IntWalk.i64_in _ (by omega)
  have hx3 : IntKind.i64.wrap (c.f i - was.f i) = c.f i - was.f i := IntWalk.i64_in _ (by omega)
  have hi3 : (i : Int) < 3 := by omega
  have hi0 : (0 : Int) ≤ (i : Int) := by omega
  unfold Comp.v
  go_enter Try.func76, Try.ntmps76
  go_wp2_with fail
  have hbx1 : BoxC ((w.alloc (.cells #[.int .u8 was.k, .int .i32 was.f0, .int .i32 was.f1, .int .i32 was.f2] 48)).alloc (.cells #[.int .u8 c.k, .int .i32 c.f0, .int .i32 c.f1, .int .i32 c.f2] 48)) w.heap.size was :=
    (BoxC.new w was).below ((Below.refl _ _).alloc (Nat.le_refl _) _)
  have hbx2 : BoxC ((w.alloc (.cells #[.int .u8 was.k, .int .i32 was.f0, .int .i32 was.f1, .int .i32 was.f2] 48)).alloc (.cells #[.int .u8 c.k, .int .i32 c.f0, .int .i32 c.f1, .int .i32 c.f2] 48)) (w.heap.size + 1) c := by
    have := BoxC.new (w.alloc (.cells #[.int .u8 was.k, .int .i32 was.f0, .int .i32 was.f1, .int .i32 was.f2] 48)) c
    simpa using this
  have d1 := hbx1.f i hlt
  have d2 := hbx2.f i hlt
  have hB : Below w.heap.size w ((w.alloc (.cells #[.int .u8 was.k, .int .i32 was.f0, .int .i32 was.f1, .int .i32 was.f2] 48)).alloc (.cells #[.int .u8 c.k, .int .i32 c.f0, .int .i32 c.f1, .int .i32 c.f2] 48)) :=
    ((Below.refl _ _).alloc (Nat.le_refl _) _).alloc (by simp) _
  generalize (w.alloc (.cells #[.int .u8 was.k, .int .i32 was.f0, .int .i32 was.f1, .int .i32 was.f2] 48)).alloc (.cells #[.int .u8 c.k, .int .i32 c.f0, .int .i32 c.f1, .int .i32 c.f2] 48) = W at *
  clear hbx1 hbx2
  go_quiet ((go_at_call 81; exact Calls.quiet_of_same (zig_any _ _ (by omega) (by omega))))
  go_wp2_with fail
  go_ret
  exact ⟨rfl, below_drewN hB _⟩

theorem parts_one (l : List Part) : ∀ u ∈ l.flatMap Part.cells, u.oneCell' = true := by
  intro u hu
  rw [List.mem_flatMap] at hu
  obtain ⟨p, _, hu⟩ := hu
  simp [Part.cells] at hu
  rcases hu with rfl | rfl <;> rfl
theorem stepI_len (was c : Comp) (i : Nat) : (stepI was c i).length ≤ 3 := by
  unfold stepI
  split
  · simp
  · split <;> simp
theorem steps_len (was c : Comp) (i : Nat) : ((List.range i).flatMap (stepI was c)).length ≤ 3 * i := by
  induction i with
  | zero => simp
  | succ i ih => rw [List.range_succ, List.flatMap_append, List.length_append]; have := stepI_len was c i; simp only [List.flatMap_cons, List.flatMap_nil, List.append_nil]; omega
theorem step_rel {was c : Comp} {i m : Nat} {w : World} {B : Nat} {v : Value} (news : List Part) (hn : news = stepI was c i)
    (h : Mine w B 128 2 v m (((List.range i).flatMap (stepI was c)).flatMap Part.cells ++ news.flatMap Part.cells)) :
    Mine w B 128 2 v m (((List.range (i + 1)).flatMap (stepI was c)).flatMap Part.cells) := by
  rw [List.range_succ, List.flatMap_append, List.flatMap_append]
  subst hn; simpa using h
set_option maxHeartbeats 4000000 in
theorem step_any (was c : Comp) (w : World) (h1 : was.wf) (h2 : c.wf) (he : checkE c = 0) :
    Calls Try.prog 65 #[was.v, c.v] w fun e w' => ∃ v, e = .returned v ∧ RP (fun j => j < w.heap.size) w' v (stepP was c) ∧ Below w.heap.size w w' := by
  have hcv : c.v = .agg #[.int .u8 c.k, .int .i32 c.f0, .int .i32 c.f1, .int .i32 c.f2] := rfl
  have hwv : was.v = .agg #[.int .u8 was.k, .int .i32 was.f0, .int .i32 was.f1, .int .i32 was.f2] := rfl
  have HCV := Lib.hid hcv
  have HWV := Lib.hid hwv
  rw [hcv, hwv]
  clear hcv hwv
  have hn3 := cnt_le c.k
  have k0 := h2.k0
  have k1 := h2.k1
  go_enter Try.func65, Try.ntmps65
  go_wp2_with fail
  refine (count_any _ _ k0 k1).mono ?_
  rintro e w1 ⟨rfl, hb⟩
  have hbx : BoxC w1 w.heap.size was := ((BoxC.new w was).below ((Below.refl _ _).alloc (Nat.le_refl _) _)).below hb
  have hbc : BoxC w1 (w.heap.size + 1) c := by
    have h0 := BoxC.new (w.alloc (.cells #[.int .u8 was.k, .int .i32 was.f0, .int .i32 was.f1, .int .i32 was.f2] 48)) c
    rw [show (w.alloc (.cells #[.int .u8 was.k, .int .i32 was.f0, .int .i32 was.f1, .int .i32 was.f2] 48)).heap.size = w.heap.size + 1 by simp] at h0
    exact h0.below hb
  have hB : Below w.heap.size w w1 := (((Below.refl _ _).alloc (Nat.le_refl _) _).alloc (by simp) _).trans (hb.mono (by simp; omega))
  have HB := Lib.hid hB
  have HBX := Lib.hid hbx
  have HBC := Lib.hid hbc
  have hsz := heap_lt hbc
  clear hb hB hbx hbc
  go_wp2_with fail
  go_loopg [5, 11] (cnt c.k) (fun g s5 s11 wx => ∃ i m : Nat, i + g = cnt c.k ∧ s11 = .int .i64 i ∧ m ≤ 3 * i ∧ Below w1.heap.size w1 wx ∧ Mine wx w1.heap.size 128 2 s5 m (((List.range i).flatMap (stepI was c)).flatMap Part.cells))
  case atStart => exact ⟨0, 0, by omega, rfl, by omega, .refl _ _, Mine.nil _ _ _ _⟩
  case round =>
    obtain ⟨i, m, hi, rfl, hm3, hbw, hm⟩ := hrel
    have HBW := Lib.hid hbw
    have hszw := hbw.size
    by_cases hlt : i < cnt c.k
    · have hL : (i : Int) < (cnt c.k : Int) := by omega
      have hbx := HBX.out.below hbw
      have hbc := HBC.out.below hbw
      have c0 := hbx.k
      have c1 := hbx.f 0 (by omega)
      have c2 := hbx.f 1 (by omega)
      have c3 := hbx.f 2 (by omega)
      have d0 := hbc.k
      have d1 := hbc.f 0 (by omega)
      have d2 := hbc.f 1 (by omega)
      have d3 := hbc.f 2 (by omega)
      simp only [Comp.f] at c1 c2 c3 d1 d2 d3
      have HM := Lib.hid hm
      have HBC2 := Lib.hid hbc
      obtain ⟨A5, cap5, hv5⟩ := hm.form
      subst hv5
      clear hbw hbx hbc hm
      go_wp2_with fail
      rw [← HCV.out, ← HWV.out]
      refine (more_any was c i _ h1 h2 (by omega)).mono ?_
      rintro e w2 ⟨rfl, hb2⟩
      have hbc2 := HBC2.out.below hb2
      have e0 := hbc2.k
      have e1 := hbc2.f 0 (by omega)
      have e2 := hbc2.f 1 (by omega)
      have e3 := hbc2.f 2 (by omega)
      simp only [Comp.f] at e1 e2 e3
      have hm2 := HM.out.below hb2
      have HB2 := Lib.hid hb2
      have hsz2 := hb2.size
      have hz0 : 0 ≤ moreZ was c i := zig_nonneg _
      clear hb2 hbc2 c0 c1 c2 c3 d0 d1 d2 d3
      by_cases hz : moreZ was c i = 0
      · have hz1 : (moreZ was c i == 0) = true := by simp [hz]
        have hst : [(⟨0, 1⟩ : Part)] = stepI was c i := by unfold stepI; rw [if_pos hz]
        have HST := Lib.hid hst
        clear hz hst
        go_wp2_with (at_builtin; refine wpl_append_mine rfl (.tmp 29) (.tmp 31) 111 rfl 128 (.agg #[.int .u64 0, .int .i64 0]) 2 16 Try.underlying111 info_part rfl (by decide) w1.heap.size _ _ _ rfl (hm2.alloc _) ?hB ⟨w2.heap.size, 0, none⟩ 1 1 (([(⟨0, 1⟩ : Part)]).flatMap Part.cells) rfl rfl (new_row _ _ _ _ rfl) ?c2 ?c3 ?c4 ?_)
        case hB => simp; omega
        case c2 => exact parts_one _
        case c3 => omega
        case c4 => omega
        intro v' w3 hm3 hb3
        have hsz3 := hb3.size
        simp at hsz3
        go_wp2_with fail
        go_roundg (gk - 1)
        case measure => omega
        case rel => exact ⟨i + 1, m + 1, by omega, by simp, by omega, ((HBW.out.trans (HB2.out.mono hszw)).alloc (by omega) _).trans hb3, step_rel _ HST.out hm3⟩
      · have hz1 : (moreZ was c i == 0) = false := by simp [hz]
        by_cases h16 : moreZ was c i ≤ 16
        · have hst : [(⟨1, 1⟩ : Part), ⟨1, 1⟩, ⟨moreZ was c i - 1, 4⟩] = stepI was c i := by unfold stepI; rw [if_neg hz, if_pos h16]
          have HST := Lib.hid hst
          have hz2 : 1 ≤ moreZ was c i := by omega
          clear hz hst
          go_wp2_with (at_builtin; refine wpl_append_mine rfl (.tmp 36) (.tmp 42) 111 rfl 128 (.agg #[.int .u64 0, .int .i64 0]) 2 16 Try.underlying111 info_part rfl (by decide) w1.heap.size _ _ _ rfl (hm2.alloc _) ?hB ⟨w2.heap.size, 0, none⟩ 3 3 (([(⟨1, 1⟩ : Part), ⟨1, 1⟩, ⟨moreZ was c i - 1, 4⟩]).flatMap Part.cells) rfl rfl (new_row _ _ _ _ rfl) ?c2 ?c3 ?c4 ?_)
          case hB => simp; omega
          case c2 => exact parts_one _
          case c3 => omega
          case c4 => omega
          intro v' w3 hm3 hb3
          have hsz3 := hb3.size
          simp at hsz3
          go_wp2_with fail
          go_roundg (gk - 1)
          case measure => omega
          case rel => exact ⟨i + 1, m + 3, by omega, by simp, by omega, ((HBW.out.trans (HB2.out.mono hszw)).alloc (by omega) _).trans hb3, step_rel _ HST.out hm3⟩
        · have hst : [(⟨1, 1⟩ : Part), ⟨0, 1⟩, fieldP c i] = stepI was c i := by unfold stepI; rw [if_neg hz, if_neg h16]
          have HST := Lib.hid hst
          clear hz hst
          go_wp2_with fail
          rw [← HCV.out]
          refine (field_any c i _ h2 he hlt).mono ?_
          rintro e w4 ⟨rfl, hb4⟩
          have hm4 := hm2.below hb4
          have HB4 := Lib.hid hb4
          have hsz4 := hb4.size
          clear hb4 e0 e1 e2 e3
          unfold Part.val
          go_wp2_with (at_builtin; refine wpl_append_mine rfl (.tmp 18) (.tmp 24) 111 rfl 128 (.agg #[.int .u64 0, .int .i64 0]) 2 16 Try.underlying111 info_part rfl (by decide) w1.heap.size _ _ _ rfl (hm4.alloc _) ?hB ⟨w4.heap.size, 0, none⟩ 3 3 (([(⟨1, 1⟩ : Part), ⟨0, 1⟩, fieldP c i]).flatMap Part.cells) rfl rfl (new_row _ _ _ _ rfl) ?c2 ?c3 ?c4 ?_)
          case hB => simp; omega
          case c2 => exact parts_one _
          case c3 => omega
          case c4 => omega
          intro v' w3 hm3 hb3
          have hsz3 := hb3.size
          simp at hsz3
          go_wp2_with fail
          go_roundg (gk - 1)
          case measure => omega
          case rel => exact ⟨i + 1, m + 3, by omega, by simp, by omega, (((HBW.out.trans (HB2.out.mono hszw)).trans (HB4.out.mono (by omega))).alloc (by omega) _).trans hb3, step_rel _ HST.out hm3⟩
    · have hic : i = cnt c.k := by omega
      subst hic
      have hL : ¬ (cnt c.k : Int) < (cnt c.k : Int) := by omega
      have HM := Lib.hid hm
      clear hi hlt hm
      go_wp2_with fail
      go_ret
      exact ⟨_, rfl, (RP.mine HM.out).anti (fun k _ hk => by omega), HB.out.trans (hbw.mono HB.out.size)⟩

def pairE (was c : Comp) : Int := if checkE was ≠ 0 then checkE was else if checkE c ≠ 0 then checkE c else if was.k ≠ c.k then 4 else 0
set_option maxHeartbeats 4000000 in
theorem pair_any (was c : Comp) (w : World) (h1 : was.wf) (h2 : c.wf) :
    Calls Try.prog 63 #[was.v, c.v] w fun e w' => e = .returned (.int .i64 (pairE was c)) ∧ Below w.heap.size w w' := by
  have hcv : c.v = .agg #[.int .u8 c.k, .int .i32 c.f0, .int .i32 c.f1, .int .i32 c.f2] := rfl
  have hwv : was.v = .agg #[.int .u8 was.k, .int .i32 was.f0, .int .i32 was.f1, .int .i32 was.f2] := rfl
  have HCV := Lib.hid hcv
  have HWV := Lib.hid hwv
  rw [hcv, hwv]
  clear hcv hwv
  go_enter Try.func63, Try.ntmps63
  go_wp2_with fail
  rw [← HWV.out]
  refine (check_any was _ h1).mono ?_
  rintro e w1 ⟨rfl, hb⟩
  have hbx : BoxC w1 w.heap.size was := ((BoxC.new w was).below ((Below.refl _ _).alloc (Nat.le_refl _) _)).below hb
  have hbc : BoxC w1 (w.heap.size + 1) c := by
    have h0 := BoxC.new (w.alloc (.cells #[.int .u8 was.k, .int .i32 was.f0, .int .i32 was.f1, .int .i32 was.f2] 48)) c
    rw [show (w.alloc (.cells #[.int .u8 was.k, .int .i32 was.f0, .int .i32 was.f1, .int .i32 was.f2] 48)).heap.size = w.heap.size + 1 by simp] at h0
    exact h0.below hb
  have hB : Below w.heap.size w w1 := (((Below.refl _ _).alloc (Nat.le_refl _) _).alloc (by simp) _).trans (hb.mono (by simp; omega))
  have HB := Lib.hid hB
  have HBX := Lib.hid hbx
  have HBC := Lib.hid hbc
  have d0 := hbc.k
  have d1 := hbc.f 0 (by omega)
  have d2 := hbc.f 1 (by omega)
  have d3 := hbc.f 2 (by omega)
  simp only [Comp.f] at d1 d2 d3
  clear hb hB hbx hbc
  by_cases e1 : checkE was = 0
  · have f1 : (checkE was != 0) = false := by simp [e1]
    have E1 := Lib.hid e1
    clear e1
    go_wp2_with fail
    rw [← HCV.out]
    refine (check_any c _ h2).mono ?_
    rintro e w2 ⟨rfl, hb2⟩
    have c0 := (HBX.out.below hb2).k
    have g0 := (HBC.out.below hb2).k
    have HB2 := Lib.hid hb2
    clear hb2 d0 d1 d2 d3
    by_cases e2 : checkE c = 0
    · have f2 : (checkE c != 0) = false := by simp [e2]
      have E2 := Lib.hid e2
      clear e2
      by_cases hk : was.k = c.k
      · have f3 : (was.k != c.k) = false := by simp [hk]
        have he : pairE was c = 0 := by unfold pairE; rw [if_neg (by simp [E1.out]), if_neg (by simp [E2.out]), if_neg (by simp [hk])]
        have HE := Lib.hid he
        clear hk he
        go_wp2_with fail
        go_ret
        rw [HE.out]
        exact ⟨rfl, HB.out.trans (HB2.out.mono HB.out.size)⟩
      · have f3 : (was.k != c.k) = true := by simpa using hk
        have he : pairE was c = 4 := by unfold pairE; rw [if_neg (by simp [E1.out]), if_neg (by simp [E2.out]), if_pos hk]
        have HE := Lib.hid he
        clear hk he
        go_wp2_with fail
        go_ret
        rw [HE.out]
        exact ⟨rfl, HB.out.trans (HB2.out.mono HB.out.size)⟩
    · have f2 : (checkE c != 0) = true := by simpa using e2
      have he : pairE was c = checkE c := by unfold pairE; rw [if_neg (by simp [E1.out]), if_pos e2]
      have HE := Lib.hid he
      clear e2 he
      go_wp2_with fail
      go_ret
      rw [HE.out]
      exact ⟨rfl, HB.out.trans (HB2.out.mono HB.out.size)⟩
  · have f1 : (checkE was != 0) = true := by simpa using e1
    have he : pairE was c = checkE was := by unfold pairE; rw [if_pos e1]
    have HE := Lib.hid he
    clear e1 he
    go_wp2_with fail
    go_ret
    rw [HE.out]
    exact ⟨rfl, HB.out⟩
end Go.Proofs.Ytbklglckmhfmcaa
