/- pinnaceref05.Check, List. -/
import Derived.Test.YtbklglckmhfmcaaRefA
set_option linter.unusedVariables false
set_option linter.unusedSimpArgs false
namespace Go.Proofs.Ytbklglckmhfmcaa
open Go.RowKit
set_option maxRecDepth 100000

set_option maxHeartbeats 4000000 in
theorem rcheck_any (c : Comp) (w : World) (hc : c.wf) : Calls Try.prog 30 #[c.v] w fun e w' => e = .returned (.int .i64 (checkE c)) ∧ Below w.heap.size w w' := by
  obtain ⟨k0, k1, hf⟩ := hc
  have HF := Lib.hid hf
  clear hf
  unfold Comp.v
  go_enter Try.func30, Try.ntmps30
  go_wp2_with fail
  refine (rcount_any _ _ k0 k1).mono ?_
  rintro e w' ⟨rfl, hb⟩
  have hbx := (BoxC.new w c).below hb
  have hB : Below w.heap.size w w' := ((Below.refl _ _).alloc (Nat.le_refl _) _).trans (hb.mono (by simp))
  have hn3 := cnt_le c.k
  have hn3i : (cnt c.k : Int) ≤ 3 := by omega
  have HBX := Lib.hid hbx
  have HB := Lib.hid hB
  have hce := hbx.k
  have hBl := heap_lt hbx
  clear hb hbx hB
  by_cases hz : cnt c.k = 0
  · have hz1 : ((cnt c.k : Int) == 0) = true := by simp; omega
    have he : checkE c = 1 := if_pos hz
    have HE := Lib.hid he
    clear hz he
    go_wp2_with fail
    go_ret
    rw [HE.out]
    exact ⟨rfl, HB.out⟩
  · have hz1 : ((cnt c.k : Int) == 0) = false := by simp; omega
    have HZ := Lib.hid hz
    clear hz
    go_wp2_with fail
    go_loopg [4] (3 - cnt c.k) (fun g s4 wx => ∃ i : Nat, i + g = 3 ∧ cnt c.k ≤ i ∧ s4 = .int .i64 i ∧ w' = wx ∧ ∀ j, cnt c.k ≤ j → j < i → c.f j = 0)
    case atStart => exact ⟨cnt c.k, by omega, Nat.le_refl _, rfl, rfl, fun j h1 h2 => by omega⟩
    case round =>
      obtain ⟨i, hi, hci, rfl, rfl, hall⟩ := hrel
      have HALL := Lib.hid hall
      clear hall
      by_cases hlt : i < 3
      · have hcell := HBX.out.f i hlt
        have hi3 : (i : Int) < 3 := by omega
        by_cases hz : c.f i = 0
        · have hz1 : (c.f i != 0) = false := by simp [hz]
          have HZ2 := Lib.hid hz
          clear hz
          go_wp2_with fail
          go_roundg (gk - 1)
          case measure => omega
          case rel => exact ⟨i + 1, by omega, by omega, by simp, rfl, fun j h1 h2 => by
            by_cases h3 : j = i
            · rw [h3]; exact HZ2.out
            · exact HALL.out j h1 (by omega)⟩
        · have hz1 : (c.f i != 0) = true := by simpa using hz
          have he : checkE c = 4 := by unfold checkE; rw [if_neg HZ.out, if_pos (okTail_false c _ hlt hci hz)]
          have HE := Lib.hid he
          clear hz he
          go_wp2_with fail
          go_ret
          rw [HE.out]
          exact ⟨rfl, HB.out⟩
      · have hjd : i = 3 := by omega
        subst hjd
        have ht : okTail c = true := okTail_true c (fun i h1 h2 => HALL.out i h1 h2)
        have HT := Lib.hid ht
        clear ht hlt hi hci
        go_wp2_with fail
        go_loopg [25] (cnt c.k) (fun g s25 wx => ∃ i : Nat, i + g = cnt c.k ∧ s25 = .int .i64 i ∧ Below w'.heap.size w' wx ∧ ∀ j, j < i → lo c.k j ≤ c.f j ∧ c.f j ≤ hi c.k j)
        case atStart => exact ⟨0, by omega, rfl, .refl _ _, fun j h1 => by omega⟩
        case round =>
          obtain ⟨i, hgi, rfl, hbw, hall⟩ := hrel
          have HALL2 := Lib.hid hall
          have HBW := Lib.hid hbw
          clear hall
          have hbx := HBX.out.below hbw
          have hce2 := hbx.k
          have hBl2 := heap_lt hbx
          by_cases hlt : i < cnt c.k
          · have hL : (i : Int) < (cnt c.k : Int) := by omega
            clear hbx hbw hce
            go_wp2_with fail
            refine (rrange_any c.k i _ k0 hlt).mono ?_
            rintro e w2 ⟨rfl, hb2⟩
            have hbw2 := HBW.out.trans (hb2.mono HBW.out.size)
            have hbx := HBX.out.below hbw2
            have hcell := hbx.f i (by omega)
            have hBl3 := heap_lt hbx
            have hi3 : (i : Int) < 3 := by omega
            have HBW2 := Lib.hid hbw2
            clear hbx hbw2 hb2 hce2
            by_cases hlo : c.f i < lo c.k i
            · have hlo1 : decide (c.f i < lo c.k i) = true := by simpa using hlo
              have he : checkE c = 5 := by unfold checkE; rw [if_neg HZ.out, if_neg (by simp [HT.out]), if_pos (okRange_false c i hlt (.inl hlo))]
              have HE := Lib.hid he
              clear he
              go_wp2_with fail
              go_ret
              rw [HE.out]
              exact ⟨rfl, HB.out.trans (HBW2.out.mono HB.out.size)⟩
            · by_cases hhi : hi c.k i < c.f i
              · have hlo1 : decide (c.f i < lo c.k i) = false := by simpa using hlo
                have hhi1 : decide (hi c.k i < c.f i) = true := by simpa using hhi
                have he : checkE c = 5 := by unfold checkE; rw [if_neg HZ.out, if_neg (by simp [HT.out]), if_pos (okRange_false c i hlt (.inr hhi))]
                have HE := Lib.hid he
                clear he
                go_wp2_with fail
                go_ret
                rw [HE.out]
                exact ⟨rfl, HB.out.trans (HBW2.out.mono HB.out.size)⟩
              · have hlo1 : decide (c.f i < lo c.k i) = false := by simpa using hlo
                have hhi1 : decide (hi c.k i < c.f i) = false := by simpa using hhi
                have hok : lo c.k i ≤ c.f i ∧ c.f i ≤ hi c.k i := by omega
                have HOK := Lib.hid hok
                clear hok
                go_wp2_with fail
                go_roundg (gk - 1)
                case measure => omega
                case rel => exact ⟨i + 1, by omega, by simp, HBW2.out, fun j h1 => by
                  by_cases h3 : j = i
                  · rw [h3]; exact HOK.out
                  · exact HALL2.out j (by omega)⟩
          · have hjd : i = cnt c.k := by omega
            subst hjd
            have he : checkE c = 0 := by
              unfold checkE; rw [if_neg HZ.out, if_neg (by simp [HT.out]), if_neg (by simp [okRange_true c (fun i h => HALL2.out i h)])]
            have HE := Lib.hid he
            clear he hlt hgi hbx hbw hce hce2
            go_wp2_with fail
            go_ret
            rw [HE.out]
            exact ⟨rfl, HB.out.trans (HBW.out.mono HB.out.size)⟩

set_option maxHeartbeats 4000000 in
theorem rlist_any (Z : Nat → Prop) (v : Value) (l : List Comp) (w : World) (h : RC Z w v l) : Calls Try.prog 15 #[v] w fun e w' => e = .returned (.int .i64 (listE l)) ∧ Below w.heap.size w w' := by
  obtain ⟨A, cap, rfl, hcap1, hcap2⟩ := h.form
  have HH := Lib.hid h
  clear h
  go_enter Try.func15, Try.ntmps15
  go_wp2_with fail
  go_loopg [3, 9] l.length (fun g s3 s9 wx => ∃ i, i + g = l.length ∧ s9 = .int .i64 i ∧ s3 = .int .i64 (prevK l i) ∧ Below w.heap.size w wx ∧ listE l = lfrom (prevK l i) (l.drop i))
  case atStart => exact ⟨0, by omega, rfl, rfl, .refl _ _, by simp [listE, prevK]⟩
  case round =>
    obtain ⟨i, hi, rfl, rfl, hbw, hinv⟩ := hrel
    have HI := Lib.hid hinv
    have HBW := Lib.hid hbw
    clear hinv
    by_cases hlt : i < l.length
    · obtain ⟨c, hci⟩ : ∃ c, l[i]? = some c := ⟨_, List.getElem?_eq_getElem hlt⟩
      obtain ⟨b, o, rfl, hz, hbl, hwf, c0, c1, c2, c3⟩ := (HH.out.below hbw).at hci
      have hdr := drop_at hci
      have HDR := Lib.hid hdr
      have HC := Lib.hid hci
      have hk0 := hwf.k0
      have hk1 := hwf.k1
      obtain ⟨p, hp⟩ : ∃ p, p = prevK l i := ⟨_, rfl⟩
      rw [← hp]
      have HP := Lib.hid hp
      have hwr : IntKind.i64.wrap c.k = c.k := IntWalk.i64_in _ (by omega)
      clear hbw hci hdr hp
      have hL : (i : Int) < (l.length : Int) := by omega
      go_wp2_with fail
      refine (rcheck_any c _ hwf).mono ?_
      rintro e w' ⟨rfl, hb⟩
      have hx := (hb.block wr.heap.size (by simp)).trans (BoxC.new wr c)
      have hx0 := BoxC.k hx
      have hxl := heap_lt hx
      have hB1 : Below w.heap.size w w' := (HBW.out.alloc HBW.out.size _).trans (hb.mono (by have := HBW.out.size; simp; omega))
      have HB1 := Lib.hid hB1
      clear hb hx hB1 c0 c1 c2 c3
      by_cases he : checkE c = 0
      · have he1 : (checkE c != 0) = false := by simp [he]
        have hE := Lib.hid he
        clear he
        by_cases hle : c.k ≤ p
        · have hle1 : decide (c.k ≤ p) = true := by simpa using hle
          have hl : listE l = 4 := by rw [HI.out, HDR.out, lfrom, if_neg (by simp [hE.out]), if_pos (by rw [← HP.out]; exact hle)]
          have HL := Lib.hid hl
          clear hl
          go_wp2_with fail
          go_ret
          rw [HL.out]
          exact ⟨rfl, HB1.out⟩
        · have hle1 : decide (c.k ≤ p) = false := by simpa using hle
          have hl : listE l = lfrom c.k (l.drop (i + 1)) := by rw [HI.out, HDR.out, lfrom, if_neg (by simp [hE.out]), if_neg (by rw [← HP.out]; exact hle)]
          have HL := Lib.hid hl
          clear hl
          go_wp2_with fail
          go_roundg (gk - 1)
          case measure => omega
          case rel => exact ⟨i + 1, by omega, by simp, by simp [prevK, HC.out, hwr], HB1.out, by rw [HL.out]; simp [prevK, HC.out]⟩
      · have he1 : (checkE c != 0) = true := by simpa using he
        have hl : listE l = checkE c := by rw [HI.out, HDR.out, lfrom, if_pos he]
        have HL := Lib.hid hl
        clear hl he
        go_wp2_with fail
        go_ret
        rw [HL.out]
        exact ⟨rfl, HB1.out⟩
    · have hil : i = l.length := by omega
      have hl : listE l = 0 := by rw [HI.out, hil, List.drop_length]; rfl
      have HL := Lib.hid hl
      have hL : ¬ (i : Int) < (l.length : Int) := by omega
      clear hl hil hi hlt
      go_wp2_with fail
      go_ret
      rw [HL.out]
      exact ⟨rfl, HBW.out⟩
end Go.Proofs.Ytbklglckmhfmcaa
