/- packet.writer.delta. -/
import Derived.Test.YtbklglckmhfmcaaDeltaA
import Derived.Deep.DeepCutAuto
import Derived.Deep.LoopGhost
import Derived.Deep.CutBlock
set_option linter.unusedVariables false
set_option linter.unusedSimpArgs false
namespace Go.Proofs.Ytbklglckmhfmcaa
open Go.RowKit
set_option maxRecDepth 100000

set_option maxHeartbeats 16000000 in
theorem delta_any (c b g : Nat) (s : WS) (v dv : Value) (was : List Ent) (dl : Delta) (w : World) (h : PW w c b g s) (hv : RE (pz c b g) w v was) (hd : RD (pz c b g) w dv dl) (hl : was.length ≤ 4611686018427387904) (hr : Rising was) :
    Calls Try.prog 24 #[.pointer (some ⟨c, 0, none⟩), v, dv] w
      fun x w' => x = .returned (.tuple #[]) ∧ ∃ g', PW w' c b g' (s.delta was dl) ∧ Stp (pz c b g) w (pz c b g') w' := by
  obtain ⟨vg, vc, vh, rfl, hg, hc, hh⟩ := hd.out
  obtain ⟨Aw, cw, rfl, hcw, hcw'⟩ := hv.form
  obtain ⟨Ag, cg, rfl, hcg, hcg'⟩ := hg.form
  obtain ⟨Ac, cc, rfl, hcc, hcc'⟩ := hc.form
  obtain ⟨Ah, ch, rfl, hch, hch'⟩ := hh.form
  have HV := Lib.hid hv
  have HH := Lib.hid h
  have HG := Lib.hid hg
  have HC := Lib.hid hc
  have HHH := Lib.hid hh
  have HR := Lib.hid hr
  have hlt := h.lt
  clear h hv hd hg hc hh hr
  go_enter Try.func24, Try.ntmps24
  go_wp2_with fail
  refine (count_any' c b g s dl.gone.length _ (HH.out.below ((Below.refl _ _).alloc (Nat.le_refl _) _)) (by omega)).mono ?_
  rintro x w1 ⟨rfl, g1, h1, hs1⟩
  have hbx : Held (pz c b g) (w.alloc (.cells #[.slice Ag dl.gone.length cg, .slice Ac dl.come.length cc, .slice Ah dl.chg.length ch] 63)) w.heap.size #[.slice Ag dl.gone.length cg, .slice Ac dl.come.length cc, .slice Ah dl.chg.length ch] 63 :=
    Held.new _ _ (by rintro k (hk | hk | hk) <;> omega)
  obtain ⟨D, hD⟩ : ∃ D, D = w.heap.size := ⟨_, rfl⟩
  rw [← hD] at hbx
  simp only [← hD]
  clear hD
  have hb0 : Below w.heap.size w (w.alloc (.cells #[.slice Ag dl.gone.length cg, .slice Ac dl.come.length cc, .slice Ah dl.chg.length ch] 63)) := (Below.refl _ _).alloc (Nat.le_refl _) _
  have hst1 := (Stp.of_below (Z := pz c b g) hb0).trans hs1
  have hlt1 := h1.lt
  have hEnv : EnvD (pz c b g1) w1 (.slice Aw was.length cw) was D (.slice Ag dl.gone.length cg) (.slice Ac dl.come.length cc) (.slice Ah dl.chg.length ch) dl :=
    ⟨HV.out.stp hst1, hbx.stp hs1, HG.out.stp hst1, HC.out.stp hst1, HHH.out.stp hst1⟩
  have p0 := hEnv.box.at (o := 0) rfl
  have hDl := hEnv.box.lt
  have H1 := Lib.hid h1
  have HE1 := Lib.hid hEnv
  have HS1 := Lib.hid hst1
  clear hbx hb0 hs1 h1 hEnv hst1
  go_wp2_with fail
  -- the running ID
  obtain ⟨d, hd⟩ : ∃ d, d = w1.heap.size := ⟨_, rfl⟩
  have hdb : (w1.alloc (.cells #[.int .u32 0] 40)).heap[d]? = some (.cells #[.int .u32 0] 40 (0, 0)) := by rw [hd]; exact heap_alloc_new w1 _
  have hb1 : Below w1.heap.size w1 (w1.alloc (.cells #[.int .u32 0] 40)) := (Below.refl _ _).alloc (Nat.le_refl _) _
  have hdz : ¬ pz c b g1 d := by rintro (hk | hk | hk) <;> omega
  have hst2 : Stp (pz c b g1) w1 (pzd c b g1 d) (w1.alloc (.cells #[.int .u32 0] 40)) := (Stp.of_below (Z := pz c b g1) hb1).re (fun k hk => by
    rcases hk with hk | hk
    · exact Or.inl hk
    · exact Or.inr (by omega))
  have hdw : DW (w1.alloc (.cells #[.int .u32 0] 40)) c b g1 d (s.var dl.gone.length) 0 := ⟨H1.out.below hb1, hdb, hdz, by decide, by decide⟩
  have henv := HE1.out.stp hst2
  have hst3 := HS1.out.trans hst2
  simp only [← hd]
  generalize w1.alloc (.cells #[.int .u32 0] 40) = W at *
  have HDW := Lib.hid hdw
  have HEN := Lib.hid henv
  have HST := Lib.hid hst3
  clear hdb hb1 hdz hst2 hdw henv hst3 hd p0 hDl
  go_loopg [23] dl.gone.length (fun gk s23 wx => ∃ i g', ∃ st : WS × Int, i + gk = dl.gone.length ∧ s23 = .int .i64 i ∧ st = (dl.gone.take i).foldl WS.goneStep (s.var dl.gone.length, 0) ∧
    DW wx c b g' d st.1 st.2 ∧ EnvD (pzd c b g' d) wx (.slice Aw was.length cw) was D (.slice Ag dl.gone.length cg) (.slice Ac dl.come.length cc) (.slice Ah dl.chg.length ch) dl ∧ Stp (pz c b g) w (pzd c b g' d) wx)
  case atStart => exact ⟨0, g1, _, by omega, rfl, rfl, HDW.out, HEN.out, HST.out⟩
  case round =>
    obtain ⟨i, g', st, hi, rfl, hst, hdw, henv, hstp⟩ := hrel
    by_cases hlt : i < dl.gone.length
    · obtain ⟨a, hai⟩ : ∃ a, dl.gone[i]? = some a := ⟨_, List.getElem?_eq_getElem hlt⟩
      obtain ⟨b', o', rfl, hz, hbl, ha0, ha1, c0⟩ := henv.g.at hai
      have htk : (dl.gone.take (i + 1)) = dl.gone.take i ++ [a] := by rw [List.take_add_one, hai]; rfl
      have HDW1 := Lib.hid hdw
      have HEN1 := Lib.hid henv
      have HST1 := Lib.hid hstp
      have HSTE := Lib.hid hst
      have HTK := Lib.hid htk
      clear hdw henv hstp hst htk hai hz
      go_wp2_with fail
      refine (did_any c b g' d st.1 st.2 a _ HDW1.out ha0 ha1).mono ?_
      rintro x w2 ⟨rfl, g2, hd2, hs2⟩
      have HD2 := Lib.hid hd2
      have HS2 := Lib.hid hs2
      clear hd2 hs2
      go_wp2_with fail
      go_roundg (gk - 1)
      case measure => omega
      case rel => exact ⟨i + 1, g2, WS.goneStep st a, by omega, by simp, by rw [HTK.out, List.foldl_append, ← HSTE.out]; rfl, HD2.out, HEN1.out.stp HS2.out, HST1.out.trans HS2.out⟩
    · have hil : i = dl.gone.length := by omega
      subst hil
      have hstl : st = dl.gone.foldl WS.goneStep (s.var dl.gone.length, 0) := by rw [hst, List.take_length]
      have p1 := henv.box.at (o := 1) rfl
      have p2 := henv.box.at (o := 2) rfl
      have hDl := henv.box.lt
      have HDW1 := Lib.hid hdw
      have HEN1 := Lib.hid henv
      have HST1 := Lib.hid hstp
      have HSTE := Lib.hid hstl
      clear hdw henv hstp hst hstl
      go_wp2_with fail
      refine (dents_any c b g' d st.1 st.2 _ dl.come _ HDW1.out HEN1.out.c).mono ?_
      rintro x w2 ⟨rfl, g2, hd2, hs2⟩
      have hen2 := HEN1.out.stp hs2
      have r2 := hen2.box.at (o := 2) rfl
      have HD2 := Lib.hid hd2
      have HE2 := Lib.hid hen2
      have HS2 := Lib.hid (HST1.out.trans hs2)
      clear hd2 hen2 hs2
      go_wp2_with fail
      refine (dcount_any c b g2 d _ st.2 dl.chg.length _ HD2.out (by omega)).mono ?_
      rintro x w3 ⟨rfl, g3, hd3, hs3⟩
      have hen3 := HE2.out.stp hs3
      obtain ⟨hd4, hs4⟩ := hd3.reset
      have hen4 := hen3.stp hs4
      have l0 : w3.cell? ⟨d, 0, none⟩ = some (.int .u32 st.2) := cell_at hd3.blk rfl
      have f0 : w3.frozen? ⟨d, 0, none⟩ = false := unfrozen hd3.blk
      have hr2 := hen4.box.at (o := 2) rfl
      have r2' := hen3.box.at (o := 2) rfl
      have hDd : D ≠ d := fun e => hen3.box.out (Or.inr e)
      have HD4 := Lib.hid hd4
      have HE4 := Lib.hid hen4
      have HS4 := Lib.hid ((HS2.out.trans hs3).trans hs4)
      clear hd3 hen3 hs3 hd4 hen4 hs4 r2
      go_wp2_with fail
      generalize World.setCell w3 ⟨d, 0, none⟩ (.int .u32 0) = W3 at *
      obtain ⟨S0, hS0⟩ : ∃ S0, S0 = (st.1.ents dl.come).var dl.chg.length := ⟨_, rfl⟩
      have HD5 : Hid (DW W3 c b g3 d S0 0) := by rw [hS0]; exact HD4
      have HS0 := Lib.hid hS0
      clear hS0 HD4
      go_loopg [43] dl.chg.length (fun gk s43 wx => ∃ i g', ∃ st2 : WS × Int, i + gk = dl.chg.length ∧ s43 = .int .i64 i ∧ st2 = (dl.chg.take i).foldl (WS.chgStep was) (S0, 0) ∧
        DW wx c b g' d st2.1 st2.2 ∧ EnvD (pzd c b g' d) wx (.slice Aw was.length cw) was D (.slice Ag dl.gone.length cg) (.slice Ac dl.come.length cc) (.slice Ah dl.chg.length ch) dl ∧ Stp (pz c b g) w (pzd c b g' d) wx)
      case atStart => exact ⟨0, g3, _, by omega, rfl, rfl, HD5.out, HE4.out, HS4.out⟩
      case round =>
        obtain ⟨i, g5, st2, hi, rfl, hst2, hdw, henv, hstp⟩ := hrel
        obtain ⟨G, hG⟩ : ∃ G, G = gk := ⟨_, rfl⟩
        subst hG
        by_cases hlt : i < dl.chg.length
        · obtain ⟨x, hxi⟩ : ∃ x, dl.chg[i]? = some x := ⟨_, List.getElem?_eq_getElem hlt⟩
          obtain ⟨b', o', vn, vs, rfl, hz, hbl, hwf, hrn, hrs, q0, q1, q2, q3⟩ := henv.h.at hxi
          obtain ⟨An, cn, rfl, hcn, hcn'⟩ := hrn.form
          obtain ⟨As, cs, rfl, hcs, hcs'⟩ := hrs.form
          have htk : (dl.chg.take (i + 1)) = dl.chg.take i ++ [x] := by rw [List.take_add_one, hxi]; rfl
          have x0 := hwf.id0
          have x1 := hwf.id1
          have l0 := hwf.lost0
          have l1 := hwf.lost1
          have hb0 : Below wr.heap.size wr (wr.alloc (.cells #[.int .u32 x.id, .int .u8 x.lost, .slice An x.new.length cn, .slice As x.set.length cs] 88)) := (Below.refl _ _).alloc (Nat.le_refl _) _
          have hn0 : Held (pzd c b g5 d) (wr.alloc (.cells #[.int .u32 x.id, .int .u8 x.lost, .slice An x.new.length cn, .slice As x.set.length cs] 88)) wr.heap.size #[.int .u32 x.id, .int .u8 x.lost, .slice An x.new.length cn, .slice As x.set.length cs] 88 := Held.new _ _ hdw.lt
          have hdw1 := hdw.below hb0
          have hen1 := henv.stp (.of_below hb0)
          have hst1 := hstp.trans (.of_below hb0)
          have hrn1 := hrn.below hb0
          have hrs1 := hrs.below hb0
          have HTK := Lib.hid htk
          have HST2 := Lib.hid hst2
          clear htk hst2 hdw henv hstp hwf hrn hrs hb0 hxi hz
          go_wp2_with fail
          obtain ⟨C, hC⟩ : ∃ C, C = wr.heap.size := ⟨_, rfl⟩
          rw [← hC] at hn0
          simp only [← hC]
          generalize wr.alloc (.cells #[.int .u32 x.id, .int .u8 x.lost, .slice An x.new.length cn, .slice As x.set.length cs] 88) = W1 at *
          clear q0 q1 q2 q3 hC
          have hec : EnvC (pzd c b g5 d) W1 C x (.slice An x.new.length cn) (.slice As x.set.length cs) := ⟨hn0, hrn1, hrs1⟩
          have HDW1 := Lib.hid hdw1
          have HEN1 := Lib.hid hen1
          have HST1 := Lib.hid hst1
          have HEC1 := Lib.hid hec
          clear hn0 hdw1 hen1 hst1 hrn1 hrs1 hec
          refine (did_any c b g5 d st2.1 st2.2 x.id _ HDW1.out x0 x1).mono ?_
          rintro e w5 ⟨rfl, g6, hd5, hs5⟩
          have hec5 := HEC1.out.stp hs5
          have hen5 := HEN1.out.stp hs5
          have c1 := hec5.box.at (o := 1) rfl
          have c2 := hec5.box.at (o := 2) rfl
          have c3 := hec5.box.at (o := 3) rfl
          have hCl := hec5.box.lt
          have KC : Hid (∀ w', Below w5.heap.size w5 w' → w'.cell? ⟨C, 1, none⟩ = some (.int .u8 x.lost) ∧ w'.cell? ⟨C, 2, none⟩ = some (.slice An x.new.length cn) ∧ w'.cell? ⟨C, 3, none⟩ = some (.slice As x.set.length cs)) :=
            fun w' hb => ⟨(hec5.box.below hb).at (o := 1) rfl, (hec5.box.below hb).at (o := 2) rfl, (hec5.box.below hb).at (o := 3) rfl⟩
          have HD5' := Lib.hid hd5
          have HE5 := Lib.hid hen5
          have HC5 := Lib.hid hec5
          have HS5 := Lib.hid (HST1.out.trans hs5)
          clear hd5 hen5 hec5 hs5
          go_wp2_with fail
          go_region_held3 (fun w' => w'.cell? ⟨C, 1, none⟩ = some (.int .u8 x.lost) ∧ w'.cell? ⟨C, 2, none⟩ = some (.slice An x.new.length cn) ∧ w'.cell? ⟨C, 3, none⟩ = some (.slice As x.set.length cs))
            (first | exact KC.out _ (Below.refl _ _).drew | exact KC.out _ hB1 | exact KC.out _ hB2 | exact KC.out _ (hB2.alloc hB2.size _))
            (first
              | (go_at_call_of 39 (Value.slice An x.new.length cn); refine (mask_any _ _ x.new _ (HC5.out.n.below (Below.refl _ _).drew)).mono ?_; rintro e wa ⟨rfl, hba⟩; have hB1 : Below w5.heap.size w5 wa := (Below.refl _ _).drew.trans hba)
              | (go_at_call_of 39 (Value.slice As x.set.length cs); refine (mask_any _ _ x.set _ (HC5.out.s.below hB1)).mono ?_; rintro e wb ⟨rfl, hbb⟩; have hB2 : Below w5.heap.size w5 wb := hB1.trans (hbb.mono hB1.size)))
          have hm1 := maskN_lt x.new
          have hm2 := maskN_lt x.set
          have hbM : Below wb.heap.size wb (wb.alloc (.cells #[.int .u8 x.lost, .int .u8 (maskN x.new), .int .u8 (maskN x.set)] 5)) := (Below.refl _ _).alloc (Nat.le_refl _) _
          have hd6 := HD5'.out.below hB2
          have hM0 : Held (pzd c b g6 d) (wb.alloc (.cells #[.int .u8 x.lost, .int .u8 (maskN x.new), .int .u8 (maskN x.set)] 5)) wb.heap.size #[.int .u8 x.lost, .int .u8 (maskN x.new), .int .u8 (maskN x.set)] 5 := Held.new _ _ hd6.lt
          have hall := Stp.of_below (Z := pzd c b g6 d) (hB2.trans (hbM.mono hB2.size))
          have hd7 := hd6.below hbM
          have hen7 := HE5.out.stp hall
          have hec7 := HC5.out.stp hall
          have hst7 := HS5.out.trans hall
          go_wp2_with fail
          obtain ⟨M, hM⟩ : ∃ M, M = wb.heap.size := ⟨_, rfl⟩
          rw [← hM] at hM0
          simp only [← hM]
          generalize wb.alloc (.cells #[.int .u8 x.lost, .int .u8 (maskN x.new), .int .u8 (maskN x.set)] 5) = W6 at *
          clear hM hbM hd6 hall hB2 hbb hB1 hba c1 c2 c3 hCl
          have HD7 := Lib.hid hd7
          have HE7 := Lib.hid hen7
          have HC7 := Lib.hid hec7
          have HS7 := Lib.hid hst7
          have HM7 := Lib.hid hM0
          clear hd7 hen7 hec7 hst7 hM0
          go_loopg [61] 3 (fun gk s61 wx => ∃ i g', i + gk = 3 ∧ s61 = .int .i64 i ∧ DW wx c b g' d ((x.bytes.take i).foldl WS.put5 (st2.1.id st2.2 x.id)) x.id ∧ EnvD (pzd c b g' d) wx (.slice Aw was.length cw) was D (.slice Ag dl.gone.length cg) (.slice Ac dl.come.length cc) (.slice (some ⟨b', o', none⟩) dl.chg.length ch) dl ∧ EnvC (pzd c b g' d) wx C x (.slice An x.new.length cn) (.slice As x.set.length cs) ∧
            Held (pzd c b g' d) wx M #[.int .u8 x.lost, .int .u8 (maskN x.new), .int .u8 (maskN x.set)] 5 ∧ Stp (pz c b g) w (pzd c b g' d) wx)
          case atStart => exact ⟨0, g6, by omega, rfl, HD7.out, HE7.out, HC7.out, HM7.out, HS7.out⟩
          case round =>
            obtain ⟨j, g8, hj, rfl, hdw, henv, henc, hM, hstp⟩ := hrel
            by_cases hj3 : j < 3
            · obtain ⟨m, hmb, hmc, hm0, hm255⟩ : ∃ m, x.bytes[j]? = some m ∧ (#[.int .u8 x.lost, .int .u8 (maskN x.new), .int .u8 (maskN x.set)] : Array Value)[j]? = some (.int .u8 m) ∧ 0 ≤ m ∧ m ≤ 255 := by
                obtain rfl | rfl | rfl : j = 0 ∨ j = 1 ∨ j = 2 := by omega
                · exact ⟨_, rfl, rfl, l0, l1⟩
                · exact ⟨_, rfl, rfl, by omega, by omega⟩
                · exact ⟨_, rfl, rfl, by omega, by omega⟩
              have m0 := hM.at hmc
              have hx : IntKind.u64.wrap m = m := IntWalk.u64_in _ (by omega)
              have htk2 : x.bytes.take (j + 1) = x.bytes.take j ++ [m] := by rw [List.take_add_one, hmb]; rfl
              have HTK2 := Lib.hid htk2
              have HDW2 := Lib.hid hdw
              have HEN2 := Lib.hid henv
              have HEC2 := Lib.hid henc
              have HM2 := Lib.hid hM
              have HSP2 := Lib.hid hstp
              clear htk2 hdw henv henc hM hstp hmb hmc
              go_wp2_with fail
              refine (dplain_any c b g8 d _ x.id m 5 _ HDW2.out (by omega) (by omega) hm0 (by omega)).mono ?_
              rintro e w9 ⟨rfl, g9, hd9, hs9⟩
              have HD9 := Lib.hid hd9
              have HS9 := Lib.hid hs9
              clear hd9 hs9
              go_wp2_with fail
              go_roundg (gk - 1)
              case measure => omega
              case rel => exact ⟨j + 1, g9, by omega, by simp, by rw [HTK2.out, List.foldl_append]; exact HD9.out, HEN2.out.stp HS9.out, HEC2.out.stp HS9.out, HM2.out.stp HS9.out, HSP2.out.trans HS9.out⟩
            · have hj4 : j = 3 := by omega
              subst hj4
              have c2 := henc.box.at (o := 2) rfl
              have c3 := henc.box.at (o := 3) rfl
              have HDW2 : Hid (DW wr c b g8 d (x.bytes.foldl WS.put5 (st2.1.id st2.2 x.id)) x.id) := hdw
              have HEN2 := Lib.hid henv
              have HEC2 := Lib.hid henc
              have HSP2 := Lib.hid hstp
              clear hdw henv henc hM hstp
              go_wp2_with fail
              refine (dcomps_any c b g8 d _ x.id _ x.new _ HDW2.out HEC2.out.n).mono ?_
              rintro e w9 ⟨rfl, g9, hd9, hs9⟩
              have hec9 := HEC2.out.stp hs9
              have c3 := hec9.box.at (o := 3) rfl
              have HD9 := Lib.hid hd9
              have HE9 := Lib.hid (HEN2.out.stp hs9)
              have HC9 := Lib.hid hec9
              have HS9 := Lib.hid (HSP2.out.trans hs9)
              clear hd9 hs9 hec9
              go_wp2_with fail
              go_loopg [77] x.set.length (fun gk s77 wx => ∃ i g', i + gk = x.set.length ∧ s77 = .int .i64 i ∧ DW wx c b g' d (WS.steps was x.id ((x.bytes.foldl WS.put5 (st2.1.id st2.2 x.id)).comps x.new) (x.set.take i)) x.id ∧
                EnvD (pzd c b g' d) wx (.slice Aw was.length cw) was D (.slice Ag dl.gone.length cg) (.slice Ac dl.come.length cc) (.slice (some ⟨b', o', none⟩) dl.chg.length ch) dl ∧ EnvC (pzd c b g' d) wx C x (.slice An x.new.length cn) (.slice As x.set.length cs) ∧ Stp (pz c b g) w (pzd c b g' d) wx)
              case atStart => exact ⟨0, g9, by omega, rfl, HD9.out, HE9.out, HC9.out, HS9.out⟩
              case round =>
                obtain ⟨k, g10, hk, rfl, hdw, henv, henc, hstp⟩ := hrel
                by_cases hk3 : k < x.set.length
                · obtain ⟨y, hyi⟩ : ∃ y, x.set[k]? = some y := ⟨_, List.getElem?_eq_getElem hk3⟩
                  obtain ⟨b2, o2, rfl, hzb2, hbl2, hwfy, y0, y1, y2, y3⟩ := henc.s.at hyi
                  have hk0 := hwfy.k0
                  have hk1 := hwfy.k1
                  have htk2 : x.set.take (k + 1) = x.set.take k ++ [y] := by rw [List.take_add_one, hyi]; rfl
                  obtain ⟨S, hS⟩ : ∃ S, S = WS.steps was x.id ((x.bytes.foldl WS.put5 (st2.1.id st2.2 x.id)).comps x.new) (x.set.take k) := ⟨_, rfl⟩
                  rw [← hS] at hdw
                  have hbX : Below wr.heap.size wr (wr.alloc (.cells #[.int .u8 y.k, .int .i32 y.f0, .int .i32 y.f1, .int .i32 y.f2] 48)) := (Below.refl _ _).alloc (Nat.le_refl _) _
                  have hX0 : Held (pzd c b g10 d) (wr.alloc (.cells #[.int .u8 y.k, .int .i32 y.f0, .int .i32 y.f1, .int .i32 y.f2] 48)) wr.heap.size #[.int .u8 y.k, .int .i32 y.f0, .int .i32 y.f1, .int .i32 y.f2] 48 := Held.new _ _ hdw.lt
                  have hdw1 := hdw.below hbX
                  have hen1 := henv.stp (.of_below hbX)
                  have hec1 := henc.stp (.of_below hbX)
                  have hst1 := hstp.trans (.of_below hbX)
                  have HTK2 := Lib.hid htk2
                  have HSS := Lib.hid hS
                  have HWY := Lib.hid hwfy
                  clear htk2 hdw henv henc hstp hbX hyi hzb2 hwfy hS
                  go_wp2_with fail
                  obtain ⟨X, hX⟩ : ∃ X, X = wr.heap.size := ⟨_, rfl⟩
                  rw [← hX] at hX0
                  simp only [← hX]
                  generalize wr.alloc (.cells #[.int .u8 y.k, .int .i32 y.f0, .int .i32 y.f1, .int .i32 y.f2] 48) = W8 at *
                  clear y0 y1 y2 y3 hX
                  have KA : Hid (W8.drew.cell? ⟨c, 0, none⟩ = some (.pointer (some ⟨b, 0, none⟩)) ∧ W8.drew.cell? ⟨C, 0, none⟩ = some (.int .u32 x.id) ∧ W8.drew.cell? ⟨X, 0, none⟩ = some (.int .u8 y.k) ∧ W8.drew.cell? ⟨X, 1, none⟩ = some (.int .i32 y.f0) ∧ W8.drew.cell? ⟨X, 2, none⟩ = some (.int .i32 y.f1) ∧ W8.drew.cell? ⟨X, 3, none⟩ = some (.int .i32 y.f2)) :=
                    ⟨hdw1.pw.c0, hec1.box.at (o := 0) rfl, hX0.at (o := 0) rfl, hX0.at (o := 1) rfl, hX0.at (o := 2) rfl, hX0.at (o := 3) rfl⟩
                  have HDW2 := Lib.hid hdw1
                  have HEN3 := Lib.hid hen1
                  have HEC3 := Lib.hid hec1
                  have HSP3 := Lib.hid hst1
                  have HX3 := Lib.hid hX0
                  clear hdw1 hen1 hec1 hst1 hX0
                  go_region_held3 (fun w' => w'.cell? ⟨c, 0, none⟩ = some (.pointer (some ⟨b, 0, none⟩)) ∧ w'.cell? ⟨C, 0, none⟩ = some (.int .u32 x.id) ∧ w'.cell? ⟨X, 0, none⟩ = some (.int .u8 y.k) ∧ w'.cell? ⟨X, 1, none⟩ = some (.int .i32 y.f0) ∧ w'.cell? ⟨X, 2, none⟩ = some (.int .i32 y.f1) ∧ w'.cell? ⟨X, 3, none⟩ = some (.int .i32 y.f2))
                    (first | exact KA.out | exact ⟨h3.c0, hC3.at rfl, hX3.at (o := 0) rfl, hX3.at (o := 1) rfl, hX3.at (o := 2) rfl, hX3.at (o := 3) rfl⟩ | exact ⟨h1.c0, hC2.at rfl, hX2.at (o := 0) rfl, hX2.at (o := 1) rfl, hX2.at (o := 2) rfl, hX2.at (o := 3) rfl⟩ | exact ⟨hd1.pw.c0, hC1.at rfl, hX1.at (o := 0) rfl, hX1.at (o := 1) rfl, hX1.at (o := 2) rfl, hX1.at (o := 3) rfl⟩)
                    (first
                      | (go_at_call 45; refine (old_any _ _ was x.id y.k _ (HEN3.out.was.below (Below.refl _ _).drew) hl HR.out x0 x1 hk0 hk1).mono ?_; rintro e wa ⟨rfl, hwfo, hba⟩; have hB1 : Below W8.heap.size W8 wa := (Below.refl _ _).drew.trans hba; have hd1 := HDW2.out.below hB1; have hC1 := HEC3.out.box.below hB1; have hX1 := HX3.out.below hB1)
                      | (go_at_call 44; refine (compPutStep_any b g10 S.l (oldC was x.id y.k) y _ hd1.pw.wr hwfo HWY.out).mono ?_; rintro e wb ⟨rfl, g11, hw1, hs1⟩; obtain ⟨h1, h2⟩ := hd1.pw.inner hw1 hs1; have hC2 := hC1.stp (pzd_mono (d := d) h2); have hX2 := hX1.stp (pzd_mono (d := d) h2))
                      | (go_at_call 20; refine (keep_any c b g11 _ _ _ h1).mono ?_; rintro e wd ⟨rfl, h3, h4⟩; have hC3 := hC2.stp (pzd_mono (d := d) h4); have hX3 := hX2.stp (pzd_mono (d := d) h4)))
                  obtain ⟨h5, h6⟩ := hd1.of_pw h3 (h2.trans h4)
                  have h7 := (Stp.of_below (Z := pzd c b g10 d) hB1).trans h6
                  have H5 : Hid (DW wd c b g11 d (S.step (oldC was x.id y.k) y) x.id) := h5
                  have H7 := Lib.hid h7
                  clear hd1 h1 h2 h3 h4 h5 h6 h7 hw1 hs1 hC1 hC2 hC3 hX1 hX2 hX3 hB1 hba hwfo
                  go_wp2_with fail
                  go_roundg (gk - 1)
                  case measure => omega
                  case rel => exact ⟨k + 1, g11, by omega, by simp, by rw [HTK2.out, WS.steps, List.foldl_append]; rw [HSS.out] at H5; exact H5.out, HEN3.out.stp H7.out, HEC3.out.stp H7.out, HSP3.out.trans H7.out⟩
                · have hkl : k = x.set.length := by omega
                  subst hkl
                  rw [List.take_length] at hdw
                  have HDW2 := Lib.hid hdw
                  have HEN3 := Lib.hid henv
                  have HSP3 := Lib.hid hstp
                  clear hdw henv henc hstp
                  go_wp2_with fail
                  go_roundg (G - 1)
                  case measure => omega
                  case rel => exact ⟨i + 1, g10, WS.chgStep was st2 x, by omega, by simp, by rw [HTK.out, List.foldl_append, ← HST2.out]; rfl, HDW2.out, HEN3.out, HSP3.out⟩
        · have hil : i = dl.chg.length := by omega
          subst hil
          rw [List.take_length] at hst2
          have HDW2 := Lib.hid hdw
          have HEN3 := Lib.hid henv
          have HSP3 := Lib.hid hstp
          have HST2 := Lib.hid hst2
          clear hdw henv hstp hst2
          go_wp2_with fail
          go_end0
          refine ⟨rfl, g5, ?_, HSP3.out.re fun k hk => HSP3.out.zone k (Or.inl hk)⟩
          have := HDW2.out.pw
          rw [HST2.out, HS0.out, HSTE.out] at this
          exact this
end Go.Proofs.Ytbklglckmhfmcaa
