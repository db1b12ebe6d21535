/- packet.Seal. -/
import Derived.Test.YtbklglckmhfmcaaDelta
import Derived.Test.YtbklglckmhfmcaaHeadB
import Derived.Test.YtbklglckmhfmcaaFrameB
import Derived.Deep.QuietTactic
set_option linter.unusedVariables false
set_option linter.unusedSimpArgs false
namespace Go.Proofs.Ytbklglckmhfmcaa
open Go.RowKit
set_option maxRecDepth 100000

theorem rising_of_form (l : List Ent) : ∀ last : Int, formFrom last l = 0 → (∀ e ∈ l, last < e.id) ∧ Rising l := by
  induction l with
  | nil => intro last _; exact ⟨by simp, fun i j a b hi => by simp at hi⟩
  | cons e r ih =>
    intro last h
    rw [formFrom] at h
    by_cases h1 : e.id ≤ last
    · rw [if_pos h1] at h; exact absurd h (by decide)
    · rw [if_neg h1] at h
      by_cases h2 : oneE e ≠ 0
      · rw [if_pos h2] at h; exact absurd h h2
      · rw [if_neg h2] at h
        by_cases h3 : secretAny e.comps = true
        · rw [if_pos h3] at h; exact absurd h (by decide)
        · rw [if_neg h3] at h
          obtain ⟨g1, g2⟩ := ih _ h
          refine ⟨fun x hx => ?_, fun i j a b hi hj hij => ?_⟩
          · rcases List.mem_cons.1 hx with rfl | hx
            · omega
            · have := g1 x hx; omega
          · cases j with
            | zero => omega
            | succ j =>
              simp only [List.getElem?_cons_succ] at hj
              cases i with
              | zero =>
                simp only [List.getElem?_cons_zero, Option.some.injEq] at hi
                subst hi
                exact g1 b (List.mem_of_getElem? hj)
              | succ i =>
                simp only [List.getElem?_cons_succ] at hi
                exact g2 i j a b hi hj (by omega)

def sealWS (h : Head) (was now : List Ent) : WS :=
  let s0 := WS.head ⟨0, []⟩ h
  if h.kind = 1 then (if (s0.keep (formE now)).e = 0 then (s0.keep (formE now)).ents now else s0.keep (formE now))
  else if h.kind = 2 then (if diffE was now = 0 then (s0.keep (diffE was now)).delta was (diffL was now) else s0.keep (diffE was now))
  else if 0 < now.length then s0.keep 4 else s0
def packErr (h : Head) (was now : List Ent) : Int :=
  if checkH h ≠ 0 then checkH h else if (sealWS h was now).e ≠ 0 then (sealWS h was now).e else sealE (pack (sealWS h was now).l)
def packBytes (h : Head) (was now : List Ent) : List Int :=
  if packErr h was now = 0 then sealB (pack (sealWS h was now).l) else []
theorem RE.old {Z : Nat → Prop} {w : World} {v : Value} {l : List Ent} (h : RE Z w v l) : RE (fun k => w.heap.size ≤ k) w v l := h.anti fun k hk h' => absurd h' (by omega)

/-- The end: what has been written is sealed, or the error is told. -/
structure SealEnd (w w' : World) (v : Value) (e : Int) (s : WS) : Prop where
  err : e = if s.e ≠ 0 then s.e else sealE (pack s.l)
  rb : RB (fun k => k < w.heap.size) w' v (if s.e ≠ 0 then [] else if sealE (pack s.l) = 0 then sealB (pack s.l) else [])
  bel : Below w.heap.size w w'

set_option maxHeartbeats 16000000 in
theorem seal_any (Z1 Z2 : Nat → Prop) (h : Head) (v1 v2 : Value) (was now : List Ent) (w : World) (hw : h.wf) (h1 : RE Z1 w v1 was) (h2 : RE Z2 w v2 now) (hl1 : was.length ≤ 1000000) (hl2 : now.length ≤ 1000000) (hl3 : ∀ e ∈ now, e.comps.length ≤ 8796093022000) :
    Calls Try.prog 8 #[h.v, v1, v2] w
      fun e w' => ∃ v, e = .returned (.tuple #[v, .int .i64 (packErr h was now)]) ∧ RB (fun k => k < w.heap.size) w' v (packBytes h was now) ∧ Below w.heap.size w w' := by
  obtain ⟨A1, cap1, rfl, hca1, hca1'⟩ := h1.form
  obtain ⟨A2, cap2, rfl, hca2, hca2'⟩ := h2.form
  have H1 := Lib.hid h1.old
  have H2 := Lib.hid h2.old
  have HW := Lib.hid hw
  have HL3 := Lib.hid hl3
  obtain ⟨hk0, hk1, _, _, _, _, _, _, _, _⟩ := hw
  clear h1 h2 hl3
  have hv : h.v = .agg #[.int .u8 h.kind, .int .u8 h.client, .int .u32 h.epoch, .int .u32 h.tick, .int .u32 h.base] := rfl
  rw [hv]
  have HV := Lib.hid hv
  clear hv
  by_cases hc : checkH h = 0
  · have hc' : (checkH h != 0) = false := by simp [hc]
    have hpe : packErr h was now = if (sealWS h was now).e ≠ 0 then (sealWS h was now).e else sealE (pack (sealWS h was now).l) := if_neg (by simp [hc])
    have HPE := Lib.hid hpe
    have HCC := Lib.hid hc
    clear hpe hc
    go_enter Try.func8, Try.ntmps8
    go_wp2_with fail
    have ch := checkHead_any h (w.alloc (.cells #[.int .u8 h.kind, .int .u8 h.client, .int .u32 h.epoch, .int .u32 h.tick, .int .u32 h.base] 28)) HW.out
    rw [HV.out] at ch
    refine ch.mono ?_
    rintro e w1 ⟨rfl, hb1⟩
    clear ch
    have hn1 : w1.heap[w.heap.size]? = some (.cells #[.int .u8 h.kind, .int .u8 h.client, .int .u32 h.epoch, .int .u32 h.tick, .int .u32 h.base] 28 (0, 0)) := (hb1.block _ (by simp)).trans (heap_alloc_new _ _)
    have hbw1 : Below w.heap.size w w1 := ((Below.refl _ _).alloc (Nat.le_refl _) _).trans (hb1.mono (by simp))
    have hsz1 : w.heap.size < w1.heap.size := heap_lt hn1
    have HN1 := Lib.hid hn1
    have HB1 := Lib.hid hbw1
    clear hb1 hn1 hbw1
    go_wp2_with fail
    refine (new_any _).mono ?_
    rintro e w2 ⟨rfl, hwr, hb2, hsz2⟩
    have hn2 := (hb2.block w.heap.size hsz1).trans HN1.out
    have hbw2 := HB1.out.trans (hb2.mono (by omega))
    have n0 := cell_at (o := 0) hn2 rfl
    have n1 := cell_at (o := 1) hn2 rfl
    have n2 := cell_at (o := 2) hn2 rfl
    have n3 := cell_at (o := 3) hn2 rfl
    have n4 := cell_at (o := 4) hn2 rfl
    have hDl := heap_lt hn2
    have HN2 := Lib.hid hn2
    have HB2 := Lib.hid hbw2
    have HWR := Lib.hid hwr
    clear hb2 hn2 hbw2 hwr
    go_wp2_with fail
    obtain ⟨b, hb⟩ : ∃ b, b = w1.heap.size := ⟨_, rfl⟩
    obtain ⟨c, hc⟩ : ∃ c, c = b + 1 := ⟨_, rfl⟩
    have hc2 : c = w2.heap.size := by omega
    have hbW : Below w2.heap.size w2 (w2.alloc (.cells #[.pointer (some ⟨w1.heap.size, 0, none⟩), .int .i64 0] 55)) := (Below.refl _ _).alloc (Nat.le_refl _) _
    have hp3 : PW (w2.alloc (.cells #[.pointer (some ⟨w1.heap.size, 0, none⟩), .int .i64 0] 55)) c b b ⟨0, []⟩ := by
      refine ⟨?_, ?_, by omega, by omega⟩
      · rw [hb, hc2]; exact heap_alloc_new _ _
      · rw [hb]; exact HWR.out.stp (Stp.of_below (Z := fun _ => False) hbW) id id
    have hn3 : Held (pz c b b) (w2.alloc (.cells #[.pointer (some ⟨w1.heap.size, 0, none⟩), .int .i64 0] 55)) w.heap.size #[.int .u8 h.kind, .int .u8 h.client, .int .u32 h.epoch, .int .u32 h.tick, .int .u32 h.base] 28 :=
      ⟨(hbW.block _ hDl).trans HN2.out, by rintro (e | e | e) <;> omega⟩
    have hb3 : Below w.heap.size w (w2.alloc (.cells #[.pointer (some ⟨w1.heap.size, 0, none⟩), .int .i64 0] 55)) := HB2.out.trans (hbW.mono (by omega))
    have hzz : ∀ k, pz c b b k → w.heap.size ≤ k := by rintro k (e | e | e) <;> omega
    simp only [← hb, ← hc] at hp3 hn3 hb3 ⊢
    generalize w2.alloc (.cells #[.pointer (some ⟨b, 0, none⟩), .int .i64 0] 55) = W3 at *
    have HP3 := Lib.hid hp3
    have HN3 := Lib.hid hn3
    have HB3 := Lib.hid hb3
    have HZZ := Lib.hid hzz
    have hr1 := (H1.out.below hb3).anti (Y := pz c b b) fun k _ hk => hzz k hk
    have hr2 := (H2.out.below hb3).anti (Y := pz c b b) fun k _ hk => hzz k hk
    have HR1 := Lib.hid hr1
    have HR2 := Lib.hid hr2
    have hs3 := hb3.size
    clear hp3 hn3 hb3 hzz hr1 hr2 hb hc hc2 hbW n0 n1 n2 n3 n4 hsz1 hsz2 hDl
    have hh := head_any c b b ⟨0, []⟩ h W3 HP3.out HW.out
    rw [HV.out] at hh
    refine hh.mono ?_
    rintro e w4 ⟨rfl, g4, hp4, hs4⟩
    clear hh
    have hn4 := HN3.out.stp hs4
    have n0 := hn4.at (o := 0) rfl
    have hr14 := HR1.out.stp hs4
    have hr24 := HR2.out.stp hs4
    have HP4 := Lib.hid hp4
    have HR14 := Lib.hid hr14
    have HR24 := Lib.hid hr24
    have HS4 := Lib.hid hs4
    have hlt4 := hp4.lt
    clear hp4 hs4 hn4 hr14 hr24
    go_upto_block 0 with (fail)
    go_cut [9] (fun s9 wx => s9 = .pointer (some ⟨c, 0, none⟩) ∧ ∃ g', PW wx c b g' (sealWS h was now) ∧ Stp (pz c b b) W3 (pz c b g') wx)
    case first =>
      by_cases hk : h.kind = 1
      · have hka : (h.kind == 1) = true := by simp [hk]
        have hws : sealWS h was now = if (((WS.head ⟨0, []⟩ h).keep (formE now)).e = 0) then ((WS.head ⟨0, []⟩ h).keep (formE now)).ents now else (WS.head ⟨0, []⟩ h).keep (formE now) := by simp only [sealWS]; rw [if_pos hk]
        have HWS := Lib.hid hws
        clear hws hk
        go_wp2_with fail
        refine (form_any _ _ now _ HR24.out).mono ?_
        rintro e w5 ⟨rfl, hb5⟩
        have hp5 := HP4.out.below hb5
        have hr5 := HR24.out.below hb5
        have HP5 := Lib.hid hp5
        have HR5 := Lib.hid hr5
        have HB5 := Lib.hid hb5
        clear hp5 hr5 hb5
        go_wp2_with fail
        refine (keep_any c b g4 _ _ _ HP5.out).mono ?_
        rintro e w6 ⟨rfl, hp6, hs6⟩
        have c1 := hp6.c1
        have hr6 := HR5.out.stp hs6
        have HS6 := Lib.hid ((HS4.out.trans (.of_below HB5.out)).trans hs6)
        have HP6 := Lib.hid hp6
        have HR6 := Lib.hid hr6
        clear hp6 hs6 hr6
        by_cases hz : ((WS.head ⟨0, []⟩ h).keep (formE now)).e = 0
        · have hz' : (((WS.head ⟨0, []⟩ h).keep (formE now)).e == 0) = true := by simp [hz]
          have HZ := Lib.hid hz
          clear hz
          go_wp2_with fail
          refine (wents_any c b g4 _ _ now _ HP6.out HR6.out).mono ?_
          rintro e w7 ⟨rfl, g7, hp7, hs7⟩
          have HP7 := Lib.hid hp7
          have HS7 := Lib.hid hs7
          clear hp7 hs7
          go_wp2_with fail
          go_meet
          exact ⟨rfl, g7, by rw [HWS.out, if_pos HZ.out]; exact HP7.out, HS6.out.trans HS7.out⟩
        · have hz' : (((WS.head ⟨0, []⟩ h).keep (formE now)).e == 0) = false := by simp [hz]
          have HZ := Lib.hid hz
          clear hz
          go_wp2_with fail
          go_meet
          exact ⟨rfl, g4, by rw [HWS.out, if_neg HZ.out]; exact HP6.out, HS6.out⟩
      · have hka : (h.kind == 1) = false := by simp [hk]
        by_cases hk2 : h.kind = 2
        · have hkb : (h.kind == 2) = true := by simp [hk2]
          have hws : sealWS h was now = if diffE was now = 0 then ((WS.head ⟨0, []⟩ h).keep (diffE was now)).delta was (diffL was now) else (WS.head ⟨0, []⟩ h).keep (diffE was now) := by simp only [sealWS]; rw [if_neg hk, if_pos hk2]
          have HWS := Lib.hid hws
          clear hws hk hk2
          go_wp2_with fail
          refine (diff_any _ _ _ was now _ HR14.out HR24.out hl1 hl2 HL3.out).mono ?_
          rintro e w5 ⟨dv, rfl, hrd, hb5, ⟨D1, m1, e1, D2, m2, e2, D3, m3, e3⟩⟩
          obtain ⟨E, hE⟩ : ∃ E, E = diffE was now := ⟨_, rfl⟩
          rw [← hE] at hrd
          rw [← hE]
          have hbA : Below w5.heap.size w5 (w5.alloc (.cells #[.slice D1 m1 e1, .slice D2 m2 e2, .slice D3 m3 e3] 63)) := (Below.refl _ _).alloc (Nat.le_refl _) _
          have hp5 := (HP4.out.below hb5).below hbA
          have hr5 := (HR14.out.below hb5).below hbA
          have hX : Held (pz c b g4) (w5.alloc (.cells #[.slice D1 m1 e1, .slice D2 m2 e2, .slice D3 m3 e3] 63)) w5.heap.size #[.slice D1 m1 e1, .slice D2 m2 e2, .slice D3 m3 e3] 63 :=
            Held.new _ _ (by have := hb5.size; rintro k (e | e | e) <;> omega)
          have hrd5 := fun h0 => ((hrd h0).below hbA).anti (Y := pz c b g4) (fun k _ hk => by rcases hk with e | e | e <;> omega)
          have hst5 := HS4.out.trans (Stp.of_below (Z := pz c b g4) (hb5.trans (hbA.mono hb5.size)))
          have HP5 := Lib.hid hp5
          have HR5 := Lib.hid hr5
          have HX5 := Lib.hid hX
          have HRD := Lib.hid hrd5
          have HS5 := Lib.hid hst5
          have HE := Lib.hid hE
          clear hp5 hr5 hX hrd5 hst5 hb5 hbA hrd hE
          go_wp2_with fail
          refine (keep_any c b g4 _ _ _ HP5.out).mono ?_
          rintro e w6 ⟨rfl, hp6, hs6⟩
          have hx6 := HX5.out.stp hs6
          have x0 := hx6.at (o := 0) rfl
          have x1 := hx6.at (o := 1) rfl
          have x2 := hx6.at (o := 2) rfl
          have hr6 := HR5.out.stp hs6
          have HP6 := Lib.hid hp6
          have HR6 := Lib.hid hr6
          have HS6a := Lib.hid hs6
          have HS6 := Lib.hid (HS5.out.trans hs6)
          clear hp6 hs6 hr6 hx6
          by_cases hz : E = 0
          · have hz' : (E == 0) = true := by simp [hz]
            have hfw : formE was = 0 := by
              have := HE.out; rw [hz] at this; unfold diffE at this
              by_cases hf : formE was = 0
              · exact hf
              · rw [if_pos hf] at this; exact this.symm
            have hris := (rising_of_form was 0 hfw).2
            have hd6 := (HRD.out hz).stp HS6a.out
            have HZ := Lib.hid hz
            have HD6 := Lib.hid hd6
            clear hz hfw hd6
            go_wp2_with fail
            refine (delta_any c b g4 _ _ _ was _ _ HP6.out HR6.out HD6.out (by omega) hris).mono ?_
            rintro e w7 ⟨rfl, g7, hp7, hs7⟩
            have HP7 := Lib.hid hp7
            have HS7 := Lib.hid hs7
            clear hp7 hs7
            go_wp2_with fail
            go_meet
            exact ⟨rfl, g7, by rw [HWS.out, ← HE.out, if_pos HZ.out]; exact HP7.out, HS6.out.trans HS7.out⟩
          · have hz' : (E == 0) = false := by simp [hz]
            have HZ := Lib.hid hz
            clear hz
            go_wp2_with fail
            go_meet
            exact ⟨rfl, g4, by rw [HWS.out, ← HE.out, if_neg HZ.out]; exact HP6.out, HS6.out⟩
        · have hkb : (h.kind == 2) = false := by simp [hk2]
          by_cases hn : 0 < now.length
          · have hws : sealWS h was now = (WS.head ⟨0, []⟩ h).keep 4 := by simp only [sealWS]; rw [if_neg hk, if_neg hk2, if_pos hn]
            have HWS := Lib.hid hws
            clear hws hk hk2
            go_wp2_with fail
            refine (keep_any c b g4 _ _ _ HP4.out).mono ?_
            rintro e w6 ⟨rfl, hp6, hs6⟩
            have HP6 := Lib.hid hp6
            have HS6 := Lib.hid hs6
            clear hp6 hs6
            go_wp2_with fail
            go_meet
            exact ⟨rfl, g4, by rw [HWS.out]; exact HP6.out, HS4.out.trans HS6.out⟩
          · have hws : sealWS h was now = WS.head ⟨0, []⟩ h := by simp only [sealWS]; rw [if_neg hk, if_neg hk2, if_neg hn]
            have HWS := Lib.hid hws
            clear hws hk hk2
            go_wp2_with fail
            go_meet
            exact ⟨rfl, g4, by rw [HWS.out]; exact HP4.out, HS4.out⟩
    case rest =>
      obtain ⟨rfl, g', hp, hst⟩ := hcut
      have c1 := hp.c1
      have c0 := hp.c0
      by_cases hz : (sealWS h was now).e = 0
      · have hz' : ((sealWS h was now).e != 0) = false := by simp [hz]
        have HP := Lib.hid hp
        have HST := Lib.hid hst
        have HZ := Lib.hid hz
        clear hp hst hz
        go_wp2_with fail
        refine (bytes_any b g' _ _ HP.out.wr).mono ?_
        rintro e w5 ⟨v5, rfl, hr5, hb5⟩
        have HR5 := Lib.hid hr5
        have HB5 := Lib.hid hb5
        clear hr5 hb5
        go_wp2_with fail
        refine (frameSeal_any _ _ _ _ HR5.out).mono ?_
        rintro e w6 ⟨v6, rfl, hr6, hb6⟩
        have HR6 := Lib.hid hr6
        have HB6 := Lib.hid hb6
        clear hr6 hb6
        go_wp2_with fail
        go_ret2
        have hpe : packErr h was now = sealE (pack (sealWS h was now).l) := by rw [HPE.out, if_neg (by simp [HZ.out])]
        have hbl : Below w.heap.size w wc := HB3.out.trans (HST.out.below' hs3 HZZ.out)
        have hsz6 := HB5.out.size
        refine ⟨v6, by rw [hpe]; rfl, ?_, hbl.trans ((HB5.out.trans (HB6.out.mono hsz6)).mono hbl.size)⟩
        rw [packBytes, hpe]
        exact HR6.out.anti fun k _ hk => by have := hbl.size; omega
      · have hz' : ((sealWS h was now).e != 0) = true := by simp [hz]
        have HP := Lib.hid hp
        have HST := Lib.hid hst
        have HZ := Lib.hid hz
        clear hp hst hz
        go_wp2_with fail
        go_quiet (fail)
        go_wp2_with fail
        go_ret2
        have hpe : packErr h was now = (sealWS h was now).e := by rw [HPE.out, if_pos HZ.out]
        have hbl : Below w.heap.size w wc := HB3.out.trans (HST.out.below' hs3 HZZ.out)
        refine ⟨.slice none 0 0, by rw [hpe]; rfl, ?_, below_drewN hbl _⟩
        rw [packBytes, hpe, if_neg HZ.out]
        exact ⟨Sl.nil _ _ _, by simp⟩
  · have hc' : (checkH h != 0) = true := by simp [hc]
    have hpe : packErr h was now = checkH h := if_pos hc
    have hpb : packBytes h was now = [] := if_neg (by rw [hpe]; exact hc)
    rw [hpe, hpb]
    clear hpe hpb hc
    go_enter Try.func8, Try.ntmps8
    go_wp2_with fail
    have ch := checkHead_any h (w.alloc (.cells #[.int .u8 h.kind, .int .u8 h.client, .int .u32 h.epoch, .int .u32 h.tick, .int .u32 h.base] 28)) HW.out
    rw [HV.out] at ch
    refine ch.mono ?_
    rintro e w1 ⟨rfl, hb1⟩
    have HB1 := Lib.hid hb1
    clear ch hb1
    go_wp2_with fail
    go_ret2
    exact ⟨_, rfl, ⟨Sl.nil _ _ _, by simp⟩, ((Below.refl _ _).alloc (Nat.le_refl _) _).trans (HB1.out.mono (by simp))⟩
end Go.Proofs.Ytbklglckmhfmcaa
