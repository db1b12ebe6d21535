/- packet.writer: ents. -/
import Derived.Test.YtbklglckmhfmcaaWriterB
import Derived.Test.YtbklglckmhfmcaaForm
set_option linter.unusedVariables false
set_option linter.unusedSimpArgs false
namespace Go.Proofs.Ytbklglckmhfmcaa
open Go.RowKit
set_option maxRecDepth 100000

def WS.entStep (p : WS × Int) (e : Ent) : WS × Int := (((p.1.id p.2 e.id).put (maskN e.comps) 5).comps e.comps, e.id)
def WS.ents (s : WS) (l : List Ent) : WS := (l.foldl WS.entStep (s.var l.length, 0)).1
theorem nz_keep {Z Z' : Nat → Prop} {w w' : World} {k : Nat} (h : ¬ Z k) (hs : Stp Z w Z' w') (hk : k < w.heap.size) : ¬ Z' k := by
  intro hk'
  rcases hs.zone k hk' with h1 | h1
  · exact h h1
  · omega
theorem pzd_mono {c b g g' d : Nat} {w w' : World} (hs : Stp (pz c b g) w (pz c b g') w') : Stp (pzd c b g d) w (pzd c b g' d) w' :=
  hs.mono' (fun k hk => Or.inl hk) (fun k hk => by
    rcases hk with hk | hk
    · exact Or.inr hk
    · exact Or.inl (Or.inr hk))

set_option maxHeartbeats 8000000 in
theorem wents_any (c b g : Nat) (s : WS) (v : Value) (l : List Ent) (w : World) (h : PW w c b g s) (hv : RE (pz c b g) w v l) :
    Calls Try.prog 22 #[.pointer (some ⟨c, 0, none⟩), v] w
      fun x w' => x = .returned (.tuple #[]) ∧ ∃ g', PW w' c b g' (s.ents l) ∧ Stp (pz c b g) w (pz c b g') w' := by
  obtain ⟨A, cap, rfl, hcap1, hcap2⟩ := hv.form
  have HV := Lib.hid hv
  have HH := Lib.hid h
  clear h hv
  go_enter Try.func22, Try.ntmps22
  go_wp2_with fail
  refine (count_any' c b g s l.length _ HH.out (by omega)).mono ?_
  rintro x w1 ⟨rfl, g1, h1, hs1⟩
  have H1 := Lib.hid h1
  have HS1 := Lib.hid hs1
  have hsz1 := hs1.size
  have hlt1 := h1.lt
  clear h1 hs1
  go_wp2_with fail
  obtain ⟨d, hd⟩ : ∃ d, d = w1.heap.size := ⟨_, rfl⟩
  have hdb : (w1.alloc (.cells #[.int .u32 0] 40)).heap[d]? = some (.cells #[.int .u32 0] 40 (0, 0)) := by rw [hd]; exact heap_alloc_new w1 _
  have hpw := H1.out.below ((Below.refl _ _).alloc (Nat.le_refl _) (.cells #[.int .u32 0] 40))
  have hst : Stp (pz c b g) w (pzd c b g1 d) (w1.alloc (.cells #[.int .u32 0] 40)) := (HS1.out.alloc _).re (fun k hk => by
    rcases hk with hk | hk
    · exact HS1.out.zone k hk
    · exact Or.inr (by omega))
  have hdz : ¬ pz c b g1 d := by rintro (hk | hk | hk) <;> omega
  generalize w1.alloc (.cells #[.int .u32 0] 40) = W at *
  rw [← hd]
  have HDB := Lib.hid hdb
  have HPW := Lib.hid hpw
  have HST := Lib.hid hst
  have HDZ := Lib.hid hdz
  clear hdb hpw hst hdz hd hsz1 hlt1
  go_loopg [13] l.length (fun gk s13 wx => ∃ i g', ∃ st : WS × Int, i + gk = l.length ∧ s13 = .int .i64 i ∧ st = (l.take i).foldl WS.entStep (s.var l.length, 0) ∧ 0 ≤ st.2 ∧ st.2 ≤ 4294967295 ∧
    PW wx c b g' st.1 ∧ wx.heap[d]? = some (.cells #[.int .u32 st.2] 40 (0, 0)) ∧ ¬ pz c b g' d ∧ Stp (pz c b g) w (pzd c b g' d) wx)
  case atStart => exact ⟨0, g1, _, by omega, rfl, rfl, by simp, by simp, HPW.out, HDB.out, HDZ.out, HST.out⟩
  case round =>
    obtain ⟨i, g', st, hi, rfl, hste, hst0, hst1, hpw, hdb, hdz, hst⟩ := hrel
    have HSTE := Lib.hid hste
    have HPW2 := Lib.hid hpw
    have HDB2 := Lib.hid hdb
    have HDZ2 := Lib.hid hdz
    have HST2 := Lib.hid hst
    have HL0 := Lib.hid hst0
    have HL1 := Lib.hid hst1
    clear hste hst0 hst1
    by_cases hlt : i < l.length
    · obtain ⟨a, hai⟩ : ∃ a, l[i]? = some a := ⟨_, List.getElem?_eq_getElem hlt⟩
      obtain ⟨b', o', hv, rfl, hz, hbl, hwf, hrc, c0, c1⟩ := (HV.out.stp hst).at hai
      obtain ⟨A2, cap2, rfl, hc1, hc2⟩ := hrc.form
      have HA := Lib.hid hai
      have HRC := Lib.hid hrc
      have HWF := Lib.hid hwf
      have hL : (i : Int) < (l.length : Int) := by omega
      clear hai hrc hwf hz hpw hdb hdz hst
      go_wp2_with fail
      -- the entity's own variable
      have hE0 := RE.box (w := wr) a (.slice A2 a.comps.length cap2)
      have hbel : Below wr.heap.size wr (wr.alloc (.cells #[.int .u32 a.id, .slice A2 a.comps.length cap2] 43)) := (Below.refl _ _).alloc (Nat.le_refl _) _
      have hp1 := HPW2.out.below hbel
      have hd1 := (hbel.block d (heap_lt HDB2.out)).trans HDB2.out
      have hs1 := HST2.out.alloc (.cells #[.int .u32 a.id, .slice A2 a.comps.length cap2] 43)
      have hr1 := HRC.out.below hbel
      have hEz : ¬ pzd c b g' d wr.heap.size := by
        have := HPW2.out.lt
        have := heap_lt HDB2.out
        rintro ((hk | hk | hk) | hk) <;> omega
      obtain ⟨E, hE⟩ : ∃ E, E = wr.heap.size := ⟨_, rfl⟩
      rw [← hE] at hE0 hEz
      rw [← hE]
      generalize wr.alloc (.cells #[.int .u32 a.id, .slice A2 a.comps.length cap2] 43) = W1 at *
      clear hbel hE c0 c1
      have HS1 := Lib.hid hs1
      have HR1 := Lib.hid hr1
      have HE0 := Lib.hid hE0
      have HEZ := Lib.hid hEz
      clear hs1 hr1 hE0 hEz
      refine (id_any c b g' d st.1 st.2 a.id _ hp1 hd1 HDZ2.out HL0.out HL1.out HWF.out.id0 HWF.out.id1).mono ?_
      rintro x w2 ⟨rfl, g2, hp2, hd2, hdz2, hs2⟩
      have hE2 := (hs2.block E (heap_lt HE0.out) HEZ.out).trans HE0.out
      have hEz2 := nz_keep HEZ.out hs2 (heap_lt HE0.out)
      have hr2 := HR1.out.stp hs2
      have e1 : w2.cell? ⟨E, 1, none⟩ = some (.slice A2 a.comps.length cap2) := cell_at hE2 rfl
      have HS2 := Lib.hid (HS1.out.trans hs2)
      have HP2 := Lib.hid hp2
      have HD2 := Lib.hid hd2
      have HDZ3 := Lib.hid hdz2
      have HE2 := Lib.hid hE2
      have HEZ2 := Lib.hid hEz2
      have HR2 := Lib.hid hr2
      clear hp1 hd1 hp2 hd2 hdz2 hs2 hE2 hEz2 hr2
      go_wp2_with fail
      refine (mask_any _ _ a.comps _ HR2.out).mono ?_
      rintro x w3 ⟨rfl, hb3⟩
      have hm64 := maskN_lt a.comps
      have hx : IntKind.u64.wrap ((maskN a.comps : Nat) : Int) = ((maskN a.comps : Nat) : Int) := IntWalk.u64_in _ (by omega)
      have hp3 := HP2.out.below hb3
      have hd3 := (hb3.block d (heap_lt HD2.out)).trans HD2.out
      have hE3 := (hb3.block E (heap_lt HE2.out)).trans HE2.out
      have hr3 := HR2.out.below hb3
      have HS3 := Lib.hid (HS2.out.trans (.of_below hb3))
      have HP3 := Lib.hid hp3
      have HD3 := Lib.hid hd3
      have HE3 := Lib.hid hE3
      have HR3 := Lib.hid hr3
      clear hb3 hp3 hd3 hE3 hr3 e1
      go_wp2_with fail
      refine (plain_any c b g2 _ _ 5 _ HP3.out (by omega) (by omega) (by omega) (by omega)).mono ?_
      rintro x w4 ⟨rfl, g4, hp4, hs4⟩
      have hs4' := pzd_mono (d := d) hs4
      have hd4 := (hs4.block d (heap_lt HD3.out) HDZ3.out).trans HD3.out
      have hdz4 := nz_keep HDZ3.out hs4 (heap_lt HD3.out)
      have hE4 := (hs4'.block E (heap_lt HE3.out) HEZ2.out).trans HE3.out
      have hr4 := HR3.out.stp hs4'
      have e1 : w4.cell? ⟨E, 1, none⟩ = some (.slice A2 a.comps.length cap2) := cell_at hE4 rfl
      have HS4 := Lib.hid (HS3.out.trans hs4')
      have HP4 := Lib.hid hp4
      have HD4 := Lib.hid hd4
      have HDZ4 := Lib.hid hdz4
      have HR4 := Lib.hid hr4
      clear hp4 hs4 hs4' hd4 hdz4 hE4 hr4 hx
      go_wp2_with fail
      refine (wcomps_any c b g4 _ _ _ a.comps _ HP4.out HR4.out (fun k hk => Or.inl hk)).mono ?_
      rintro x w5 ⟨rfl, g5, hp5, hs5⟩
      have hd5 := (hs5.block d (heap_lt HD4.out) HDZ4.out).trans HD4.out
      have hdz5 := nz_keep HDZ4.out hs5 (heap_lt HD4.out)
      have HS5 := Lib.hid (HS4.out.trans (pzd_mono (d := d) hs5))
      have HP5 := Lib.hid hp5
      have HD5 := Lib.hid hd5
      have HDZ5 := Lib.hid hdz5
      clear hp5 hs5 hd5 hdz5 e1
      go_wp2_with fail
      go_roundg (gk - 1)
      case measure => omega
      case rel => exact ⟨i + 1, g5, WS.entStep st a, by omega, by simp, by rw [take_at HA.out, List.foldl_append, ← HSTE.out]; rfl, HWF.out.id0, HWF.out.id1, HP5.out, HD5.out, HDZ5.out, HS5.out⟩
    · have hil : i = l.length := by omega
      have he : s.ents l = st.1 := by rw [WS.ents, HSTE.out, hil, List.take_length]
      have HE := Lib.hid he
      have hL : ¬ (i : Int) < (l.length : Int) := by omega
      clear he hil hi hlt hpw hdb hdz hst
      go_wp2_with fail
      go_end0
      rw [HE.out]
      exact ⟨rfl, g', HPW2.out, HST2.out.re (fun k hk => HST2.out.zone k (Or.inl hk))⟩
end Go.Proofs.Ytbklglckmhfmcaa
