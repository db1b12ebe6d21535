/- pinnaceref18.Form. -/
import Derived.Test.YtbklglckmhfmcaaRefB
import Derived.Test.YtbklglckmhfmcaaRefD
set_option linter.unusedVariables false
set_option linter.unusedSimpArgs false
namespace Go.Proofs.Ytbklglckmhfmcaa
open Go.RowKit
set_option maxRecDepth 100000

theorem form_head {l : List Ent} {i : Nat} {e : Ent} (h : l[i]? = some e) (hw : e.wf) :
    formFrom (lastId l i) (l.drop i) = if e.id / 1024 < 1 ∨ (0 < i ∧ e.id ≤ lastId l i) then 4 else if listE e.comps ≠ 0 then listE e.comps else if secretAny e.comps = true then 4 else formFrom e.id (l.drop (i + 1)) := by
  rw [drop_at h, formFrom, oneE]
  by_cases h1 : e.id / 1024 < 1
  · rw [if_pos h1, if_pos (Or.inl h1)]; simp
  · rw [if_neg h1]
    by_cases h0 : 0 < i
    · by_cases h2 : e.id ≤ lastId l i
      · rw [if_pos h2, if_pos (Or.inr ⟨h0, h2⟩)]
      · rw [if_neg h2, if_neg (show ¬ (e.id / 1024 < 1 ∨ (0 < i ∧ e.id ≤ lastId l i)) from fun h => h.elim h1 fun h => h2 h.2)]
    · have hi : i = 0 := by omega
      subst hi
      have hl : lastId l 0 = 0 := rfl
      rw [if_neg (show ¬ e.id ≤ lastId l 0 by rw [hl]; omega), if_neg (show ¬ (e.id / 1024 < 1 ∨ (0 < 0 ∧ e.id ≤ lastId l 0)) from fun h => h.elim h1 fun h => absurd h.1 (by omega))]

set_option maxHeartbeats 8000000 in
theorem rform_any (Z : Nat → Prop) (v : Value) (l : List Ent) (w : World) (h : RE Z w v l) : Calls Try.prog 7 #[v] w fun x w' => x = .returned (.int .i64 (formE l)) ∧ Below w.heap.size w w' := by
  obtain ⟨A, cap, rfl, hcap1, hcap2⟩ := h.form
  have HH := Lib.hid h
  clear h
  go_enter Try.func7, Try.ntmps7
  go_wp2_with fail
  go_loopg [11] l.length (fun g s11 wx => ∃ i, i + g = l.length ∧ s11 = .int .i64 i ∧ Below w.heap.size w wx ∧ formE l = formFrom (lastId l i) (l.drop i))
  case atStart => exact ⟨0, by omega, rfl, .refl _ _, rfl⟩
  case round =>
    obtain ⟨i, hi, rfl, hbw, hinv⟩ := hrel
    have HI := Lib.hid hinv
    have HBW := Lib.hid hbw
    clear hinv
    by_cases hlt : i < l.length
    · obtain ⟨a, hai⟩ : ∃ a, l[i]? = some a := ⟨_, List.getElem?_eq_getElem hlt⟩
      obtain ⟨b, o, hv, rfl, hz, hbl, hwf, hrc, c0, c1⟩ := (HH.out.below hbw).at hai
      obtain ⟨A2, cap2, rfl, hc1, hc2⟩ := hrc.form
      have hf := HI.out.trans (form_head hai hwf)
      have HF := Lib.hid hf
      have HA := Lib.hid hai
      have HRC := Lib.hid hrc
      have hL : (i : Int) < (l.length : Int) := by omega
      have h0 := hwf.id0
      have h1 := hwf.id1
      have hbX : Below wr.heap.size wr (wr.alloc (.cells #[.int .u32 a.id, .slice A2 a.comps.length cap2] 43)) := (Below.refl _ _).alloc (Nat.le_refl _) _
      have hX0 := RE.box (w := wr) a (.slice A2 a.comps.length cap2)
      have hbA := HBW.out.trans (hbX.mono HBW.out.size)
      have hrA := hrc.below hbX
      have hr2 := HH.out.below hbA
      have hXl := heap_lt hX0
      have x0 := cell_at (o := 0) hX0 rfl
      have x1 := cell_at (o := 1) hX0 rfl
      have HX := Lib.hid hX0
      have HBA := Lib.hid hbA
      have HRA := Lib.hid hrA
      have HR2 := Lib.hid hr2
      clear hai hrc hwf hbw hz hf hbX hX0 hbA hrA hr2
      go_wp2_with fail
      refine (rgen_any _ _ h0 h1).mono ?_
      rintro x w1 ⟨rfl, rfl⟩
      obtain ⟨X, hX⟩ : ∃ X, X = wr.heap.size := ⟨_, rfl⟩
      rw [← hX] at HX x0 x1 hXl
      simp only [← hX]
      generalize wr.alloc (.cells #[.int .u32 a.id, .slice A2 a.comps.length cap2] 43) = W1 at *
      have hg1 : ¬ (4194303 < a.id / 1024) := by omega
      have hgd : decide (4194303 < a.id / 1024) = false := by simpa using hg1
      clear hX c0 c1
      by_cases hb : a.id / 1024 < 1 ∨ (0 < i ∧ a.id ≤ lastId l i)
      · have hl : formE l = 4 := by rw [HF.out, if_pos hb]
        have HL := Lib.hid hl
        clear hl
        by_cases hb1 : a.id / 1024 < 1
        · have hd1 : decide (a.id / 1024 < 1) = true := by simpa using hb1
          clear hb
          go_wp2_with fail
          go_quiet (fail)
          go_wp2_with fail
          go_ret
          rw [HL.out]
          exact ⟨rfl, below_drewN HBA.out _⟩
        · have hd1 : decide (a.id / 1024 < 1) = false := by simpa using hb1
          obtain ⟨hb2, hb3⟩ := hb.resolve_left hb1
          obtain ⟨j, rfl⟩ : ∃ j, i = j + 1 := ⟨i - 1, by omega⟩
          obtain ⟨a', haj⟩ : ∃ a', l[j]? = some a' := ⟨_, List.getElem?_eq_getElem (by omega)⟩
          obtain ⟨b', o', hv', hbo, _, _, hwf', _, d0, _⟩ := HR2.out.at haj
          simp only [Option.some.injEq, Addr.mk.injEq, and_true] at hbo
          obtain ⟨rfl, rfl⟩ := hbo
          have hp : lastId l (j + 1) = a'.id := by simp [lastId, haj]
          rw [hp] at hb3
          have hd3 : decide (a.id ≤ a'.id) = true := by simpa using hb3
          have hj1 : (j : Int) < (l.length : Int) := by omega
          have hj0 : (0 : Int) ≤ (j : Int) := by omega
          have hw1 : IntKind.i64.wrap (j : Int) = (j : Int) := IntWalk.i64_in _ (by omega)
          have hw2 : IntKind.i64.wrap ((j : Int) + 1 - 1) = (j : Int) := by rw [IntWalk.i64_in _ (by omega)]; omega
          have hg : (0 : Int) < (j : Int) + 1 := by omega
          clear haj hp hb hb3 hwf'
          go_wp2_with fail
          go_quiet (fail)
          go_wp2_with fail
          go_ret
          rw [HL.out]
          exact ⟨rfl, below_drewN HBA.out _⟩
      · have hl : formE l = if listE a.comps ≠ 0 then listE a.comps else if secretAny a.comps = true then 4 else formFrom a.id (l.drop (i + 1)) := by rw [HF.out, if_neg hb]
        have HL := Lib.hid hl
        clear hl
        have hd1 : decide (a.id / 1024 < 1) = false := by have : ¬ a.id / 1024 < 1 := fun h => hb (Or.inl h); simpa using this
        go_upto_region 5 with (fail)
        go_cut [39] (fun s39 wx => s39 = .bool false ∧ ∃ n, wx = World.drewN W1 n)
        case first =>
          by_cases hi0 : i = 0
          · subst hi0
            clear hb
            go_quiet (fail)
            go_wp2_with fail
            go_meet
            exact ⟨rfl, _, rfl⟩
          · obtain ⟨j, rfl⟩ : ∃ j, i = j + 1 := ⟨i - 1, by omega⟩
            obtain ⟨a', haj⟩ : ∃ a', l[j]? = some a' := ⟨_, List.getElem?_eq_getElem (by omega)⟩
            obtain ⟨b', o', hv', hbo, _, _, hwf', _, d0, _⟩ := HR2.out.at haj
            simp only [Option.some.injEq, Addr.mk.injEq, and_true] at hbo
            obtain ⟨rfl, rfl⟩ := hbo
            have hp : lastId l (j + 1) = a'.id := by simp [lastId, haj]
            have hb3 : ¬ a.id ≤ a'.id := fun h => hb (Or.inr ⟨by omega, by rw [hp]; exact h⟩)
            have hd3 : decide (a.id ≤ a'.id) = false := by simpa using hb3
            have hj1 : (j : Int) < (l.length : Int) := by omega
            have hj0 : (0 : Int) ≤ (j : Int) := by omega
            have hw1 : IntKind.i64.wrap (j : Int) = (j : Int) := IntWalk.i64_in _ (by omega)
            have hw2 : IntKind.i64.wrap ((j : Int) + 1 - 1) = (j : Int) := by rw [IntWalk.i64_in _ (by omega)]; omega
            have hg : (0 : Int) < (j : Int) + 1 := by omega
            clear haj hp hb hwf' hb3
            go_quiet (fail)
            go_wp2_with fail
            go_meet
            exact ⟨rfl, _, rfl⟩
        case rest =>
          obtain ⟨rfl, n, rfl⟩ := hcut
          have hbn : Below W1.heap.size W1 (W1.drewN n) := below_drewN (Below.refl _ _) n
          have y1 : (W1.drewN n).cell? ⟨X, 1, none⟩ = some (.slice A2 a.comps.length cap2) := x1
          have hrn := HRA.out.below hbn
          have hbN := HBA.out.trans (hbn.mono HBA.out.size)
          have hXN : (W1.drewN n).heap[X]? = some (.cells #[.int .u32 a.id, .slice A2 a.comps.length cap2] 43 (0, 0)) := HX.out
          have HXN := Lib.hid hXN
          generalize W1.drewN n = W2 at *
          have HRN := Lib.hid hrn
          have HBN := Lib.hid hbN
          clear hb x0 x1 hbn hrn hbN hXN
          go_wp2_with fail
          refine (rlist_any _ _ a.comps _ HRN.out).mono ?_
          rintro x w3 ⟨rfl, hb3⟩
          have hX3 := (hb3.block X (heap_lt HXN.out)).trans HXN.out
          have z1 := cell_at (o := 1) hX3 rfl
          have hB3 := HBN.out.trans (hb3.mono HBN.out.size)
          have hR3 := HRN.out.below hb3
          have HB3 := Lib.hid hB3
          have HR3 := Lib.hid hR3
          clear hb3 hX3 hB3 hR3 y1
          by_cases hle : listE a.comps = 0
          · have hle1 : (listE a.comps != 0) = false := by simp [hle]
            have hl2 : formE l = if secretAny a.comps = true then 4 else formFrom a.id (l.drop (i + 1)) := by rw [HL.out, if_neg (by simp [hle])]
            have HL2 := Lib.hid hl2
            clear hle hl2
            go_wp2_with fail
            obtain ⟨G, hG⟩ : ∃ G, G = gk := ⟨_, rfl⟩
            subst hG
            go_loopg [49] a.comps.length (fun gk s49 wx => ∃ k : Nat, k + gk = a.comps.length ∧ s49 = .int .i64 k ∧ Below w3.heap.size w3 wx ∧ ∀ c ∈ a.comps.take k, told c.k = true)
            case atStart => exact ⟨0, by omega, rfl, .refl _ _, by simp⟩
            case round =>
              obtain ⟨k, hk, rfl, hbk, hall⟩ := hrel
              have HALL := Lib.hid hall
              have HBK := Lib.hid hbk
              clear hall
              by_cases hlk : k < a.comps.length
              · obtain ⟨c, hck⟩ : ∃ c, a.comps[k]? = some c := ⟨_, List.getElem?_eq_getElem hlk⟩
                obtain ⟨b2, o2, rfl, hz2, hbl2, hwf2, e0, e1, e2, e3⟩ := (HR3.out.below hbk).at hck
                have hLk : (k : Int) < (a.comps.length : Int) := by omega
                have htk : a.comps.take (k + 1) = a.comps.take k ++ [c] := by rw [List.take_add_one, hck]; rfl
                have HTK := Lib.hid htk
                have hmem := Lib.hid (List.mem_of_getElem? hck)
                have hk0 := hwf2.k0
                have hk1 := hwf2.k1
                clear hck hz2 hbk hwf2 htk
                go_wp2_with fail
                refine (rtold_any _ _ hk0 hk1).mono ?_
                rintro x w4 ⟨rfl, rfl⟩
                have hB4 := HB3.out.trans ((HBK.out.alloc HBK.out.size (.cells #[.int .u8 c.k, .int .i32 c.f0, .int .i32 c.f1, .int .i32 c.f2] 48)).mono HB3.out.size)
                have HB4 := Lib.hid hB4
                clear hB4
                cases ht : told c.k with
                | true =>
                  have HT := Lib.hid ht
                  clear ht
                  go_wp2_with fail
                  go_roundg (gk - 1)
                  case measure => omega
                  case rel => exact ⟨k + 1, by omega, by simp, HBK.out.alloc HBK.out.size _, fun c' hc' => by
                    rw [HTK.out, List.mem_append, List.mem_singleton] at hc'
                    rcases hc' with h1 | h1
                    · exact HALL.out c' h1
                    · rw [h1]; exact HT.out⟩
                | false =>
                  have hs : secretAny a.comps = true := by unfold secretAny; rw [List.any_eq_true]; exact ⟨c, hmem.out, by simp [ht]⟩
                  have hl3 : formE l = 4 := by rw [HL2.out, if_pos hs]
                  have HL3 := Lib.hid hl3
                  clear ht hs hl3
                  go_wp2_with fail
                  go_ret
                  rw [HL3.out]
                  exact ⟨rfl, HB4.out⟩
              · have hkl : k = a.comps.length := by omega
                subst hkl
                have hs : secretAny a.comps = false := by
                  unfold secretAny; rw [List.any_eq_false]
                  intro c hc
                  have := HALL.out c (by rw [List.take_length]; exact hc)
                  simp [this]
                have hl3 : formE l = formFrom a.id (l.drop (i + 1)) := by rw [HL2.out, hs]; simp
                have HL3 := Lib.hid hl3
                have hLk : ¬ (a.comps.length : Int) < (a.comps.length : Int) := by omega
                clear hs hl3 hlk hbk
                go_wp2_with fail
                go_roundg (G - 1)
                case measure => omega
                case rel => exact ⟨i + 1, by omega, by simp, HB3.out.trans (HBK.out.mono HB3.out.size), by rw [HL3.out]; simp [lastId, HA.out]⟩
          · have hle1 : (listE a.comps != 0) = true := by simpa using hle
            have hl2 : formE l = listE a.comps := by rw [HL.out, if_pos hle]
            have HL2 := Lib.hid hl2
            clear hle hl2
            go_wp2_with fail
            go_ret
            rw [HL2.out]
            exact ⟨rfl, HB3.out⟩
    · have hil : i = l.length := by omega
      have hl : formE l = 0 := by rw [HI.out, hil, List.drop_length]; rfl
      have HL := Lib.hid hl
      have hL : ¬ (i : Int) < (l.length : Int) := by omega
      clear hl hil hi hlt
      go_wp2_with fail
      go_ret
      rw [HL.out]
      exact ⟨rfl, HBW.out⟩
end Go.Proofs.Ytbklglckmhfmcaa
