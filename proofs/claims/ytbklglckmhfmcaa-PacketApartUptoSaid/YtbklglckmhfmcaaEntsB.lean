/- snap.Find, packet.old, snap.one, snap.Form. -/
import Derived.Test.YtbklglckmhfmcaaEnts
set_option linter.unusedVariables false
set_option linter.unusedSimpArgs false
namespace Go.Proofs.Ytbklglckmhfmcaa
open Go.RowKit
set_option maxRecDepth 100000

def findI (l : List Ent) (id : Int) : Int := match l.findIdx? (fun e => decide (e.id = id)) with | some i => i | none => -1
theorem find_yes {l : List Ent} {id : Int} {i : Nat} {a : Ent} (hr : Rising l) (ha : l[i]? = some a) (hid : a.id = id) : l.findIdx? (fun e => decide (e.id = id)) = some i := by
  rw [List.findIdx?_eq_some_iff_getElem]
  obtain ⟨h1, h2⟩ := List.getElem?_eq_some_iff.1 ha
  refine ⟨h1, by rw [h2]; simp [hid], fun j hj => ?_⟩
  have := hr j i l[j] a (List.getElem?_eq_getElem (by omega)) ha hj
  simp; omega
theorem find_no {l : List Ent} {id : Int} (h : ∀ (i : Nat) (a : Ent), l[i]? = some a → a.id ≠ id) : l.findIdx? (fun e => decide (e.id = id)) = none := by
  rw [List.findIdx?_eq_none_iff]
  intro a ha
  obtain ⟨i, hi⟩ := List.getElem?_of_mem ha
  simp; exact h i a hi
set_option maxHeartbeats 2000000 in
theorem find_any (Z : Nat → Prop) (v : Value) (l : List Ent) (id : Int) (w : World) (h : RE Z w v l) (hl : l.length ≤ 4611686018427387904) (hr : Rising l) (hi0 : 0 ≤ id) (hi1 : id ≤ 4294967295) :
    Calls Try.prog 66 #[v, .int .u32 id] w fun e w' => e = .returned (.int .i64 (findI l id)) ∧ Below w.heap.size w w' := by
  obtain ⟨A, cap, rfl, hcap1, hcap2⟩ := h.form
  have HR := Lib.hid hr
  clear hr
  go_enter Try.func66, Try.ntmps66
  go_wp2_with fail
  refine (search_any Z _ l id _ h hl HR.out hi0 hi1).mono ?_
  rintro e w' ⟨i, ok, rfl, hil, hlo, hhi, hok, hb⟩
  have HOK := Lib.hid hok
  have HLO := Lib.hid hlo
  have HHI := Lib.hid hhi
  have HB := Lib.hid hb
  clear hlo hhi hok hb h
  cases ok with
  | true =>
    have hf : findI l id = i := by
      obtain ⟨a, ha, hid⟩ := HOK.out.1 rfl
      unfold findI; rw [find_yes HR.out ha hid]
    have HF := Lib.hid hf
    clear hf
    go_wp2_with fail
    go_ret
    rw [HF.out]
    exact ⟨rfl, HB.out⟩
  | false =>
    have hf : findI l id = -1 := by
      unfold findI
      rw [find_no]
      intro t a ha hid
      have h1 : ¬ (l[i]? = some a) := fun hia => by have := HOK.out.2 ⟨a, hia, hid⟩; simp at this
      by_cases hti : t < i
      · have := HLO.out t a ha hti; omega
      · by_cases hte : t = i
        · subst hte; exact h1 ha
        · have hlt : t < l.length := (List.getElem?_eq_some_iff.1 ha).1
          obtain ⟨x, hx⟩ : ∃ x, l[i]? = some x := ⟨_, List.getElem?_eq_getElem (by omega)⟩
          have h2 := HHI.out i x hx (by omega)
          have h3 := HR.out i t x a hx ha (by omega)
          omega
    have HF := Lib.hid hf
    clear hf
    go_wp2_with fail
    go_ret
    rw [HF.out]
    exact ⟨rfl, HB.out⟩

/-- The component of a kind that an entity had: packet.old. -/
def zeroC : Comp := ⟨0, 0, 0, 0⟩
def oldC (was : List Ent) (id kind : Int) : Comp :=
  match was.find? (fun e => decide (e.id = id)) with
  | none => zeroC
  | some e => (e.comps.find? (fun c => decide (c.k = kind))).getD zeroC
theorem find_skip {α : Type} (p : α → Bool) (l : List α) (i : Nat) (h : ∀ a ∈ l.take i, p a = false) : l.find? p = (l.drop i).find? p := by
  conv => lhs; rw [← List.take_append_drop i l]
  rw [List.find?_append]
  have : (l.take i).find? p = none := by rw [List.find?_eq_none]; intro a ha; simp [h a ha]
  rw [this]; rfl
theorem findI_neg {l : List Ent} {id : Int} (h : findI l id < 0) : l.find? (fun e => decide (e.id = id)) = none := by
  unfold findI at h
  cases hf : l.findIdx? (fun e => decide (e.id = id)) with
  | none => rw [List.findIdx?_eq_none_iff] at hf; rw [List.find?_eq_none]; intro a ha; simp [hf a ha]
  | some i => rw [hf] at h; simp at h; omega
theorem findI_some {l : List Ent} {id : Int} (h : ¬ findI l id < 0) : ∃ (i : Nat) (a : Ent), findI l id = i ∧ l[i]? = some a ∧ a.id = id ∧ l.find? (fun e => decide (e.id = id)) = some a := by
  unfold findI at h ⊢
  cases hf : l.findIdx? (fun e => decide (e.id = id)) with
  | none => rw [hf] at h; simp at h
  | some i =>
    obtain ⟨h1, h2, h3⟩ := List.findIdx?_eq_some_iff_getElem.1 hf
    refine ⟨i, l[i], by simp, List.getElem?_eq_getElem h1, by simpa using h2, ?_⟩
    rw [find_skip _ l i (fun a ha => ?_), List.drop_eq_getElem_cons h1, List.find?_cons, h2]
    obtain ⟨j, hj, rfl⟩ := List.mem_iff_getElem.1 ha
    rw [List.length_take] at hj
    have := h3 j (by omega)
    simpa using this
theorem zeroC_wf : zeroC.wf := ⟨by decide, by decide, fun i => by match i with | 0 => decide | 1 => decide | _ + 2 => exact ⟨by show (-2147483648 : Int) ≤ 0; decide, by show (0 : Int) ≤ 2147483647; decide⟩⟩
set_option maxHeartbeats 4000000 in
theorem old_any (Z : Nat → Prop) (v : Value) (l : List Ent) (id kind : Int) (w : World) (h : RE Z w v l) (hl : l.length ≤ 4611686018427387904) (hr : Rising l) (hi0 : 0 ≤ id) (hi1 : id ≤ 4294967295) (hk0 : 0 ≤ kind) (hk1 : kind ≤ 255) :
    Calls Try.prog 45 #[v, .int .u32 id, .int .u8 kind] w fun e w' => e = .returned (oldC l id kind).v ∧ (oldC l id kind).wf ∧ Below w.heap.size w w' := by
  obtain ⟨A, cap, rfl, hcap1, hcap2⟩ := h.form
  have HR := Lib.hid hr
  have HH := Lib.hid h
  clear hr h
  go_enter Try.func45, Try.ntmps45
  go_wp2_with fail
  have h1 := HH.out.below ((Below.refl _ _).alloc (Nat.le_refl _) (.cells #[.int .u8 0, .int .i32 0, .int .i32 0, .int .i32 0] 48))
  refine (find_any Z _ l id _ h1 hl HR.out hi0 hi1).mono ?_
  rintro e w1 ⟨rfl, hb⟩
  have hbx : BoxC w1 w.heap.size zeroC := (BoxC.new w zeroC).below hb
  have hB : Below w.heap.size w w1 := ((Below.refl _ _).alloc (Nat.le_refl _) _).trans (hb.mono (by simp))
  have h2 := h1.below hb
  obtain ⟨B, hBe⟩ : ∃ B, B = w.heap.size := ⟨_, rfl⟩
  rw [← hBe] at hbx
  rw [← hBe]
  have c0 := hbx.k
  have c1 := hbx.f 0 (by omega)
  have c2 := hbx.f 1 (by omega)
  have c3 := hbx.f 2 (by omega)
  have f0 : ∀ o, w1.frozen? ⟨B, o, none⟩ = false := fun o => unfrozen hbx
  have hBl := heap_lt hbx
  have HB := Lib.hid hB
  have HBE := Lib.hid hBe
  have hBB : w.heap.size ≤ B := by omega
  have HBX := Lib.hid hbx
  have H2 := Lib.hid h2
  clear hb hB hBe h1 h2 hbx
  by_cases hneg : findI l id < 0
  · have ho : oldC l id kind = zeroC := by unfold oldC; rw [findI_neg hneg]
    have HO := Lib.hid ho
    clear ho
    go_wp2_with fail
    rw [HO.out]
    refine bodyPost_ret (v := zeroC.v) (by simp [results, Try.results45, go_sem, c0, c1, c2, c3, zeroC, Comp.v]) rfl ⟨rfl, zeroC_wf, ?_⟩
    exact ((((HB.out.setCell (p := ⟨B, 0, none⟩) hBB _).setCell (p := ⟨B, 1, none⟩) hBB _).setCell (p := ⟨B, 2, none⟩) hBB _).setCell (p := ⟨B, 3, none⟩) hBB _)
  · obtain ⟨i, a, hfi, hai, haid, hfa⟩ := findI_some hneg
    have ho : oldC l id kind = (a.comps.find? (fun c => decide (c.k = kind))).getD zeroC := by unfold oldC; rw [hfa]
    obtain ⟨b, o, hv, rfl, hz, hbl, hwf, hrc, d0, d1⟩ := H2.out.at hai
    have hil : (i : Int) < (l.length : Int) := by have := (List.getElem?_eq_some_iff.1 hai).1; omega
    obtain ⟨A2, cap2, rfl, hc1, hc2⟩ := hrc.form
    rw [hfi]
    have HO := Lib.hid ho
    have HRC := Lib.hid hrc
    clear ho hneg hfi hai haid hfa hrc hwf hz
    go_wp2_with fail
    go_loopg [22] a.comps.length (fun g s22 wx => ∃ t : Nat, t + g = a.comps.length ∧ s22 = .int .i64 t ∧ Below w1.heap.size w1 wx ∧ ∀ x ∈ a.comps.take t, decide (x.k = kind) = false)
    case atStart => exact ⟨0, by omega, rfl, .refl _ _, by simp⟩
    case round =>
      obtain ⟨t, ht, rfl, hbw, hall⟩ := hrel
      have HALL := Lib.hid hall
      have HBW := Lib.hid hbw
      have hbx := HBX.out.below hbw
      have p0 := hbx.k
      have p1 := hbx.f 0 (by omega)
      have p2 := hbx.f 1 (by omega)
      have p3 := hbx.f 2 (by omega)
      have fp : ∀ o, wr.frozen? ⟨B, o, none⟩ = false := fun o => unfrozen hbx
      have hBl2 := heap_lt hbx
      clear hall hbx
      by_cases hlt : t < a.comps.length
      · obtain ⟨x, hxi⟩ : ∃ x, a.comps[t]? = some x := ⟨_, List.getElem?_eq_getElem hlt⟩
        obtain ⟨b2, o2, rfl, hz2, hbl2, hwf2, q0, q1, q2, q3⟩ := (HRC.out.below hbw).at hxi
        have HX := Lib.hid hxi
        have HWF := Lib.hid hwf2
        have hL : (t : Int) < (a.comps.length : Int) := by omega
        clear hxi hwf2 hbw hz2
        by_cases hk : x.k = kind
        · have hk1 : (x.k == kind) = true := by simp [hk]
          have ho : oldC l id kind = x := by
            rw [HO.out, find_skip _ _ t HALL.out, drop_at HX.out, List.find?_cons]; simp [hk]
          have HO2 := Lib.hid ho
          clear hk ho
          go_wp2_with fail
          rw [HO2.out]
          refine bodyPost_ret (v := x.v) (by simp [results, Try.results45, go_sem, p0, p1, p2, p3, Comp.v, hBl2]) rfl ⟨rfl, HWF.out, ?_⟩
          have hbb : Below w.heap.size w wr := HB.out.trans (HBW.out.mono HB.out.size)
          have hss := hbb.size
          exact (((((hbb.setCell (p := ⟨B, 0, none⟩) hBB _).setCell (p := ⟨B, 1, none⟩) hBB _).setCell (p := ⟨B, 2, none⟩) hBB _).setCell (p := ⟨B, 3, none⟩) hBB _).alloc (by simp; omega) _)
        · have hk1 : (x.k == kind) = false := by simp [hk]
          have HK := Lib.hid hk
          clear hk
          go_wp2_with fail
          go_roundg (gk - 1)
          case measure => omega
          case rel => exact ⟨t + 1, by omega, by simp, HBW.out.alloc HBW.out.size _, fun y hy => by
            rw [take_at HX.out, List.mem_append] at hy
            rcases hy with hy | hy
            · exact HALL.out y hy
            · simp at hy; subst hy; simpa using HK.out⟩
      · have htl : t = a.comps.length := by omega
        have ho : oldC l id kind = zeroC := by
          have hn : a.comps.find? (fun c => decide (c.k = kind)) = none := by
            rw [List.find?_eq_none]
            intro y hy
            have := HALL.out y (by rw [htl, List.take_length]; exact hy)
            simp [this]
          rw [HO.out, hn]; rfl
        have hL : ¬ (t : Int) < (a.comps.length : Int) := by omega
        have HO2 := Lib.hid ho
        clear ho htl ht hlt
        go_wp2_with fail
        rw [HO2.out]
        refine bodyPost_ret (v := zeroC.v) (by simp [results, Try.results45, go_sem, p0, p1, p2, p3, zeroC, Comp.v]) rfl ⟨rfl, zeroC_wf, ?_⟩
        exact (((((HB.out.trans (HBW.out.mono HB.out.size)).setCell (p := ⟨B, 0, none⟩) hBB _).setCell (p := ⟨B, 1, none⟩) hBB _).setCell (p := ⟨B, 2, none⟩) hBB _).setCell (p := ⟨B, 3, none⟩) hBB _)
end Go.Proofs.Ytbklglckmhfmcaa
