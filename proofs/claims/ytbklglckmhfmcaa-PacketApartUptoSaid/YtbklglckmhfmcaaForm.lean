/- snap.one, snap.Form. -/
import Derived.Test.YtbklglckmhfmcaaEntsB
set_option linter.unusedVariables false
set_option linter.unusedSimpArgs false
namespace Go.Proofs.Ytbklglckmhfmcaa
open Go.RowKit
set_option maxRecDepth 100000

set_option maxHeartbeats 1000000 in
theorem gen_any (id : Int) (w : World) (h0 : 0 ≤ id) (h1 : id ≤ 4294967295) : Calls Try.prog 57 #[.int .u32 id] w fun e w' => e = .returned (.int .i64 (id / 1024)) ∧ w' = w := by
  have hx : IntKind.i64.wrap (id / 1024) = id / 1024 := IntWalk.i64_in _ (by omega)
  go_enter Try.func57, Try.ntmps57
  go_wp2
  go_ret
  exact ⟨rfl, rfl⟩
/-- snap.one. -/
def oneE (e : Ent) : Int := if e.id / 1024 < 1 then 4 else listE e.comps
theorem RE.box {w : World} (e : Ent) (hv : Value) : (w.alloc (.cells #[.int .u32 e.id, hv] 43)).heap[w.heap.size]? = some (.cells #[.int .u32 e.id, hv] 43 (0, 0)) := heap_alloc_new w _
set_option maxHeartbeats 2000000 in
theorem one_any (Z : Nat → Prop) (e : Ent) (hv : Value) (w : World) (hwf : e.wf) (hrc : RC Z w hv e.comps) :
    Calls Try.prog 34 #[.agg #[.int .u32 e.id, hv]] w fun x w' => x = .returned (.int .i64 (oneE e)) ∧ Below w.heap.size w w' := by
  obtain ⟨A, cap, rfl, hc1, hc2⟩ := hrc.form
  have h0 := hwf.id0
  have h1 := hwf.id1
  have HRC := Lib.hid hrc
  clear hrc hwf
  have hg : ¬ 4194303 < e.id / 1024 := by omega
  by_cases hlt : e.id / 1024 < 1
  · have he : oneE e = 4 := if_pos hlt
    have HE := Lib.hid he
    clear he
    go_enter Try.func34, Try.ntmps34
    go_wp2_with (go_at_call 57; refine (gen_any _ _ h0 h1).mono ?_; rintro x w' ⟨rfl, rfl⟩)
    go_ret
    rw [HE.out]
    exact ⟨rfl, (Below.refl _ _).alloc (Nat.le_refl _) _⟩
  · have he : oneE e = listE e.comps := if_neg hlt
    have HE := Lib.hid he
    clear he
    go_enter Try.func34, Try.ntmps34
    go_wp2_with (go_at_call 57; refine (gen_any _ _ h0 h1).mono ?_; rintro x w' ⟨rfl, rfl⟩)
    refine (list_any Z _ e.comps _ (HRC.out.below ((Below.refl _ _).alloc (Nat.le_refl _) _))).mono ?_
    rintro x w1 ⟨rfl, hb⟩
    go_wp2_with fail
    go_ret
    rw [HE.out]
    exact ⟨rfl, ((Below.refl _ _).alloc (Nat.le_refl _) _).trans (hb.mono (by simp))⟩

/-- snap.Form. -/
def secretAny (l : List Comp) : Bool := l.any fun c => !told c.k
def formFrom (last : Int) : List Ent → Int
  | [] => 0
  | e :: r => if e.id ≤ last then 4 else if oneE e ≠ 0 then oneE e else if secretAny e.comps = true then 4 else formFrom e.id r
def formE (l : List Ent) : Int := formFrom 0 l
def lastId (l : List Ent) (i : Nat) : Int := if i = 0 then 0 else ((l[i - 1]?).map Ent.id).getD 0
set_option maxHeartbeats 4000000 in
theorem form_any (Z : Nat → Prop) (v : Value) (l : List Ent) (w : World) (h : RE Z w v l) : Calls Try.prog 21 #[v] w fun x w' => x = .returned (.int .i64 (formE l)) ∧ Below w.heap.size w w' := by
  obtain ⟨A, cap, rfl, hcap1, hcap2⟩ := h.form
  have HH := Lib.hid h
  clear h
  go_enter Try.func21, Try.ntmps21
  go_wp2_with fail
  go_loopg [3, 9] l.length (fun g s3 s9 wx => ∃ i, i + g = l.length ∧ s9 = .int .i64 i ∧ s3 = .int .u32 (lastId l i) ∧ Below w.heap.size w wx ∧ formE l = formFrom (lastId l i) (l.drop i))
  case atStart => exact ⟨0, by omega, rfl, rfl, .refl _ _, rfl⟩
  case round =>
    obtain ⟨i, hi, rfl, rfl, hbw, hinv⟩ := hrel
    have HI := Lib.hid hinv
    have HBW := Lib.hid hbw
    clear hinv
    by_cases hlt : i < l.length
    · obtain ⟨a, hai⟩ : ∃ a, l[i]? = some a := ⟨_, List.getElem?_eq_getElem hlt⟩
      obtain ⟨b, o, hv, rfl, hz, hbl, hwf, hrc, c0, c1⟩ := (HH.out.below hbw).at hai
      obtain ⟨A2, cap2, rfl, hc1, hc2⟩ := hrc.form
      have hdr := drop_at hai
      have HDR := Lib.hid hdr
      have HA := Lib.hid hai
      have HRC := Lib.hid hrc
      have HWF := Lib.hid hwf
      have hL : (i : Int) < (l.length : Int) := by omega
      have h0 := hwf.id0
      obtain ⟨p, hp⟩ : ∃ p, p = lastId l i := ⟨_, rfl⟩
      rw [← hp]
      have HP := Lib.hid hp
      clear hdr hai hrc hwf hbw hz hp
      by_cases hle : a.id ≤ p
      · have hl : formE l = 4 := by rw [HI.out, HDR.out, formFrom, if_pos (by rw [← HP.out]; exact hle)]
        have HL := Lib.hid hl
        clear hl
        go_wp2_with fail
        go_ret
        rw [HL.out]
        exact ⟨rfl, HBW.out.alloc HBW.out.size _⟩
      · have hn1 : formE l = if oneE a ≠ 0 then oneE a else if secretAny a.comps = true then 4 else formFrom a.id (l.drop (i + 1)) := by
          rw [HI.out, HDR.out, formFrom, if_neg (by rw [← HP.out]; exact hle)]
        have HN1 := Lib.hid hn1
        clear hn1
        go_wp2_with fail
        refine (one_any Z a _ _ HWF.out (HRC.out.below ((Below.refl _ _).alloc (Nat.le_refl _) _))).mono ?_
        rintro x w1 ⟨rfl, hb1⟩
        have hx1 : w1.cell? ⟨wr.heap.size, 1, none⟩ = some (.slice A2 a.comps.length cap2) := cell_at ((hb1.block wr.heap.size (by simp)).trans (RE.box a _)) rfl
        have hrc1 := (HRC.out.below ((Below.refl _ _).alloc (Nat.le_refl _) (.cells #[.int .u32 a.id, .slice A2 a.comps.length cap2] 43))).below hb1
        have hB1 : Below w.heap.size w w1 := (HBW.out.alloc HBW.out.size _).trans (hb1.mono (by have := HBW.out.size; simp; omega))
        have HRC1 := Lib.hid hrc1
        have HB1 := Lib.hid hB1
        clear hb1 hrc1 hB1 c0 c1
        by_cases h1 : oneE a = 0
        · have f1 : (oneE a != 0) = false := by simp [h1]
          have hn2 : formE l = if secretAny a.comps = true then 4 else formFrom a.id (l.drop (i + 1)) := by rw [HN1.out, if_neg (by simp [h1])]
          have HN2 := Lib.hid hn2
          clear h1 hn2
          go_wp2_with fail
          refine (containsFunc_any Z _ a.comps 36 #[] (fun c => !told c.k) _ HRC1.out (fun args w => by kernel_rfl) (fun c w2 hc hb2 => by simpa using secret_any c w2 (HRC1.out.wf c hc))).mono ?_
          rintro x w2 ⟨rfl, hb2⟩
          change Below _ _ _ at hb2
          have HB2 := Lib.hid hb2
          clear hb2
          cases hs : secretAny a.comps with
          | true =>
            have hs1 : (a.comps.any fun c => !told c.k) = true := hs
            have hl : formE l = 4 := by rw [HN2.out, if_pos hs]
            have HL := Lib.hid hl
            clear hl hs
            rw [hs1]
            clear hs1
            go_wp2_with fail
            go_ret
            rw [HL.out]
            exact ⟨rfl, HB1.out.trans (HB2.out.mono HB1.out.size)⟩
          | false =>
            have hs1 : (a.comps.any fun c => !told c.k) = false := hs
            have hl : formE l = formFrom a.id (l.drop (i + 1)) := by rw [HN2.out, if_neg (by simp [hs])]
            have HL := Lib.hid hl
            clear hl hs
            rw [hs1]
            clear hs1
            go_wp2_with fail
            go_roundg (gk - 1)
            case measure => omega
            case rel => exact ⟨i + 1, by omega, by simp, by simp [lastId, HA.out], HB1.out.trans (HB2.out.mono HB1.out.size), by rw [HL.out]; simp [lastId, HA.out]⟩
        · have f1 : (oneE a != 0) = true := by simpa using h1
          have hl : formE l = oneE a := by rw [HN1.out, if_pos h1]
          have HL := Lib.hid hl
          clear h1 hl
          go_wp2_with fail
          go_ret
          rw [HL.out]
          exact ⟨rfl, HB1.out⟩
    · have hil : i = l.length := by omega
      have hl : formE l = 0 := by rw [HI.out, hil, List.drop_length]; rfl
      have HL := Lib.hid hl
      have hL : ¬ (i : Int) < (l.length : Int) := by omega
      clear hl hil hi hlt
      go_wp2_with fail
      go_ret
      rw [HL.out]
      exact ⟨rfl, hbw⟩
end Go.Proofs.Ytbklglckmhfmcaa
