/- pinnacelaw20.PacketApart: the walk. -/
import Derived.Test.YtbklglckmhfmcaaLawB
set_option linter.unusedVariables false
set_option linter.unusedSimpArgs false
namespace Go.Proofs.Ytbklglckmhfmcaa
open Go.RowKit
set_option maxRecDepth 100000

def headEq (x y : Head) : Bool := decide (x = y)
@[go_sem high] theorem eql_head (x y : Head) (w : World) :
    (binOp .eql 28 (.agg #[.int .u8 x.kind, .int .u8 x.client, .int .u32 x.epoch, .int .u32 x.tick, .int .u32 x.base]) (.agg #[.int .u8 y.kind, .int .u8 y.client, .int .u32 y.epoch, .int .u32 y.tick, .int .u32 y.base])).run Try.prog w = .ok (.bool (headEq x y)) w := by
  unfold headEq
  have hxy : x = y ↔ x.kind = y.kind ∧ x.client = y.client ∧ x.epoch = y.epoch ∧ x.tick = y.tick ∧ x.base = y.base := by cases x; cases y; simp
  have hd : decide (x = y) = (x.kind == y.kind && (x.client == y.client && (x.epoch == y.epoch && (x.tick == y.tick && x.base == y.base)))) := by
    by_cases h : x = y
    · subst h; simp
    · rw [decide_eq_false h]
      have h2 := fun a => h (hxy.2 a)
      cases h0 : (x.kind == y.kind) <;> cases h1 : (x.client == y.client) <;> cases h3 : (x.epoch == y.epoch) <;> cases h4 : (x.tick == y.tick) <;> cases h5 : (x.base == y.base) <;> simp_all
  rw [hd]
  clear hd hxy
  go_simp
  by_cases h0 : x.kind = y.kind <;> by_cases h1 : x.client = y.client <;> by_cases h2 : x.epoch = y.epoch <;> by_cases h3 : x.tick = y.tick <;> by_cases h4 : x.base = y.base <;> simp [h0, h1, h2, h3, h4]

/-- A head in a block. -/
def BoxH (w : World) (X : Nat) (h : Head) : Prop := w.heap[X]? = some (.cells #[.int .u8 h.kind, .int .u8 h.client, .int .u32 h.epoch, .int .u32 h.tick, .int .u32 h.base] 28 (0, 0))
def HeadAt (w : World) (X : Nat) (h : Head) : Prop := w.cell? ⟨X, 0, none⟩ = some (.int .u8 h.kind) ∧ w.cell? ⟨X, 1, none⟩ = some (.int .u8 h.client) ∧ w.cell? ⟨X, 2, none⟩ = some (.int .u32 h.epoch) ∧ w.cell? ⟨X, 3, none⟩ = some (.int .u32 h.tick) ∧ w.cell? ⟨X, 4, none⟩ = some (.int .u32 h.base)
theorem BoxH.at {w : World} {X : Nat} {h : Head} (hb : BoxH w X h) : HeadAt w X h :=
  ⟨cell_at (o := 0) hb rfl, cell_at (o := 1) hb rfl, cell_at (o := 2) hb rfl, cell_at (o := 3) hb rfl, cell_at (o := 4) hb rfl⟩
theorem BoxH.below {w w' : World} {X : Nat} {h : Head} (hb : BoxH w X h) (hs : Below w.heap.size w w') : BoxH w' X h := (hs.block X (heap_lt hb)).trans hb



set_option maxHeartbeats 16000000 in
theorem lapart_any (Z1 Z2 Z3 : Nat → Prop) (a b : Head) (v1 v2 v3 : Value) (was x y : List Ent) (w : World) (wa : a.wf) (wb : b.wf) (h1 : RE Z1 w v1 was) (h2 : RE Z2 w v2 x) (h3 : RE Z3 w v3 y)
    (hs1 : fewN was ≤ 1000000000000) (hs2 : fewN x ≤ 1000000000000) (hs3 : fewN y ≤ 1000000000000) :
    Calls Try.prog 4 #[a.v, b.v, v1, v2, v3] w fun e w' => e = .returned (.bool true) ∧ Below w.heap.size w w' := by
  obtain ⟨A1, cap1, rfl, hca1, hca1'⟩ := h1.form
  obtain ⟨A2, cap2, rfl, hca2, hca2'⟩ := h2.form
  obtain ⟨A3, cap3, rfl, hca3, hca3'⟩ := h3.form
  have HS1 := Lib.hid hs1
  have HS2 := Lib.hid hs2
  have HS3 := Lib.hid hs3
  have hbX : Below w.heap.size w ((w.alloc (.cells #[.int .u8 a.kind, .int .u8 a.client, .int .u32 a.epoch, .int .u32 a.tick, .int .u32 a.base] 28)).alloc (.cells #[.int .u8 b.kind, .int .u8 b.client, .int .u32 b.epoch, .int .u32 b.tick, .int .u32 b.base] 28)) :=
    ((Below.refl _ _).alloc (Nat.le_refl _) _).alloc (by simp) _
  have hXa : BoxH ((w.alloc (.cells #[.int .u8 a.kind, .int .u8 a.client, .int .u32 a.epoch, .int .u32 a.tick, .int .u32 a.base] 28)).alloc (.cells #[.int .u8 b.kind, .int .u8 b.client, .int .u32 b.epoch, .int .u32 b.tick, .int .u32 b.base] 28)) w.heap.size a :=
    (Below.heap_alloc _ _ _ (by simp)).trans (heap_alloc_new w _)
  have hXb : BoxH ((w.alloc (.cells #[.int .u8 a.kind, .int .u8 a.client, .int .u32 a.epoch, .int .u32 a.tick, .int .u32 a.base] 28)).alloc (.cells #[.int .u8 b.kind, .int .u8 b.client, .int .u32 b.epoch, .int .u32 b.tick, .int .u32 b.base] 28)) (w.heap.size + 1) b := by
    have := heap_alloc_new (w.alloc (.cells #[.int .u8 a.kind, .int .u8 a.client, .int .u32 a.epoch, .int .u32 a.tick, .int .u32 a.base] 28)) (.cells #[.int .u8 b.kind, .int .u8 b.client, .int .u32 b.epoch, .int .u32 b.tick, .int .u32 b.base] 28)
    rw [show (w.alloc (.cells #[.int .u8 a.kind, .int .u8 a.client, .int .u32 a.epoch, .int .u32 a.tick, .int .u32 a.base] 28)).heap.size = w.heap.size + 1 by simp] at this
    exact this
  have hr1 := h1.below hbX
  have hr2 := h2.below hbX
  have hr3 := h3.below hbX
  have HBX := Lib.hid hbX
  have HXA := Lib.hid hXa
  have HXB := Lib.hid hXb
  have HR1 := Lib.hid hr1
  have HR2 := Lib.hid hr2
  have HR3 := Lib.hid hr3
  have HWA := Lib.hid wa
  have HWB := Lib.hid wb
  clear h1 h2 h3 hs1 hs2 hs3 hbX hXa hXb hr1 hr2 hr3 wa wb
  unfold Head.v
  go_enter Try.func4, Try.ntmps4
  go_wp2_with fail
  obtain ⟨XA, hXA⟩ : ∃ XA, XA = w.heap.size := ⟨_, rfl⟩
  rw [← hXA] at HXA HXB
  simp only [← hXA]
  generalize ((w.alloc (.cells #[.int .u8 a.kind, .int .u8 a.client, .int .u32 a.epoch, .int .u32 a.tick, .int .u32 a.base] 28)).alloc (.cells #[.int .u8 b.kind, .int .u8 b.client, .int .u32 b.epoch, .int .u32 b.tick, .int .u32 b.base] 28)) = W0 at *
  clear hXA
  refine (awake_any _).mono ?_
  rintro e w1 ⟨rfl, hb1⟩
  have HB1 := Lib.hid hb1
  clear hb1
  go_wp2_with fail
  refine (lfew_any _ _ _ _ x y _ (HR2.out.below HB1.out) (HR3.out.below HB1.out) HS2.out HS3.out).mono ?_
  rintro e w2 ⟨rfl, hb2⟩
  have HB2 := Lib.hid (HB1.out.trans (hb2.mono HB1.out.size))
  clear hb2
  by_cases hf : fewN x ≤ 400 ∧ fewN y ≤ 400
  · rw [decide_eq_true hf.1, decide_eq_true hf.2]
    have HF := Lib.hid hf
    clear hf
    go_wp2_with fail
    refine (rfew_any _ _ was _ (HR1.out.below HB2.out) HS1.out).mono ?_
    rintro e w3 ⟨rfl, hb3⟩
    have HB3 := Lib.hid (HB2.out.trans (hb3.mono HB2.out.size))
    clear hb3
    by_cases hfw : fewN was ≤ 400
    · rw [decide_eq_true hfw]
      have HFW := Lib.hid hfw
      clear hfw
      go_wp2_with fail
      have hX3 := HXA.out.below HB3.out
      have hY3 := HXB.out.below HB3.out
      have HXA3 := Lib.hid hX3
      have HXB3 := Lib.hid hY3
      have H1 := Lib.hid (HR1.out.below HB3.out)
      have H2 := Lib.hid (HR2.out.below HB3.out)
      have H3 := Lib.hid (HR3.out.below HB3.out)
      obtain ⟨hw1, hw2⟩ := few_len HFW.out
      obtain ⟨hx1, hx2⟩ := few_len HF.out.1
      obtain ⟨hy1, hy2⟩ := few_len HF.out.2
      have hlw : was.length ≤ 1000000 := by omega
      have hlx : x.length ≤ 1000000 := by omega
      have hly : y.length ≤ 1000000 := by omega
      have HCW : Hid (∀ e ∈ was, e.comps.length ≤ 8796093022000) := Lib.hid fun e he => by have := hw2 e he; omega
      have HCx : Hid (∀ e ∈ x, e.comps.length ≤ 8796093022000) := Lib.hid fun e he => by have := hx2 e he; omega
      have HCy : Hid (∀ e ∈ y, e.comps.length ≤ 8796093022000) := Lib.hid fun e he => by have := hy2 e he; omega
      obtain ⟨E1, hE1⟩ : ∃ E1, E1 = packErr a was x := ⟨_, rfl⟩
      obtain ⟨E2, hE2⟩ : ∃ E2, E2 = packErr b was y := ⟨_, rfl⟩
      have HE1 := Lib.hid hE1
      have HE2 := Lib.hid hE2
      have K : Hid (∀ w2, Below w3.heap.size w3 w2 → w2.cell? ⟨XA, 0, none⟩ = some (.int .u8 a.kind) ∧ w2.cell? ⟨XA, 1, none⟩ = some (.int .u8 a.client) ∧ w2.cell? ⟨XA, 2, none⟩ = some (.int .u32 a.epoch) ∧ w2.cell? ⟨XA, 3, none⟩ = some (.int .u32 a.tick) ∧ w2.cell? ⟨XA, 4, none⟩ = some (.int .u32 a.base)) :=
        Lib.hid fun w2 hb => (HXA3.out.below hb).at
      clear hX3 hY3 hw2 hx2 hy2 hE1 hE2
      go_region_held3 (fun w2 => w2.cell? ⟨XA, 0, none⟩ = some (.int .u8 a.kind) ∧ w2.cell? ⟨XA, 1, none⟩ = some (.int .u8 a.client) ∧ w2.cell? ⟨XA, 2, none⟩ = some (.int .u32 a.epoch) ∧ w2.cell? ⟨XA, 3, none⟩ = some (.int .u32 a.tick) ∧ w2.cell? ⟨XA, 4, none⟩ = some (.int .u32 a.base))
          (first | exact K.out _ (Below.refl _ _) | exact K.out _ (Below.refl _ _).drew | exact K.out _ hB3 | exact K.out _ hB2 | exact K.out _ hB1)
          (first
            | (go_at_call_of 9 (Value.slice A1 was.length cap1); refine (rtwins_any _ _ was _ (H1.out.below (Below.refl _ _).drew) hlw HCW.out).mono ?_; rintro e wa ⟨va, rfl, hra, hba⟩; obtain ⟨Aa, ca, rfl, hca1, hca2⟩ := hra.form; have hB1 : Below w3.heap.size w3 wa := (Below.refl _ _).drew.trans hba)
            | (go_at_call_of 9 (Value.slice A2 x.length cap2); refine (rtwins_any _ _ x _ (H2.out.below hB1) hlx HCx.out).mono ?_; rintro e wb ⟨vb, rfl, hrb, hbb⟩; obtain ⟨Ab, cb, rfl, hcb1, hcb2⟩ := hrb.form; have hB2 : Below w3.heap.size w3 wb := hB1.trans (hbb.mono hB1.size))
            | (go_at_call 8; refine (seal_any _ _ a _ _ was x _ HWA.out (hra.below hbb) hrb hlw hlx HCx.out).mono ?_; rintro e wc ⟨vc, rfl, hrc, hbc⟩; rw [← HE1.out]; obtain ⟨Ac, cc, rfl, hcc1, hcc2⟩ := hrc.form; have hB3 : Below w3.heap.size w3 wc := hB2.trans (hbc.mono hB2.size)))
      all_goals
        have HB4 := Lib.hid (HB3.out.trans (hB3.mono HB3.out.size))
        have HRP := Lib.hid hrc
        have HXA4 := Lib.hid (HXA3.out.below hB3)
        have HXB4 := Lib.hid (HXB3.out.below hB3)
        have G1 := Lib.hid (H1.out.below hB3)
        have G2 := Lib.hid (H2.out.below hB3)
        have G3 := Lib.hid (H3.out.below hB3)
        have K2 : Hid (∀ w2, Below wc.heap.size wc w2 → w2.cell? ⟨XA + 1, 0, none⟩ = some (.int .u8 b.kind) ∧ w2.cell? ⟨XA + 1, 1, none⟩ = some (.int .u8 b.client) ∧ w2.cell? ⟨XA + 1, 2, none⟩ = some (.int .u32 b.epoch) ∧ w2.cell? ⟨XA + 1, 3, none⟩ = some (.int .u32 b.tick) ∧ w2.cell? ⟨XA + 1, 4, none⟩ = some (.int .u32 b.base)) :=
          Lib.hid fun w2 hb => (HXB4.out.below hb).at
        clear hB1 hB2 hB3 hra hrb hrc hba hbb hbc
        go_wp2_with fail
        go_region_held3 (fun w2 => w2.cell? ⟨XA + 1, 0, none⟩ = some (.int .u8 b.kind) ∧ w2.cell? ⟨XA + 1, 1, none⟩ = some (.int .u8 b.client) ∧ w2.cell? ⟨XA + 1, 2, none⟩ = some (.int .u32 b.epoch) ∧ w2.cell? ⟨XA + 1, 3, none⟩ = some (.int .u32 b.tick) ∧ w2.cell? ⟨XA + 1, 4, none⟩ = some (.int .u32 b.base))
          (first | exact K2.out _ (Below.refl _ _) | exact K2.out _ (Below.refl _ _).drew | exact K2.out _ hB3 | exact K2.out _ hB2 | exact K2.out _ hB1)
          (first
            | (go_at_call_of 9 (Value.slice A1 was.length cap1); refine (rtwins_any _ _ was _ (G1.out.below (Below.refl _ _).drew) hlw HCW.out).mono ?_; rintro e wd ⟨vd, rfl, hra, hba⟩; obtain ⟨Ad, cd, rfl, hcd1, hcd2⟩ := hra.form; have hB1 : Below wc.heap.size wc wd := (Below.refl _ _).drew.trans hba)
            | (go_at_call_of 9 (Value.slice A3 y.length cap3); refine (rtwins_any _ _ y _ (G3.out.below hB1) hly HCy.out).mono ?_; rintro e we ⟨ve, rfl, hrb, hbb⟩; obtain ⟨Ae, ce, rfl, hce1, hce2⟩ := hrb.form; have hB2 : Below wc.heap.size wc we := hB1.trans (hbb.mono hB1.size))
            | (go_at_call 8; refine (seal_any _ _ b _ _ was y _ HWB.out (hra.below hbb) hrb hlw hly HCy.out).mono ?_; rintro e wf ⟨vf, rfl, hrc, hbc⟩; rw [← HE2.out]; obtain ⟨Af, cf, rfl, hcf1, hcf2⟩ := hrc.form; have hB3 : Below wc.heap.size wc wf := hB2.trans (hbc.mono hB2.size)))
        all_goals
          have HB5 := Lib.hid (HB4.out.trans (hB3.mono HB4.out.size))
          have HRQ := Lib.hid hrc
          have HRP2 := Lib.hid (HRP.out.below hB3)
          have HXA5 := Lib.hid (HXA4.out.below hB3)
          have HXB5 := Lib.hid (HXB4.out.below hB3)
          have J2 := Lib.hid (G2.out.below hB3)
          have J3 := Lib.hid (G3.out.below hB3)
          clear hB1 hB2 hB3 hra hrb hrc hba hbb hbc
          by_cases e1 : E1 = 0
          · have e1' : (E1 != 0) = false := by simp [e1]
            by_cases e2 : E2 = 0
            · have e2' : (E2 != 0) = false := by simp [e2]
              have hwf := H1.out.wf
              have hwx := H2.out.wf
              have hwy := H3.out.wf
              have z1 : packErr a was x = 0 := by rw [← HE1.out]; exact e1
              have z2 : packErr b was y = 0 := by rw [← HE2.out]; exact e2
              have K3 : Hid (∀ w2, Below wf.heap.size wf w2 → w2.cell? ⟨XA, 0, none⟩ = some (.int .u8 a.kind) ∧ w2.cell? ⟨XA, 1, none⟩ = some (.int .u8 a.client) ∧ w2.cell? ⟨XA, 2, none⟩ = some (.int .u32 a.epoch) ∧ w2.cell? ⟨XA, 3, none⟩ = some (.int .u32 a.tick) ∧ w2.cell? ⟨XA, 4, none⟩ = some (.int .u32 a.base) ∧ w2.cell? ⟨XA + 1, 0, none⟩ = some (.int .u8 b.kind) ∧ w2.cell? ⟨XA + 1, 1, none⟩ = some (.int .u8 b.client) ∧ w2.cell? ⟨XA + 1, 2, none⟩ = some (.int .u32 b.epoch) ∧ w2.cell? ⟨XA + 1, 3, none⟩ = some (.int .u32 b.tick) ∧ w2.cell? ⟨XA + 1, 4, none⟩ = some (.int .u32 b.base)) :=
                Lib.hid fun w2 hb => by
                  obtain ⟨p0, p1, p2, p3, p4⟩ := (HXA5.out.below hb).at
                  obtain ⟨q0, q1, q2, q3, q4⟩ := (HXB5.out.below hb).at
                  exact ⟨p0, p1, p2, p3, p4, q0, q1, q2, q3, q4⟩
              have hap := apart HWA.out HWB.out hwf hwx hwy z1 z2
              obtain ⟨P, hPe⟩ : ∃ P, P = packBytes a was x := ⟨_, rfl⟩
              obtain ⟨Q, hQe⟩ : ∃ Q, Q = packBytes b was y := ⟨_, rfl⟩
              rw [← hPe, ← hQe] at hap
              rw [← hPe] at HRP2
              rw [← hQe] at HRQ
              simp only [← hPe, ← hQe]
              by_cases hab : a = b
              · have hP : decide (P = Q) = decide (x = y) := by
                  by_cases hxy : x = y
                  · rw [decide_eq_true hxy, decide_eq_true]
                    rw [hPe, hQe, hab, hxy]
                  · rw [decide_eq_false hxy, decide_eq_false]
                    exact fun h => hxy (hap h).2
                have HPP := Lib.hid hP
                have hda : headEq a b = true := by simp [headEq, hab]
                clear hP hap hab hPe hQe z1 z2 e1 e2 hwf hwx hwy
                go_wp2_with fail
                go_region_held3 (fun w2 => w2.cell? ⟨XA, 0, none⟩ = some (.int .u8 a.kind) ∧ w2.cell? ⟨XA, 1, none⟩ = some (.int .u8 a.client) ∧ w2.cell? ⟨XA, 2, none⟩ = some (.int .u32 a.epoch) ∧ w2.cell? ⟨XA, 3, none⟩ = some (.int .u32 a.tick) ∧ w2.cell? ⟨XA, 4, none⟩ = some (.int .u32 a.base) ∧ w2.cell? ⟨XA + 1, 0, none⟩ = some (.int .u8 b.kind) ∧ w2.cell? ⟨XA + 1, 1, none⟩ = some (.int .u8 b.client) ∧ w2.cell? ⟨XA + 1, 2, none⟩ = some (.int .u32 b.epoch) ∧ w2.cell? ⟨XA + 1, 3, none⟩ = some (.int .u32 b.tick) ∧ w2.cell? ⟨XA + 1, 4, none⟩ = some (.int .u32 b.base))
                  (first | exact K3.out _ (Below.refl _ _) | exact K3.out _ (Below.refl _ _).drew | exact K3.out _ hB9)
                  (first
                    | (go_at_call 10; refine (rsameB_any _ _ _ _ P Q _ (HRP2.out.below (Below.refl _ _).drew) (HRQ.out.below (Below.refl _ _).drew)).mono ?_; rintro e wg ⟨rfl, rfl⟩; rw [HPP.out])
                    | (go_at_call 12; refine (rsameEnts_any _ _ _ _ x y _ (J2.out.below (Below.refl _ _).drew) (J3.out.below (Below.refl _ _).drew)).mono ?_; rintro e wh ⟨rfl, hbh⟩; have hB9 : Below wf.heap.size wf wh := (Below.refl _ _).drew.trans hbh))
                all_goals
                  go_wp2_with fail
                  go_ret
                  exact ⟨by simp, HBX.out.trans ((HB5.out.trans (hB9.mono HB5.out.size)).mono HBX.out.size)⟩
              · have hP : decide (P = Q) = false := decide_eq_false fun h => hab (hap h).1
                have HPP := Lib.hid hP
                have hda : headEq a b = false := by simp [headEq, hab]
                clear hP hap hab hPe hQe z1 z2 e1 e2 hwf hwx hwy
                obtain ⟨p0, p1, p2, p3, p4, q0, q1, q2, q3, q4⟩ := K3.out _ (Below.refl _ _)
                go_wp2_with fail
                go_quiet ((refine Calls.quiet_of_same (v := .bool false) ?_; refine (rsameB_any _ _ _ _ P Q _ (HRP2.out.below (below_drewN (Below.refl _ _) _)) (HRQ.out.below (below_drewN (Below.refl _ _) _))).mono ?_; rintro e wg ⟨rfl, rfl⟩; exact ⟨by rw [HPP.out], rfl⟩))
                go_wp2_with fail
                go_ret
                exact ⟨by simp, HBX.out.trans ((HB5.out.trans ((below_drewN (Below.refl _ _) _).mono HB5.out.size)).mono HBX.out.size)⟩
            · have e2' : (E2 != 0) = true := by simpa using e2
              clear e1 e2
              go_wp2_with fail
              go_ret
              exact ⟨rfl, HBX.out.trans (HB5.out.mono HBX.out.size)⟩
          · have e1' : (E1 != 0) = true := by simpa using e1
            clear e1
            go_wp2_with fail
            go_ret
            exact ⟨rfl, HBX.out.trans (HB5.out.mono HBX.out.size)⟩
    · rw [decide_eq_false hfw]
      clear hfw
      go_wp2_with fail
      go_ret
      exact ⟨rfl, HBX.out.trans (HB3.out.mono HBX.out.size)⟩
  · have hfb : (decide (fewN x ≤ 400) && decide (fewN y ≤ 400)) = false := by
      by_cases h : fewN x ≤ 400
      · rw [decide_eq_true h, decide_eq_false (fun h2 => hf ⟨h, h2⟩)]; rfl
      · rw [decide_eq_false h]; rfl
    rw [hfb]
    clear hf hfb
    go_wp2_with fail
    go_ret
    exact ⟨rfl, HBX.out.trans (HB2.out.mono HBX.out.size)⟩
end Go.Proofs.Ytbklglckmhfmcaa
