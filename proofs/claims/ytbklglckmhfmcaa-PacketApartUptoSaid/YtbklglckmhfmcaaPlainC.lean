/- Two packets with one frame are one packet; what hasn't changed takes next to nothing. Plain: no program in sight. -/
import Derived.Test.YtbklglckmhfmcaaPlainB
set_option linter.unusedVariables false
set_option linter.unusedSimpArgs false
namespace Go.Proofs.Ytbklglckmhfmcaa
open Go.RowKit

/-! ### Bits out of bytes -/
theorem bitsOf_zero (k : Nat) : bitsOf 0 k = List.replicate k false := by
  induction k with
  | zero => rfl
  | succ k ih => rw [bitsOf, List.replicate_succ]; simp [ih]
theorem bitsOf_pad (c : List Bool) (k : Nat) : bitsOf (num c) (c.length + k) = c ++ List.replicate k false := by
  induction c with
  | nil => simp [num, bitsOf_zero]
  | cons b r ih =>
    rw [List.length_cons, show r.length + 1 + k = (r.length + k) + 1 by omega, bitsOf, num]
    have h1 : ((if b = true then 1 else 0) + 2 * num r) / 2 = num r := by cases b <;> simp <;> omega
    have h2 : (((if b = true then 1 else 0) + 2 * num r) % 2 == 1) = b := by cases b <;> simp <;> omega
    rw [h1, h2, ih]; rfl
theorem pack_cons (l : List Bool) (h : l ≠ []) : pack l = (num (l.take 8) : Int) :: pack (l.drop 8) := by
  have hl : 0 < l.length := List.length_pos_iff.2 h
  unfold pack
  rw [List.length_drop, show (l.length + 7) / 8 = (l.length - 8 + 7) / 8 + 1 by omega, List.range_succ_eq_map, List.map_cons, List.map_map]
  congr 1
  apply List.map_congr_left
  intro i _
  simp only [Function.comp, List.drop_drop]
  rw [show 8 * (i + 1) = 8 + 8 * i by omega]
theorem bits_pack : ∀ (n : Nat) (l : List Bool), l.length ≤ n → ∃ k, bitsL (pack l) = l ++ List.replicate k false
  | 0, l, h => by
    have : l = [] := List.eq_nil_of_length_eq_zero (by omega)
    subst this; exact ⟨0, rfl⟩
  | n + 1, l, h => by
    by_cases h0 : l = []
    · subst h0; exact ⟨0, rfl⟩
    · rw [pack_cons l h0]
      have hb : bitsL ((num (l.take 8) : Int) :: pack (l.drop 8)) = bitsOf (num (l.take 8)) 8 ++ bitsL (pack (l.drop 8)) := by simp [bitsL]
      rw [hb]
      have hl : 0 < l.length := List.length_pos_iff.2 h0
      by_cases h8 : 8 ≤ l.length
      · obtain ⟨k, hk⟩ := bits_pack n (l.drop 8) (by rw [List.length_drop]; omega)
        refine ⟨k, ?_⟩
        have := bitsOf_pad (l.take 8) 0
        rw [List.length_take, Nat.min_eq_left h8] at this
        rw [hk, this, ← List.append_assoc]
        simp
      · refine ⟨8 - l.length, ?_⟩
        rw [List.drop_eq_nil_of_le (by omega), List.take_of_length_le (by omega)]
        have := bitsOf_pad l (8 - l.length)
        rw [show l.length + (8 - l.length) = 8 by omega] at this
        rw [this]; simp [pack, bitsL]
theorem sealB_inj {a b : List Int} (h : sealB a = sealB b) : a = b := by
  have hl := congrArg List.length h
  simp only [sealB, List.length_append, tailL, List.length_cons, List.length_nil] at hl
  exact (List.append_inj h (by omega)).1

/-! ### What a packet's bits are -/
def encBody (h : Head) (was now : List Ent) : List Bool := if h.kind = 1 then encAll now else if h.kind = 2 then encDelta was (diffL was now) else []
structure Sealed (h : Head) (was now : List Ent) : Prop where
  bits : (sealWS h was now).l = encHead h ++ encBody h was now
  full : h.kind = 1 → formE now = 0 ∧ ∀ e ∈ now, maskN e.comps < 32
  step : h.kind = 2 → formE was = 0 ∧ formE now = 0 ∧ (∀ e ∈ (diffL was now).come, maskN e.comps < 32) ∧ ∀ c ∈ (diffL was now).chg, FitC was c
  other : h.kind ≠ 1 → h.kind ≠ 2 → now = []
theorem seal_goes {h : Head} {was now : List Ent} (he : (sealWS h was now).e = 0) : Sealed h was now := by
  unfold sealWS at he
  by_cases k1 : h.kind = 1
  · rw [if_pos k1] at he
    by_cases hf : ((WS.head ⟨0, []⟩ h).keep (formE now)).e = 0
    · rw [if_pos hf] at he
      obtain ⟨g1, g2⟩ := ents_goes he
      obtain ⟨g3, g4⟩ := keep_goes g1.e
      obtain ⟨g5, _⟩ := head_goes g3.e
      refine ⟨?_, fun _ => ⟨g4, g2⟩, fun k2 => by omega, fun n1 _ => absurd k1 n1⟩
      rw [sealWS, if_pos k1, if_pos hf, encBody, if_pos k1]
      have := ((g5.trans g3).trans g1).l
      simpa using this
    · rw [if_neg hf] at he; exact absurd he hf
  · rw [if_neg k1] at he
    by_cases k2 : h.kind = 2
    · rw [if_pos k2] at he
      by_cases hf : diffE was now = 0
      · rw [if_pos hf] at he
        obtain ⟨g1, g2, g2'⟩ := delta_goes he
        obtain ⟨g3, g4⟩ := keep_goes g1.e
        obtain ⟨g5, _⟩ := head_goes g3.e
        have hfe : formE was = 0 ∧ formE now = 0 := by
          unfold diffE at hf
          by_cases h1 : formE was = 0
          · rw [if_neg (by simp [h1])] at hf; exact ⟨h1, hf⟩
          · rw [if_pos h1] at hf; exact absurd hf h1
        refine ⟨?_, fun h1 => absurd h1 k1, fun _ => ⟨hfe.1, hfe.2, g2, g2'⟩, fun _ n2 => absurd k2 n2⟩
        rw [sealWS, if_neg k1, if_pos k2, if_pos hf, encBody, if_neg k1, if_pos k2]
        have := ((g5.trans g3).trans g1).l
        simpa using this
      · rw [if_neg hf] at he
        exact absurd (keep_goes he).2 hf
    · rw [if_neg k2] at he
      by_cases hn : 0 < now.length
      · rw [if_pos hn] at he
        exact absurd (keep_goes he).2 (by decide)
      · rw [if_neg hn] at he
        obtain ⟨g5, _⟩ := head_goes he
        refine ⟨?_, fun h1 => absurd h1 k1, fun h2 => absurd h2 k2, fun _ _ => List.eq_nil_of_length_eq_zero (by omega)⟩
        rw [sealWS, if_neg k1, if_neg k2, if_neg hn, encBody, if_neg k1, if_neg k2]
        have := g5.l
        simpa using this
theorem right_delta {was now : List Ent} (hw : ∀ e ∈ was, e.wf) (hn : ∀ e ∈ now, e.wf) (gw : GoodE was) (gn : GoodE now) (hm : ∀ e ∈ (diffL was now).come, maskN e.comps < 32) (hf : ∀ c ∈ (diffL was now).chg, FitC was c) : RightD was (diffL was now) := by
  have sx := diff_says was now gw.rise gn.rise
  refine ⟨fun i hi => ?_, fun e he => ?_, fun c hc => ?_⟩
  · obtain ⟨a, ha, rfl, _⟩ := (sx.gone i).1 hi
    exact ⟨(hw a ha).id0, (hw a ha).id1⟩
  · have h1 := ((sx.come e).1 he).1
    exact ⟨hn e h1, gn.comps e h1, hm e he⟩
  · obtain ⟨a, ha, b, hb, h1, h2, h3⟩ := (sx.chg c).1 hc
    have hwb := hn b hb
    have hgb := gn.comps b hb
    refine ⟨hf c hc, ?_, ?_, ?_⟩
    · rw [h2]; exact ⟨hwb.id0, hwb.id1, lostOf_lo _ _, lostOf_hi _ _⟩
    · rw [h2]; exact hgb.filter _
    · rw [h2]; exact hgb.filter _
theorem err_parts {h : Head} {was now : List Ent} (he : packErr h was now = 0) : checkH h = 0 ∧ (sealWS h was now).e = 0 ∧ sealE (pack (sealWS h was now).l) = 0 := by
  unfold packErr at he
  by_cases h1 : checkH h = 0
  · rw [if_neg (by simp [h1])] at he
    by_cases h2 : (sealWS h was now).e = 0
    · rw [if_neg (by simp [h2])] at he; exact ⟨h1, h2, he⟩
    · rw [if_pos h2] at he; exact absurd he h2
  · rw [if_pos h1] at he; exact absurd he h1
theorem apart {a b : Head} {was x y : List Ent} (wa : a.wf) (wb : b.wf) (hw : ∀ e ∈ was, e.wf) (hx : ∀ e ∈ x, e.wf) (hy : ∀ e ∈ y, e.wf) (ha : packErr a was x = 0) (hb : packErr b was y = 0)
    (h : packBytes a was x = packBytes b was y) : a = b ∧ x = y := by
  rw [packBytes, if_pos ha, packBytes, if_pos hb] at h
  have hp := sealB_inj h
  obtain ⟨a1, a2, a3⟩ := err_parts ha
  obtain ⟨b1, b2, b3⟩ := err_parts hb
  have sa := seal_goes a2
  have sb := seal_goes b2
  obtain ⟨ka, hka⟩ := bits_pack _ (sealWS a was x).l (Nat.le_refl _)
  obtain ⟨kb, hkb⟩ := bits_pack _ (sealWS b was y).l (Nat.le_refl _)
  rw [hp, hkb, sa.bits, sb.bits, List.append_assoc, List.append_assoc] at hka
  obtain ⟨hab, hbody⟩ := head_pf wb wa b1 a1 hka
  subst hab
  refine ⟨rfl, ?_⟩
  unfold encBody at hbody
  by_cases k1 : b.kind = 1
  · rw [if_pos k1, if_pos k1] at hbody
    obtain ⟨f1, m1⟩ := sa.full k1
    obtain ⟨f2, m2⟩ := sb.full k1
    have g1 := goodE_of f1
    have g2 := goodE_of f2
    exact (all_pf (fun e he => ⟨hy e he, g2.comps e he, m2 e he⟩) (fun e he => ⟨hx e he, g1.comps e he, m1 e he⟩) hbody).1.symm
  · rw [if_neg k1, if_neg k1] at hbody
    by_cases k2 : b.kind = 2
    · rw [if_pos k2, if_pos k2] at hbody
      obtain ⟨fw, f1, m1, c1⟩ := sa.step k2
      obtain ⟨_, f2, m2, c2⟩ := sb.step k2
      have gw := goodE_of fw
      have g1 := goodE_of f1
      have g2 := goodE_of f2
      have := (delta_pf (right_delta hw hy gw g2 m2 c2) (right_delta hw hx gw g1 m1 c1) hbody).1
      exact diff_inj gw g1 g2 this.symm
    · rw [sa.other k1 k2, sb.other k1 k2]
theorem var0_ok (s : WS) (h : s.e = 0) (hl : s.l.length ≤ 1000) : (s.var 0).e = 0 ∧ (s.var 0).l.length = s.l.length + 5 := by
  have hg : grp 0 = 1 := by decide
  have h0 : putVarE s.l 0 = 0 := by unfold putVarE; rw [if_neg (by rw [hg]; omega)]
  refine ⟨by show keepE s.e (putVarE s.l 0) = 0; rw [h0, h]; rfl, ?_⟩
  show (putVarL s.l 0).length = _
  rw [putVarL, if_pos h0, List.length_append, varL_length, hg]; rfl
theorem short {was : List Ent} {t : Int} (h0 : 0 < t) (h1 : t ≤ 4294967295) (hf : formE was = 0) :
    packErr ⟨2, 0, 1, t, t - 1⟩ was was = 0 ∧ packErr ⟨2, 0, 1, t, t - 1⟩ [] [] = 0 ∧ packBytes ⟨2, 0, 1, t, t - 1⟩ was was = packBytes ⟨2, 0, 1, t, t - 1⟩ [] [] ∧ (packBytes ⟨2, 0, 1, t, t - 1⟩ was was).length ≤ 16 := by
  obtain ⟨h, hh⟩ : ∃ h : Head, h = ⟨2, 0, 1, t, t - 1⟩ := ⟨_, rfl⟩
  rw [← hh]
  have k2 : h.kind = 2 := by rw [hh]
  have hck : checkH h = 0 := by
    rw [hh]; unfold checkH
    rw [if_neg (by simp), if_neg]
    rintro (h | ⟨h, _⟩ | ⟨h, _⟩ | ⟨_, h⟩) <;> simp at h <;> omega
  have d1 : diffE was was = 0 := by unfold diffE; rw [if_neg (by simp [hf])]; exact hf
  have d2 : diffE [] [] = 0 := rfl
  have gw := goodE_of hf
  have e1 : diffL was was = Delta.nil := diff_self gw.comps
  have e2 : diffL [] [] = Delta.nil := diff_self (by simp)
  have hs1 : sealWS h was was = ((WS.head ⟨0, []⟩ h).keep 0).delta [] Delta.nil := by
    unfold sealWS; rw [if_neg (by omega), if_pos k2, if_pos d1, d1, e1]; rfl
  have hs2 : sealWS h [] [] = ((WS.head ⟨0, []⟩ h).keep 0).delta [] Delta.nil := by
    unfold sealWS; rw [if_neg (by omega), if_pos k2, if_pos d2, d2, e2]
  -- the head's bits
  have f0 : ((((WS.mk 0 []).inn 2 1 5).inn 0 0 15).var 1).e = 0 ∧ ((((WS.mk 0 []).inn 2 1 5).inn 0 0 15).var 1).l.length = 12 := by decide +kernel
  have fx : ∀ X : WS, X.e = 0 → X = ⟨0, X.l⟩ := fun X hX => by cases X; simp at hX; rw [hX]
  have f3 : (((WS.mk 0 []).inn 2 1 5).inn 0 0 15).var 1 = ⟨0, ((((WS.mk 0 []).inn 2 1 5).inn 0 0 15).var 1).l⟩ ∧ ((((WS.mk 0 []).inn 2 1 5).inn 0 0 15).var 1).l.length = 12 := ⟨fx _ f0.1, f0.2⟩
  obtain ⟨l3, hl3⟩ : ∃ l3, l3 = ((((WS.mk 0 []).inn 2 1 5).inn 0 0 15).var 1).l := ⟨_, rfl⟩
  rw [← hl3] at f3
  have hput : (WS.mk 0 l3).put t 32 = ⟨0, l3 ++ bitsOf t.toNat 32⟩ := by
    have hp : putE l3 t 32 = 0 := by
      unfold putE
      have : (2 : Int) ^ (32 : Int).toNat = 4294967296 := by decide
      rw [this, if_neg (by omega), if_neg (by rw [f3.2]; decide)]
    unfold WS.put
    rw [hp, putL, if_pos hp]; rfl
  have hhead : (WS.head ⟨0, []⟩ h) = (WS.mk 0 (l3 ++ bitsOf t.toNat 32)).var 0 := by
    unfold WS.head
    rw [hh]
    simp only [show (2 : Int) ≤ 3 by decide, if_true]
    rw [f3.1, hput, show (t - (t - 1) - 1) % 4294967296 = 0 by omega]
  have hl44 : (l3 ++ bitsOf t.toNat 32).length = 44 := by rw [List.length_append, f3.2, bitsOf_length]
  obtain ⟨v1, v2⟩ := var0_ok (WS.mk 0 (l3 ++ bitsOf t.toNat 32)) rfl (by rw [hl44]; omega)
  rw [hl44] at v2
  have hkeep : ((WS.head ⟨0, []⟩ h).keep 0).e = 0 ∧ ((WS.head ⟨0, []⟩ h).keep 0).l.length = 49 := by
    rw [hhead]; exact ⟨by show keepE _ 0 = 0; rw [v1]; rfl, v2⟩
  obtain ⟨S, hS⟩ : ∃ S, S = (WS.head ⟨0, []⟩ h).keep 0 := ⟨_, rfl⟩
  rw [← hS] at hs1 hs2 hkeep
  have hd : S.delta [] Delta.nil = ((S.var 0).var 0).var 0 := rfl
  obtain ⟨w1, w2⟩ := var0_ok S hkeep.1 (by omega)
  obtain ⟨w3, w4⟩ := var0_ok (S.var 0) w1 (by omega)
  obtain ⟨w5, w6⟩ := var0_ok ((S.var 0).var 0) w3 (by omega)
  have hpl : (pack (S.delta [] Delta.nil).l).length = 8 := by rw [hd, pack_length]; omega
  have hse : sealE (pack (S.delta [] Delta.nil).l) = 0 := by unfold sealE; rw [if_neg (by omega)]
  have p1 : packErr h was was = 0 := by unfold packErr; rw [if_neg (by simp [hck]), hs1, if_neg (by rw [hd, w5]; simp)]; exact hse
  have p2 : packErr h [] [] = 0 := by unfold packErr; rw [if_neg (by simp [hck]), hs2, if_neg (by rw [hd, w5]; simp)]; exact hse
  refine ⟨p1, p2, ?_, ?_⟩
  · rw [packBytes, if_pos p1, packBytes, if_pos p2, hs1, hs2]
  · rw [packBytes, if_pos p1, hs1, sealB, List.length_append, hpl]; simp [tailL]
end Go.Proofs.Ytbklglckmhfmcaa
