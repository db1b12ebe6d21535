/- A packet's bits, plain: what is written, and that nothing else is written so. No program in sight. -/
import Derived.Test.YtbklglckmhfmcaaPlainA
import Derived.Test.YtbklglckmhfmcaaRefF
set_option linter.unusedVariables false
set_option linter.unusedSimpArgs false
namespace Go.Proofs.Ytbklglckmhfmcaa
open Go.RowKit

/-! ### The writer without an error -/
theorem keepE_zero {e x : Int} (h : keepE e x = 0) : e = 0 ∧ x = 0 := by
  unfold keepE at h; split at h
  · rename_i h1; exact ⟨h1, h⟩
  · rename_i h1; exact absurd h h1
/-- From s to t a writer has gone on without an error, by the bits b. -/
structure Goes (s t : WS) (b : List Bool) : Prop where
  e : s.e = 0
  l : t.l = s.l ++ b
theorem Goes.trans {s t u : WS} {b c : List Bool} (h : Goes s t b) (k : Goes t u c) : Goes s u (b ++ c) := ⟨h.e, by rw [k.l, h.l, List.append_assoc]⟩
theorem put_goes {s : WS} {v n : Int} (h : (s.put v n).e = 0) : Goes s (s.put v n) (bitsOf v.toNat n.toNat) ∧ (n < 64 → v / 2 ^ n.toNat = 0) := by
  obtain ⟨h1, h2⟩ := keepE_zero h
  refine ⟨⟨h1, ?_⟩, fun hn => ?_⟩
  · show putL s.l v n = _; rw [putL, if_pos h2]
  · unfold putE at h2
    split at h2
    · exact absurd h2 (by decide)
    · rename_i h3
      by_cases h4 : v / 2 ^ n.toNat = 0
      · exact h4
      · exact absurd ⟨hn, h4⟩ h3
theorem var_goes {s : WS} {v : Int} (h : (s.var v).e = 0) : Goes s (s.var v) (varL v) := by
  obtain ⟨h1, h2⟩ := keepE_zero h
  exact ⟨h1, by show putVarL s.l v = _; rw [putVarL, if_pos h2]⟩
theorem inn_goes {s : WS} {n lo hi : Int} (h : (s.inn n lo hi).e = 0) : Goes s (s.inn n lo hi) (bitsOf (n - lo).toNat (blen (hi - lo)).toNat) ∧ lo ≤ n ∧ n ≤ hi := by
  obtain ⟨h1, h2⟩ := keepE_zero h
  unfold putInE at h2
  split at h2
  · exact absurd h2 (by decide)
  · rename_i h3
    refine ⟨⟨h1, ?_⟩, by omega, by omega⟩
    show putInL s.l n lo hi = _
    rw [putInL, if_neg h3, putL, if_pos h2]
theorem comp_goes {s : WS} {c : Comp} (h : (s.comp c).e = 0) : Goes s (s.comp c) (partsL (wholeP c)) ∧ checkE c = 0 := by
  obtain ⟨h1, h2⟩ := keepE_zero h
  unfold compE at h2
  split at h2
  · rename_i h3; exact absurd h2 h3
  · rename_i h3
    refine ⟨⟨h1, ?_⟩, by simpa using h3⟩
    show compL s.l c = _
    rw [compL, if_neg h3, putsL, if_pos h2]
theorem step_goes {s : WS} {was c : Comp} (h : (s.step was c).e = 0) : Goes s (s.step was c) (partsL (stepP was c)) ∧ pairE was c = 0 := by
  obtain ⟨h1, h2⟩ := keepE_zero h
  unfold compSE at h2
  split at h2
  · rename_i h3; exact absurd h2 h3
  · rename_i h3
    refine ⟨⟨h1, ?_⟩, by simpa using h3⟩
    show compSL s.l was c = _
    rw [compSL, if_neg h3, putsL, if_pos h2]
theorem keep_goes {s : WS} {x : Int} (h : (s.keep x).e = 0) : Goes s (s.keep x) [] ∧ x = 0 := by
  obtain ⟨h1, h2⟩ := keepE_zero h
  exact ⟨⟨h1, by simp [WS.keep]⟩, h2⟩

/-! ### The bits -/
def encComps (l : List Comp) : List Bool := l.flatMap fun c => partsL (wholeP c)
def encId (last id : Int) : List Bool := varL ((id - last - 1) % 4294967296)
def encIds : Int → List Int → List Bool
  | _, [] => []
  | last, id :: r => encId last id ++ encIds id r
def encEnts : Int → List Ent → List Bool
  | _, [] => []
  | last, e :: r => encId last e.id ++ bitsOf (maskN e.comps) 5 ++ encComps e.comps ++ encEnts e.id r
def encSteps (was : List Ent) (id : Int) (l : List Comp) : List Bool := l.flatMap fun x => partsL (stepP (oldC was id x.k) x)
def encChgs (was : List Ent) : Int → List Change → List Bool
  | _, [] => []
  | last, c :: r => encId last c.id ++ bitsOf c.lost.toNat 5 ++ bitsOf (maskN c.new) 5 ++ bitsOf (maskN c.set) 5 ++ encComps c.new ++ encSteps was c.id c.set ++ encChgs was c.id r
def encAll (l : List Ent) : List Bool := varL l.length ++ encEnts 0 l
def encDelta (was : List Ent) (d : Delta) : List Bool :=
  varL d.gone.length ++ encIds 0 d.gone ++ encAll d.come ++ varL d.chg.length ++ encChgs was 0 d.chg
def encHead (h : Head) : List Bool :=
  bitsOf (h.kind - 1).toNat 3 ++ bitsOf h.client.toNat 4 ++ varL h.epoch ++ (if h.kind ≤ 3 then bitsOf h.tick.toNat 32 else []) ++ (if h.kind = 2 then varL ((h.tick - h.base - 1) % 4294967296) else [])
theorem comps_goes {l : List Comp} : ∀ {s : WS}, (s.comps l).e = 0 → Goes s (s.comps l) (encComps l) ∧ ∀ c ∈ l, checkE c = 0 := by
  induction l with
  | nil => intro s h; exact ⟨⟨h, by simp [WS.comps, encComps]⟩, by simp⟩
  | cons c r ih =>
    intro s h
    have h' : ((s.comp c).comps r).e = 0 := h
    obtain ⟨g1, g2⟩ := ih h'
    obtain ⟨g3, g4⟩ := comp_goes g1.e
    refine ⟨g3.trans g1, fun x hx => ?_⟩
    rcases List.mem_cons.1 hx with rfl | hx
    · exact g4
    · exact g2 x hx
theorem ents_goes1 {l : List Ent} : ∀ {s : WS} {last : Int}, (l.foldl WS.entStep (s, last)).1.e = 0 → Goes s (l.foldl WS.entStep (s, last)).1 (encEnts last l) ∧ ∀ e ∈ l, maskN e.comps < 32 := by
  induction l with
  | nil => intro s last h; exact ⟨⟨h, by simp [encEnts]⟩, by simp⟩
  | cons e r ih =>
    intro s last h
    rw [List.foldl_cons] at h ⊢
    obtain ⟨g1, g2⟩ := ih h
    have h1 : (((s.id last e.id).put (maskN e.comps) 5).comps e.comps).e = 0 := g1.e
    obtain ⟨g3, g4⟩ := comps_goes h1
    obtain ⟨g5, g6⟩ := put_goes g3.e
    have g7 := var_goes g5.e
    have gg := ((g7.trans g5).trans g3).trans g1
    refine ⟨⟨gg.e, by have := gg.l; simp only [encEnts, encId]; exact this⟩, fun x hx => ?_⟩
    rcases List.mem_cons.1 hx with rfl | hx
    · have := g6 (by decide)
      have h5 : (2 : Int) ^ (5 : Int).toNat = 32 := by decide
      rw [h5] at this; omega
    · exact g2 x hx
theorem ents_goes {l : List Ent} {s : WS} (h : (s.ents l).e = 0) : Goes s (s.ents l) (encAll l) ∧ ∀ e ∈ l, maskN e.comps < 32 := by
  obtain ⟨g1, g2⟩ := ents_goes1 h
  exact ⟨(var_goes g1.e).trans g1, g2⟩
theorem ids_goes1 {l : List Int} : ∀ {s : WS} {last : Int}, (l.foldl WS.goneStep (s, last)).1.e = 0 → Goes s (l.foldl WS.goneStep (s, last)).1 (encIds last l) := by
  induction l with
  | nil => intro s last h; exact ⟨h, by simp [encIds]⟩
  | cons e r ih =>
    intro s last h
    rw [List.foldl_cons] at h ⊢
    have g1 := ih h
    exact (var_goes g1.e).trans g1
theorem gone_goes {l : List Int} {s : WS} (h : (s.gone l).e = 0) : Goes s (s.gone l) (varL l.length ++ encIds 0 l) := by
  have g1 := ids_goes1 h
  exact (var_goes g1.e).trans g1
theorem steps_goes {was : List Ent} {id : Int} {l : List Comp} : ∀ {s : WS}, (WS.steps was id s l).e = 0 → Goes s (WS.steps was id s l) (encSteps was id l) ∧ ∀ x ∈ l, pairE (oldC was id x.k) x = 0 := by
  induction l with
  | nil => intro s h; exact ⟨⟨h, by simp [WS.steps, encSteps]⟩, by simp⟩
  | cons c r ih =>
    intro s h
    have h' : (WS.steps was id (s.step (oldC was id c.k) c) r).e = 0 := h
    obtain ⟨g1, g2⟩ := ih h'
    obtain ⟨g3, g4⟩ := step_goes g1.e
    refine ⟨g3.trans g1, fun x hx => ?_⟩
    rcases List.mem_cons.1 hx with rfl | hx
    · exact g4
    · exact g2 x hx
/-- What a change that is written fits. -/
structure FitC (was : List Ent) (c : Change) : Prop where
  lost : c.lost / 32 = 0
  new : maskN c.new < 32
  set : maskN c.set < 32
  okn : ∀ x ∈ c.new, checkE x = 0
  oks : ∀ x ∈ c.set, pairE (oldC was c.id x.k) x = 0
theorem chgs_goes1 {was : List Ent} {l : List Change} : ∀ {s : WS} {last : Int}, (l.foldl (WS.chgStep was) (s, last)).1.e = 0 → Goes s (l.foldl (WS.chgStep was) (s, last)).1 (encChgs was last l) ∧ ∀ c ∈ l, FitC was c := by
  induction l with
  | nil => intro s last h; exact ⟨⟨h, by simp [encChgs]⟩, by simp⟩
  | cons c r ih =>
    intro s last h
    rw [List.foldl_cons] at h ⊢
    obtain ⟨g1, g2⟩ := ih h
    have h1 : (WS.steps was c.id ((c.bytes.foldl WS.put5 (s.id last c.id)).comps c.new) c.set).e = 0 := g1.e
    obtain ⟨g3, g4⟩ := steps_goes h1
    obtain ⟨g5, g6⟩ := comps_goes g3.e
    have h2 : ((((s.id last c.id).put c.lost 5).put (maskN c.new) 5).put (maskN c.set) 5).e = 0 := g5.e
    obtain ⟨g7, g8⟩ := put_goes h2
    obtain ⟨g9, g10⟩ := put_goes g7.e
    obtain ⟨g11, g12⟩ := put_goes g9.e
    have g13 := var_goes g11.e
    have h5 : (2 : Int) ^ (5 : Int).toNat = 32 := by decide
    refine ⟨?_, fun x hx => ?_⟩
    · have gg := (((((g13.trans g11).trans g9).trans g7).trans g5).trans g3).trans g1
      exact ⟨gg.e, by have := gg.l; simp only [encChgs, encId]; exact this⟩
    · rcases List.mem_cons.1 hx with rfl | hx
      · have a1 := g8 (by decide)
        have a2 := g10 (by decide)
        have a3 := g12 (by decide)
        rw [h5] at a1 a2 a3
        exact ⟨a3, by omega, by omega, g6, g4⟩
      · exact g2 x hx
theorem delta_goes {was : List Ent} {d : Delta} {s : WS} (h : (s.delta was d).e = 0) : Goes s (s.delta was d) (encDelta was d) ∧ (∀ e ∈ d.come, maskN e.comps < 32) ∧ ∀ c ∈ d.chg, FitC was c := by
  obtain ⟨g1, g2⟩ := chgs_goes1 h
  have g3 := var_goes g1.e
  obtain ⟨g4, g5⟩ := ents_goes g3.e
  have g6 := gone_goes g4.e
  refine ⟨?_, g5, g2⟩
  have gg := ((g6.trans g4).trans g3).trans g1
  exact ⟨gg.e, by have := gg.l; simp only [encDelta]; exact this⟩
theorem head_goes {h : Head} {s : WS} (he : (s.head h).e = 0) : Goes s (s.head h) (encHead h) ∧ 1 ≤ h.kind ∧ h.kind ≤ 5 ∧ 0 ≤ h.client ∧ h.client ≤ 15 := by
  have b1 : (blen (5 - 1)).toNat = 3 := by decide
  have b2 : (blen (15 - 0)).toNat = 4 := by decide
  have front : ∀ {s3 : WS}, s3 = ((s.inn h.kind 1 5).inn h.client 0 15).var h.epoch → s3.e = 0 → Goes s s3 (bitsOf (h.kind - 1).toNat 3 ++ bitsOf h.client.toNat 4 ++ varL h.epoch) ∧ 1 ≤ h.kind ∧ h.kind ≤ 5 ∧ 0 ≤ h.client ∧ h.client ≤ 15 := by
    rintro s3 rfl h3
    have g1 := var_goes h3
    obtain ⟨g2, g3, g4⟩ := inn_goes g1.e
    obtain ⟨g5, g6, g7⟩ := inn_goes g2.e
    rw [b1] at g5
    rw [b2, Int.sub_zero] at g2
    exact ⟨(g5.trans g2).trans g1, g6, g7, g3, g4⟩
  unfold WS.head at he ⊢
  unfold encHead
  by_cases h3 : h.kind ≤ 3
  · simp only [if_pos h3] at he ⊢
    by_cases h2 : h.kind = 2
    · simp only [if_pos h2] at he ⊢
      have g1 := var_goes he
      obtain ⟨g2, _⟩ := put_goes g1.e
      obtain ⟨g3, g4⟩ := front rfl g2.e
      exact ⟨(g3.trans g2).trans g1, g4⟩
    · simp only [if_neg h2, List.append_nil] at he ⊢
      obtain ⟨g2, _⟩ := put_goes he
      obtain ⟨g3, g4⟩ := front rfl g2.e
      exact ⟨g3.trans g2, g4⟩
  · have h2 : ¬ h.kind = 2 := by omega
    simp only [if_neg h3, if_neg h2, List.append_nil] at he ⊢
    exact front rfl he

/-! ### Nothing else is written so -/
theorem bits_pf {a b n : Nat} {r s : List Bool} (ha : a < 2 ^ n) (hb : b < 2 ^ n) (h : bitsOf a n ++ r = bitsOf b n ++ s) : a = b ∧ r = s := by
  obtain ⟨h1, h2⟩ := List.append_inj h (by rw [bitsOf_length, bitsOf_length])
  exact ⟨bitsOf_inj ha hb h1, h2⟩
theorem varPre_group (v n i j : Nat) (h : j < i) (r : List Bool) : ((varPre v n i ++ r).drop (5 * j)).take 5 = bitsOf (grpX v n j) 5 := by
  induction i generalizing r with
  | zero => omega
  | succ i ih =>
    rw [varPre, List.append_assoc]
    by_cases hj : j < i
    · exact ih hj _
    · have : j = i := by omega
      subst this
      rw [List.drop_append, varPre_length, List.drop_eq_nil_of_le (by rw [varPre_length]; omega), Nat.sub_self, List.drop_zero, List.nil_append]
      rw [List.take_append_of_le_length (by rw [bitsOf_length]; omega), List.take_of_length_le (by rw [bitsOf_length]; omega)]
theorem digits_eq : ∀ (n a b : Nat), a < 16 ^ n → b < 16 ^ n → (∀ j, j < n → (a / 16 ^ j) % 16 = (b / 16 ^ j) % 16) → a = b
  | 0, a, b, ha, hb, _ => by simp at ha hb; omega
  | n + 1, a, b, ha, hb, h => by
    have h0 := h 0 (by omega)
    simp at h0
    have := digits_eq n (a / 16) (b / 16) (by rw [Nat.pow_succ] at ha; omega) (by rw [Nat.pow_succ] at hb; omega) fun j hj => by
      have := h (j + 1) (by omega)
      rw [Nat.pow_succ, Nat.mul_comm (16 ^ j), ← Nat.div_div_eq_div_mul, ← Nat.div_div_eq_div_mul] at this
      exact this
    omega
theorem grp_room (v : Int) (h0 : 0 ≤ v) : v.toNat < 16 ^ (grp v).toNat := by
  have h1 := lt_blen v h0
  have h2 := grp_pos v
  have h4 : blen v ≤ 4 * grp v := by
    unfold grp; split
    · have : v = 0 := by omega
      subst this; decide
    · omega
  have h5 : (blen v).toNat ≤ 4 * (grp v).toNat := by omega
  have h6 := Nat.pow_le_pow_right (show 0 < 2 by omega) h5
  have h7 : (16 : Nat) ^ (grp v).toNat = 2 ^ (4 * (grp v).toNat) := by rw [show (16 : Nat) = 2 ^ 4 by decide, ← Nat.pow_mul]
  have h8 : (v.toNat : Int) < ((2 ^ (blen v).toNat : Nat) : Int) := by push_cast; omega
  have h9 : v.toNat < 2 ^ (blen v).toNat := by exact_mod_cast h8
  omega
theorem var_pf {a b : Int} {r s : List Bool} (ha : 0 ≤ a) (hb : 0 ≤ b) (h : varL a ++ r = varL b ++ s) : a = b ∧ r = s := by
  have hga := grp_pos a
  have hgb := grp_pos b
  have grp_eq : ∀ j, j < (grp a).toNat → j < (grp b).toNat → grpX a.toNat (grp a).toNat j = grpX b.toNat (grp b).toNat j := by
    intro j h1 h2
    have e1 := varPre_group a.toNat (grp a).toNat (grp a).toNat j h1 r
    have e2 := varPre_group b.toNat (grp b).toNat (grp b).toNat j h2 s
    unfold varL at h
    rw [h] at e1
    exact bitsOf_inj (grpX_lt _ _ _) (grpX_lt _ _ _) (e1.symm.trans e2)
  have hn : (grp a).toNat = (grp b).toNat := by
    rcases Nat.lt_trichotomy (grp a).toNat (grp b).toNat with h1 | h1 | h1
    · have := grp_eq ((grp a).toNat - 1) (by omega) (by omega)
      unfold grpX at this
      rw [if_neg (by omega), if_pos (by omega)] at this
      omega
    · exact h1
    · have := grp_eq ((grp b).toNat - 1) (by omega) (by omega)
      unfold grpX at this
      rw [if_pos (by omega), if_neg (by omega)] at this
      omega
  obtain ⟨h1, h2⟩ := List.append_inj h (by rw [varL_length, varL_length, hn])
  refine ⟨?_, h2⟩
  have : a.toNat = b.toNat := digits_eq (grp a).toNat _ _ (grp_room a ha) (by rw [hn]; exact grp_room b hb) fun j hj => by
    have := grp_eq j hj (by omega)
    rw [hn] at this
    unfold grpX at this
    omega
  omega
theorem id_pf {last a b : Int} {r s : List Bool} (ha0 : 0 ≤ a) (ha1 : a ≤ 4294967295) (hb0 : 0 ≤ b) (hb1 : b ≤ 4294967295) (h : encId last a ++ r = encId last b ++ s) : a = b ∧ r = s := by
  obtain ⟨h1, h2⟩ := var_pf (by omega) (by omega) h
  exact ⟨by omega, h2⟩
theorem ids_pf : ∀ {a b : List Int} {last : Int} {r s : List Bool}, a.length = b.length → (∀ i ∈ a, 0 ≤ i ∧ i ≤ 4294967295) → (∀ i ∈ b, 0 ≤ i ∧ i ≤ 4294967295) → encIds last a ++ r = encIds last b ++ s → a = b ∧ r = s
  | [], [], _, _, _, _, _, _, h => ⟨rfl, by simpa [encIds] using h⟩
  | [], y :: _, _, _, _, hl, _, _, _ => by simp at hl
  | x :: _, [], _, _, _, hl, _, _, _ => by simp at hl
  | x :: a, y :: b, last, r, s, hl, ha, hb, h => by
    simp only [encIds, List.append_assoc] at h
    have hx := ha x List.mem_cons_self
    have hy := hb y List.mem_cons_self
    obtain ⟨h1, h2⟩ := id_pf hx.1 hx.2 hy.1 hy.2 h
    subst h1
    obtain ⟨h3, h4⟩ := ids_pf (by simpa using hl) (fun i hi => ha i (List.mem_cons_of_mem _ hi)) (fun i hi => hb i (List.mem_cons_of_mem _ hi)) h2
    exact ⟨by rw [h3], h4⟩
theorem part_len (P Q : List Part) (h : P.map Part.n = Q.map Part.n) : (partsL P).length = (partsL Q).length := by
  induction P generalizing Q with
  | nil => cases Q with
    | nil => rfl
    | cons _ _ => simp at h
  | cons p r ih => cases Q with
    | nil => simp at h
    | cons q t =>
      simp at h
      have := ih t h.2
      simp only [partsL, List.flatMap_cons, List.length_append, bitsOf_length] at this ⊢
      rw [h.1]; omega
theorem parts_pf : ∀ {P Q : List Part} {r s : List Bool}, P.map Part.n = Q.map Part.n → (∀ p ∈ P, p.wf) → (∀ p ∈ Q, p.wf) → partsL P ++ r = partsL Q ++ s → P.map Part.v = Q.map Part.v ∧ r = s
  | [], [], _, _, _, _, _, h => ⟨rfl, by simpa [partsL] using h⟩
  | [], _ :: _, _, _, hl, _, _, _ => by simp at hl
  | _ :: _, [], _, _, hl, _, _, _ => by simp at hl
  | p :: P, q :: Q, r, s, hl, hp, hq, h => by
    simp only [List.map_cons, List.cons.injEq] at hl
    simp only [partsL, List.flatMap_cons, List.append_assoc] at h
    have wp := hp p List.mem_cons_self
    have wq := hq q List.mem_cons_self
    rw [← hl.1] at h
    have fp := wp.fit
    have fq := wq.fit
    rw [← hl.1] at fq
    have c1 : ((2 : Int) ^ p.n.toNat) = ((2 ^ p.n.toNat : Nat) : Int) := by push_cast; rfl
    obtain ⟨h1, h2⟩ := bits_pf (by rw [c1] at fp; have := wp.v0; omega) (by rw [c1] at fq; have := wq.v0; omega) h
    obtain ⟨h3, h4⟩ := parts_pf (P := P) (Q := Q) hl.2 (fun x hx => hp x (List.mem_cons_of_mem _ hx)) (fun x hx => hq x (List.mem_cons_of_mem _ hx)) h2
    have := wp.v0
    have := wq.v0
    exact ⟨by simp only [List.map_cons, h3, List.cons.injEq, and_true]; omega, h4⟩
theorem comp_ext {a b : Comp} (hk : a.k = b.k) (ha : checkE a = 0) (hb : checkE b = 0) (h : ∀ i, i < cnt a.k → a.f i = b.f i) : a = b := by
  obtain ⟨_, _, a3⟩ := checkE_zero ha
  obtain ⟨_, _, b3⟩ := checkE_zero hb
  have hf : ∀ i, i < 3 → a.f i = b.f i := by
    intro i hi
    by_cases hc : i < cnt a.k
    · exact h i hc
    · rw [a3 i (by omega) hi, b3 i (by rw [← hk]; omega) hi]
  have h0 := hf 0 (by omega)
  have h1 := hf 1 (by omega)
  have h2 := hf 2 (by omega)
  cases a; cases b
  simp only [Comp.f] at h0 h1 h2
  simp at hk
  rw [hk, h0, h1, h2]
theorem wholeP_wf {c : Comp} (h : checkE c = 0) : ∀ p ∈ wholeP c, p.wf := by
  intro p hp
  obtain ⟨i, hi, rfl⟩ := List.mem_map.1 hp
  exact field_wf c i h (List.mem_range.1 hi)
theorem whole_pf {a b : Comp} {r s : List Bool} (hk : a.k = b.k) (ha : checkE a = 0) (hb : checkE b = 0) (h : partsL (wholeP a) ++ r = partsL (wholeP b) ++ s) : a = b ∧ r = s := by
  have hn : (wholeP a).map Part.n = (wholeP b).map Part.n := by simp [wholeP, fieldP, hk, Function.comp_def]
  obtain ⟨h1, h2⟩ := parts_pf hn (wholeP_wf ha) (wholeP_wf hb) h
  refine ⟨comp_ext hk ha hb fun i hi => ?_, h2⟩
  have h3 : ((wholeP a).map Part.v)[i]? = ((wholeP b).map Part.v)[i]? := by rw [h1]
  simp only [wholeP, List.map_map, List.getElem?_map, List.getElem?_range hi, List.getElem?_range (show i < cnt b.k by rw [← hk]; exact hi), Option.map_some, Function.comp, fieldP, Option.some.injEq, hk] at h3
  omega
theorem comps_pf : ∀ {a b : List Comp} {r s : List Bool}, a.map Comp.k = b.map Comp.k → (∀ c ∈ a, checkE c = 0) → (∀ c ∈ b, checkE c = 0) → encComps a ++ r = encComps b ++ s → a = b ∧ r = s
  | [], [], _, _, _, _, _, h => ⟨rfl, by simpa [encComps] using h⟩
  | [], _ :: _, _, _, hl, _, _, _ => by simp at hl
  | _ :: _, [], _, _, hl, _, _, _ => by simp at hl
  | x :: a, y :: b, r, s, hl, ha, hb, h => by
    simp only [List.map_cons, List.cons.injEq] at hl
    simp only [encComps, List.flatMap_cons, List.append_assoc] at h
    obtain ⟨h1, h2⟩ := whole_pf hl.1 (ha x List.mem_cons_self) (hb y List.mem_cons_self) h
    obtain ⟨h3, h4⟩ := comps_pf (a := a) (b := b) hl.2 (fun c hc => ha c (List.mem_cons_of_mem _ hc)) (fun c hc => hb c (List.mem_cons_of_mem _ hc)) h2
    exact ⟨by rw [h1, h3], h4⟩
/-- The kinds of a mask are the kinds. -/
theorem kinds_of_mask {a b : List Comp} (ha : GoodC a) (hb : GoodC b) (h : maskN a = maskN b) : a.map Comp.k = b.map Comp.k := by
  have hr : ∀ {l : List Comp}, GoodC l → (l.map Comp.k).Pairwise (fun x y => id x < id y) := fun hl => by rw [List.pairwise_map]; exact hl.rise
  refine rise_ext id (hr ha) (hr hb) fun k => ?_
  have key : ∀ {a b : List Comp}, GoodC a → GoodC b → maskN a = maskN b → k ∈ a.map Comp.k → k ∈ b.map Comp.k := by
    intro a b ha hb h hk
    obtain ⟨c, hc, rfl⟩ := List.mem_map.1 hk
    have hr := kind_in (ha.ok c hc)
    have := (mask_test ha.nn c.k.toNat (by omega)).2 ⟨c, hc, by omega⟩
    rw [h] at this
    obtain ⟨d, hd, hdk⟩ := (mask_test hb.nn c.k.toNat (by omega)).1 this
    exact List.mem_map.2 ⟨d, hd, by omega⟩
  exact ⟨key ha hb h, key hb ha h.symm⟩
theorem ents_pf : ∀ {a b : List Ent} {last : Int} {r s : List Bool}, a.length = b.length → (∀ e ∈ a, e.wf ∧ GoodC e.comps ∧ maskN e.comps < 32) → (∀ e ∈ b, e.wf ∧ GoodC e.comps ∧ maskN e.comps < 32) →
    encEnts last a ++ r = encEnts last b ++ s → a = b ∧ r = s
  | [], [], _, _, _, _, _, _, h => ⟨rfl, by simpa [encEnts] using h⟩
  | [], _ :: _, _, _, _, hl, _, _, _ => by simp at hl
  | _ :: _, [], _, _, _, hl, _, _, _ => by simp at hl
  | x :: a, y :: b, last, r, s, hl, ha, hb, h => by
    simp only [encEnts, List.append_assoc] at h
    obtain ⟨wx, gx, mx⟩ := ha x List.mem_cons_self
    obtain ⟨wy, gy, my⟩ := hb y List.mem_cons_self
    obtain ⟨h1, h2⟩ := id_pf wx.id0 wx.id1 wy.id0 wy.id1 h
    obtain ⟨h3, h4⟩ := bits_pf mx my h2
    obtain ⟨h5, h6⟩ := comps_pf (kinds_of_mask gx gy h3) gx.ok gy.ok h4
    have hxy : x = y := by cases x; cases y; simp at h1 h5; rw [h1, h5]
    subst hxy
    obtain ⟨h7, h8⟩ := ents_pf (a := a) (b := b) (by simpa using hl) (fun e he => ha e (List.mem_cons_of_mem _ he)) (fun e he => hb e (List.mem_cons_of_mem _ he)) h6
    exact ⟨by rw [h7], h8⟩
theorem all_pf {a b : List Ent} {r s : List Bool} (ha : ∀ e ∈ a, e.wf ∧ GoodC e.comps ∧ maskN e.comps < 32) (hb : ∀ e ∈ b, e.wf ∧ GoodC e.comps ∧ maskN e.comps < 32) (h : encAll a ++ r = encAll b ++ s) : a = b ∧ r = s := by
  simp only [encAll, List.append_assoc] at h
  obtain ⟨h1, h2⟩ := var_pf (Int.natCast_nonneg _) (Int.natCast_nonneg _) h
  exact ents_pf (by omega) ha hb h2
theorem pairE_zero {was c : Comp} (h : pairE was c = 0) : checkE was = 0 ∧ checkE c = 0 ∧ was.k = c.k := by
  unfold pairE at h
  by_cases h1 : checkE was = 0
  · rw [if_neg (by simp [h1])] at h
    by_cases h2 : checkE c = 0
    · rw [if_neg (by simp [h2])] at h
      by_cases h3 : was.k = c.k
      · exact ⟨h1, h2, h3⟩
      · rw [if_pos h3] at h; exact absurd h (by decide)
    · rw [if_pos h2] at h; exact absurd h h2
  · rw [if_pos h1] at h; exact absurd h h1
theorem zig_inj {a b : Int} (h : zig a = zig b) : a = b := by unfold zig at h; split at h <;> split at h <;> omega
/-- One field's step. -/
theorem stepI_pf {was a b : Comp} {i : Nat} {r s : List Bool} (ha : checkE a = 0) (hb : checkE b = 0) (hk : a.k = b.k) (hi : i < cnt a.k) (h : partsL (stepI was a i) ++ r = partsL (stepI was b i) ++ s) : a.f i = b.f i ∧ r = s := by
  have za := zig_nonneg (a.f i - was.f i)
  have zb := zig_nonneg (b.f i - was.f i)
  have bit : ∀ x y : Nat, x < 2 → y < 2 → ∀ {r s : List Bool}, bitsOf x 1 ++ r = bitsOf y 1 ++ s → x = y ∧ r = s := fun x y hx hy {r s} h => bits_pf (n := 1) hx hy h
  have one : (1 : Int).toNat = 1 := rfl
  have four : (4 : Int).toNat = 4 := rfl
  have zero : (0 : Int).toNat = 0 := rfl
  have fld : ∀ {r s : List Bool}, bitsOf (fieldP a i).v.toNat (fieldP a i).n.toNat ++ r = bitsOf (fieldP b i).v.toNat (fieldP b i).n.toNat ++ s → a.f i = b.f i ∧ r = s := by
    intro r s h
    have hp : partsL [fieldP a i] ++ r = partsL [fieldP b i] ++ s := by simpa [partsL] using h
    obtain ⟨h1, h2⟩ := parts_pf (by simp [fieldP, hk]) (by simpa using field_wf a i ha hi) (by simpa using field_wf b i hb (by rw [← hk]; exact hi)) hp
    simp [fieldP, hk] at h1
    exact ⟨by omega, h2⟩
  unfold stepI at h
  by_cases a0 : moreZ was a i = 0
  · rw [if_pos a0] at h
    by_cases b0 : moreZ was b i = 0
    · rw [if_pos b0] at h
      simp only [partsL, List.flatMap_cons, List.flatMap_nil, List.append_nil] at h
      obtain ⟨_, h2⟩ := bit _ _ (by decide) (by decide) h
      unfold moreZ at a0 b0
      rw [zig_zero] at a0 b0
      exact ⟨by omega, h2⟩
    · rw [if_neg b0] at h
      exfalso
      split at h <;> (simp only [partsL, List.flatMap_cons, List.append_assoc, one, zero] at h; have := (bit 0 1 (by decide) (by decide) h).1; omega)
  · rw [if_neg a0] at h
    by_cases b0 : moreZ was b i = 0
    · rw [if_pos b0] at h
      exfalso
      split at h <;> (simp only [partsL, List.flatMap_cons, List.append_assoc, one, zero] at h; have := (bit 1 0 (by decide) (by decide) h).1; omega)
    · rw [if_neg b0] at h
      by_cases a1 : moreZ was a i ≤ 16 <;> by_cases b1 : moreZ was b i ≤ 16
      · rw [if_pos a1, if_pos b1] at h
        simp only [partsL, List.flatMap_cons, List.flatMap_nil, List.append_nil, List.append_assoc, one, four] at h
        obtain ⟨_, h2⟩ := bit _ _ (by decide) (by decide) h
        obtain ⟨_, h3⟩ := bit _ _ (by decide) (by decide) h2
        unfold moreZ at a0 b0 a1 b1 h3
        obtain ⟨h4, h5⟩ := bits_pf (n := 4) (by omega) (by omega) h3
        have := zig_inj (a := a.f i - was.f i) (b := b.f i - was.f i) (by omega)
        exact ⟨by omega, h5⟩
      · rw [if_pos a1, if_neg b1] at h
        exfalso
        simp only [partsL, List.flatMap_cons, List.flatMap_nil, List.append_nil, List.append_assoc, one, zero] at h
        obtain ⟨_, h2⟩ := bit 1 1 (by decide) (by decide) h
        have := (bit 1 0 (by decide) (by decide) h2).1; omega
      · rw [if_neg a1, if_pos b1] at h
        exfalso
        simp only [partsL, List.flatMap_cons, List.flatMap_nil, List.append_nil, List.append_assoc, one, zero] at h
        obtain ⟨_, h2⟩ := bit 1 1 (by decide) (by decide) h
        have := (bit 0 1 (by decide) (by decide) h2).1; omega
      · rw [if_neg a1, if_neg b1] at h
        simp only [partsL, List.flatMap_cons, List.flatMap_nil, List.append_nil, List.append_assoc, one, zero] at h
        obtain ⟨_, h2⟩ := bit _ _ (by decide) (by decide) h
        obtain ⟨_, h3⟩ := bit _ _ (by decide) (by decide) h2
        exact fld h3
theorem stepR_pf {was a b : Comp} (ha : checkE a = 0) (hb : checkE b = 0) (hk : a.k = b.k) : ∀ (is : List Nat) {r s : List Bool}, (∀ i ∈ is, i < cnt a.k) → partsL (is.flatMap (stepI was a)) ++ r = partsL (is.flatMap (stepI was b)) ++ s → (∀ i ∈ is, a.f i = b.f i) ∧ r = s
  | [], r, s, _, h => ⟨by simp, by simpa [partsL] using h⟩
  | i :: is, r, s, hi, h => by
    have pa : ∀ (P Q : List Part), partsL (P ++ Q) = partsL P ++ partsL Q := fun P Q => by simp [partsL]
    rw [List.flatMap_cons, List.flatMap_cons, pa, pa, List.append_assoc, List.append_assoc] at h
    obtain ⟨h1, h2⟩ := stepI_pf ha hb hk (hi i List.mem_cons_self) h
    obtain ⟨h3, h4⟩ := stepR_pf ha hb hk is (fun j hj => hi j (List.mem_cons_of_mem _ hj)) h2
    refine ⟨fun j hj => ?_, h4⟩
    rcases List.mem_cons.1 hj with rfl | hj
    · exact h1
    · exact h3 j hj
theorem step_pf {was a b : Comp} {r s : List Bool} (ha : checkE a = 0) (hb : checkE b = 0) (hk : a.k = b.k) (h : partsL (stepP was a) ++ r = partsL (stepP was b) ++ s) : a = b ∧ r = s := by
  unfold stepP at h
  rw [← hk] at h
  obtain ⟨h1, h2⟩ := stepR_pf ha hb hk (List.range (cnt a.k)) (fun i hi => List.mem_range.1 hi) h
  exact ⟨comp_ext hk ha hb fun i hi => h1 i (List.mem_range.2 hi), h2⟩
theorem steps_pf {was : List Ent} {id : Int} : ∀ {a b : List Comp} {r s : List Bool}, a.map Comp.k = b.map Comp.k → (∀ c ∈ a, checkE c = 0) → (∀ c ∈ b, checkE c = 0) → encSteps was id a ++ r = encSteps was id b ++ s → a = b ∧ r = s
  | [], [], _, _, _, _, _, h => ⟨rfl, by simpa [encSteps] using h⟩
  | [], _ :: _, _, _, hl, _, _, _ => by simp at hl
  | _ :: _, [], _, _, hl, _, _, _ => by simp at hl
  | x :: a, y :: b, r, s, hl, ha, hb, h => by
    simp only [List.map_cons, List.cons.injEq] at hl
    simp only [encSteps, List.flatMap_cons, List.append_assoc] at h
    rw [← hl.1] at h
    obtain ⟨h1, h2⟩ := step_pf (ha x List.mem_cons_self) (hb y List.mem_cons_self) hl.1 h
    obtain ⟨h3, h4⟩ := steps_pf (was := was) (id := id) (a := a) (b := b) hl.2 (fun c hc => ha c (List.mem_cons_of_mem _ hc)) (fun c hc => hb c (List.mem_cons_of_mem _ hc)) h2
    exact ⟨by rw [h1, h3], h4⟩
structure RightC (was : List Ent) (c : Change) : Prop where
  fit : FitC was c
  wf : c.wf
  new : GoodC c.new
  set : GoodC c.set
theorem chgs_pf {was : List Ent} : ∀ {a b : List Change} {last : Int} {r s : List Bool}, a.length = b.length → (∀ c ∈ a, RightC was c) → (∀ c ∈ b, RightC was c) → encChgs was last a ++ r = encChgs was last b ++ s → a = b ∧ r = s
  | [], [], _, _, _, _, _, _, h => ⟨rfl, by simpa [encChgs] using h⟩
  | [], _ :: _, _, _, _, hl, _, _, _ => by simp at hl
  | _ :: _, [], _, _, _, hl, _, _, _ => by simp at hl
  | x :: a, y :: b, last, r, s, hl, ha, hb, h => by
    simp only [encChgs, List.append_assoc] at h
    have rx := ha x List.mem_cons_self
    have ry := hb y List.mem_cons_self
    obtain ⟨h1, h2⟩ := id_pf rx.wf.id0 rx.wf.id1 ry.wf.id0 ry.wf.id1 h
    have lx := rx.fit.lost
    have ly := ry.fit.lost
    have lx0 := rx.wf.lost0
    have ly0 := ry.wf.lost0
    obtain ⟨h3, h4⟩ := bits_pf (n := 5) (by omega) (by omega) h2
    obtain ⟨h5, h6⟩ := bits_pf (n := 5) rx.fit.new ry.fit.new h4
    obtain ⟨h7, h8⟩ := bits_pf (n := 5) rx.fit.set ry.fit.set h6
    obtain ⟨h9, h10⟩ := comps_pf (kinds_of_mask rx.new ry.new h5) rx.new.ok ry.new.ok h8
    rw [← h1] at h10
    obtain ⟨h11, h12⟩ := steps_pf (kinds_of_mask rx.set ry.set h7) rx.set.ok ry.set.ok h10
    have hxy : x = y := by cases x; cases y; simp at h1 h9 h11 h3 lx0 ly0; rw [h1, h9, h11]; congr 1; omega
    subst hxy
    obtain ⟨h13, h14⟩ := chgs_pf (a := a) (b := b) (by simpa using hl) (fun c hc => ha c (List.mem_cons_of_mem _ hc)) (fun c hc => hb c (List.mem_cons_of_mem _ hc)) h12
    exact ⟨by rw [h13], h14⟩
/-- A delta that can be written. -/
structure RightD (was : List Ent) (d : Delta) : Prop where
  gone : ∀ i ∈ d.gone, 0 ≤ i ∧ i ≤ 4294967295
  come : ∀ e ∈ d.come, e.wf ∧ GoodC e.comps ∧ maskN e.comps < 32
  chg : ∀ c ∈ d.chg, RightC was c
theorem delta_pf {was : List Ent} {a b : Delta} {r s : List Bool} (ha : RightD was a) (hb : RightD was b) (h : encDelta was a ++ r = encDelta was b ++ s) : a = b ∧ r = s := by
  simp only [encDelta, List.append_assoc] at h
  obtain ⟨h1, h2⟩ := var_pf (Int.natCast_nonneg _) (Int.natCast_nonneg _) h
  obtain ⟨h3, h4⟩ := ids_pf (by omega) ha.gone hb.gone h2
  obtain ⟨h5, h6⟩ := all_pf ha.come hb.come h4
  obtain ⟨h7, h8⟩ := var_pf (Int.natCast_nonneg _) (Int.natCast_nonneg _) h6
  obtain ⟨h9, h10⟩ := chgs_pf (by omega) ha.chg hb.chg h8
  exact ⟨by cases a; cases b; simp at h3 h5 h9; rw [h3, h5, h9], h10⟩
theorem head_pf {a b : Head} {r s : List Bool} (wa : a.wf) (wb : b.wf) (ha : checkH a = 0) (hb : checkH b = 0) (h : encHead a ++ r = encHead b ++ s) : a = b ∧ r = s := by
  have chk : ∀ {h : Head}, checkH h = 0 → 1 ≤ h.kind ∧ h.kind ≤ 5 ∧ h.client < 16 ∧ h.epoch ≠ 0 ∧ (3 < h.kind → h.tick = 0) ∧ (h.kind ≠ 2 → h.base = 0) ∧ (h.kind = 2 → h.base < h.tick) := by
    intro h hc
    unfold checkH at hc
    by_cases h1 : h.kind < 1 ∨ 5 < h.kind ∨ 16 ≤ h.client
    · rw [if_pos h1] at hc; exact absurd hc (by decide)
    · rw [if_neg h1] at hc
      by_cases h2 : h.epoch = 0 ∨ (3 < h.kind ∧ h.tick ≠ 0) ∨ (h.kind ≠ 2 ∧ h.base ≠ 0) ∨ (h.kind = 2 ∧ h.tick ≤ h.base)
      · rw [if_pos h2] at hc; exact absurd hc (by decide)
      · refine ⟨by omega, by omega, by omega, fun g => h2 (Or.inl g), fun g => ?_, fun g => ?_, fun g => ?_⟩
        · by_cases h3 : h.tick = 0
          · exact h3
          · exact absurd (Or.inr (Or.inl ⟨g, h3⟩)) h2
        · by_cases h3 : h.base = 0
          · exact h3
          · exact absurd (Or.inr (Or.inr (Or.inl ⟨g, h3⟩))) h2
        · by_cases h3 : h.base < h.tick
          · exact h3
          · exact absurd (Or.inr (Or.inr (Or.inr ⟨g, by omega⟩))) h2
  obtain ⟨a1, a2, a3, a4, a5, a6, a7⟩ := chk ha
  obtain ⟨b1, b2, b3, b4, b5, b6, b7⟩ := chk hb
  have wa' := wa
  have wb' := wb
  obtain ⟨_, _, ac0, ac1, ae0, ae1, at0, at1, ab0, ab1⟩ := wa
  obtain ⟨_, _, bc0, bc1, be0, be1, bt0, bt1, bb0, bb1⟩ := wb
  simp only [encHead, List.append_assoc] at h
  obtain ⟨h1, h2⟩ := bits_pf (n := 3) (by omega) (by omega) h
  obtain ⟨h3, h4⟩ := bits_pf (n := 4) (by omega) (by omega) h2
  obtain ⟨h5, h6⟩ := var_pf ae0 be0 h4
  have hk : a.kind = b.kind := by omega
  have fin : a.tick = b.tick → a.base = b.base → a = b := by
    intro ht hbb
    cases a; cases b; simp at hk ht hbb h3 h5 ac0 bc0
    simp only [Head.mk.injEq]; omega
  rw [← hk] at h6
  by_cases k3 : a.kind ≤ 3
  · rw [if_pos k3, if_pos k3] at h6
    have c32 : (2 : Nat) ^ 32 = 4294967296 := by decide
    obtain ⟨h7, h8⟩ := bits_pf (n := 32) (by omega) (by omega) h6
    by_cases k2 : a.kind = 2
    · rw [if_pos k2, if_pos k2] at h8
      obtain ⟨h9, h10⟩ := var_pf (by omega) (by omega) h8
      have := a7 k2
      have := b7 (by omega)
      exact ⟨fin (by omega) (by omega), h10⟩
    · rw [if_neg k2, if_neg k2] at h8
      exact ⟨fin (by omega) (by rw [a6 k2, b6 (by omega)]), h8⟩
  · rw [if_neg k3, if_neg k3, if_neg (by omega), if_neg (by omega)] at h6
    exact ⟨fin (by rw [a5 (by omega), b5 (by omega)]) (by rw [a6 (by omega), b6 (by omega)]), h6⟩
end Go.Proofs.Ytbklglckmhfmcaa
