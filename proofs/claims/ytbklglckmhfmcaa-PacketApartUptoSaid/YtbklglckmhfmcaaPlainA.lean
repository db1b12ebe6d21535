/- Snapshots and masks, plain: rising lists, the kinds of a mask, what a change says. No program in sight. -/
import Derived.Test.YtbklglckmhfmcaaSeal
import Derived.Laws.BitsAllLaws
set_option linter.unusedVariables false
set_option linter.unusedSimpArgs false
namespace Go.Proofs.Ytbklglckmhfmcaa
open Go.RowKit

/-! ### Rising lists -/
theorem rise_ext {α : Type} (f : α → Int) : ∀ {a b : List α}, a.Pairwise (fun x y => f x < f y) → b.Pairwise (fun x y => f x < f y) → (∀ x, x ∈ a ↔ x ∈ b) → a = b
  | [], b, _, _, h => by
    cases b with
    | nil => rfl
    | cons y t => exact absurd ((h y).2 (List.mem_cons_self)) (by simp)
  | x :: r, b, ha, hb, h => by
    cases b with
    | nil => exact absurd ((h x).1 (List.mem_cons_self)) (by simp)
    | cons y t =>
      obtain ⟨hx, hr⟩ := List.pairwise_cons.1 ha
      obtain ⟨hy, ht⟩ := List.pairwise_cons.1 hb
      have hxy : x = y := by
        rcases List.mem_cons.1 ((h x).1 List.mem_cons_self) with e | e
        · exact e
        · rcases List.mem_cons.1 ((h y).2 List.mem_cons_self) with e' | e'
          · exact e'.symm
          · have := hx y e'; have := hy x e; omega
      subst hxy
      have : r = t := rise_ext f hr ht fun z => by
        constructor
        · intro hz
          rcases List.mem_cons.1 ((h z).1 (List.mem_cons_of_mem _ hz)) with e | e
          · subst e; have := hx z hz; omega
          · exact e
        · intro hz
          rcases List.mem_cons.1 ((h z).2 (List.mem_cons_of_mem _ hz)) with e | e
          · subst e; have := hy z hz; omega
          · exact e
      rw [this]
theorem rise_inj {α : Type} (f : α → Int) {a : List α} (ha : a.Pairwise (fun x y => f x < f y)) {x y : α} (hx : x ∈ a) (hy : y ∈ a) (h : f x = f y) : x = y := by
  induction a with
  | nil => simp at hx
  | cons z r ih =>
    obtain ⟨hz, hr⟩ := List.pairwise_cons.1 ha
    rcases List.mem_cons.1 hx with e | e <;> rcases List.mem_cons.1 hy with e' | e'
    · rw [e, e']
    · subst e; have := hz y e'; omega
    · subst e'; have := hz x e; omega
    · exact ih hr e e'

/-! ### Right lists of components -/
structure GoodC (l : List Comp) : Prop where
  rise : l.Pairwise (fun x y => x.k < y.k)
  ok : ∀ c ∈ l, checkE c = 0
theorem kind_in {c : Comp} (h : checkE c = 0) : 0 ≤ c.k ∧ c.k ≤ 5 := by
  have := (checkE_zero h).1
  unfold cnt at this
  by_cases h1 : 0 ≤ c.k ∧ c.k ≤ 5
  · exact h1
  · exfalso; apply this; repeat (first | omega | split)
theorem goodC_from {l : List Comp} : ∀ {p : Int}, lfrom p l = 0 → (∀ c ∈ l, p < c.k) ∧ GoodC l := by
  induction l with
  | nil => intro p _; exact ⟨by simp, List.Pairwise.nil, by simp⟩
  | cons c r ih =>
    intro p h
    rw [lfrom] at h
    by_cases h1 : checkE c ≠ 0
    · rw [if_pos h1] at h; exact absurd h h1
    · rw [if_neg h1] at h
      by_cases h2 : c.k ≤ p
      · rw [if_pos h2] at h; exact absurd h (by decide)
      · rw [if_neg h2] at h
        obtain ⟨g1, g2, g3⟩ := ih h
        refine ⟨fun x hx => ?_, List.pairwise_cons.2 ⟨fun x hx => g1 x hx, g2⟩, fun x hx => ?_⟩
        · rcases List.mem_cons.1 hx with rfl | hx
          · omega
          · have := g1 x hx; omega
        · rcases List.mem_cons.1 hx with rfl | hx
          · simpa using h1
          · exact g3 x hx
theorem goodC_of {l : List Comp} (h : listE l = 0) : GoodC l := (goodC_from h).2
theorem GoodC.filter {l : List Comp} (h : GoodC l) (p : Comp → Bool) : GoodC (l.filter p) :=
  ⟨h.rise.filter p, fun c hc => h.ok c (List.mem_filter.1 hc).1⟩
theorem GoodC.inj {l : List Comp} (h : GoodC l) {x y : Comp} (hx : x ∈ l) (hy : y ∈ l) (hk : x.k = y.k) : x = y := rise_inj Comp.k h.rise hx hy hk
theorem GoodC.find {l : List Comp} (h : GoodC l) {x : Comp} (hx : x ∈ l) : findC l x.k = some x := by
  unfold findC
  cases hf : l.find? (fun c => decide (c.k = x.k)) with
  | none => have := List.find?_eq_none.1 hf x hx; simp at this
  | some y =>
    have h1 := List.find?_some hf
    have h2 := List.mem_of_find?_eq_some hf
    rw [h.inj h2 hx (by simpa using h1)]
theorem find_none {l : List Comp} {k : Int} : findC l k = none ↔ ∀ c ∈ l, c.k ≠ k := by
  unfold findC; rw [List.find?_eq_none]; simp
theorem find_mem {l : List Comp} {k : Int} {c : Comp} (h : findC l k = some c) : c ∈ l ∧ c.k = k :=
  ⟨List.mem_of_find?_eq_some h, by simpa using List.find?_some h⟩

/-! ### Right lists of entities -/
structure GoodE (l : List Ent) : Prop where
  rise : l.Pairwise (fun x y => x.id < y.id)
  pos : ∀ e ∈ l, 0 < e.id
  comps : ∀ e ∈ l, GoodC e.comps
  told : ∀ e ∈ l, ∀ c ∈ e.comps, c.k < 5
theorem goodE_from {l : List Ent} : ∀ {last : Int}, 0 ≤ last → formFrom last l = 0 → (∀ e ∈ l, last < e.id) ∧ GoodE l := by
  induction l with
  | nil => intro last _ _; exact ⟨by simp, List.Pairwise.nil, by simp, by simp, by simp⟩
  | cons e r ih =>
    intro last hl h
    rw [formFrom] at h
    by_cases h1 : e.id ≤ last
    · rw [if_pos h1] at h; exact absurd h (by decide)
    · rw [if_neg h1] at h
      by_cases h2 : oneE e ≠ 0
      · rw [if_pos h2] at h; exact absurd h h2
      · rw [if_neg h2] at h
        by_cases h3 : secretAny e.comps = true
        · rw [if_pos h3] at h; exact absurd h (by decide)
        · rw [if_neg h3] at h
          obtain ⟨g1, g2, g3, g4, g5⟩ := ih (by omega) h
          have hlist : listE e.comps = 0 := by
            have h4 : oneE e = 0 := by simpa using h2
            unfold oneE at h4; split at h4
            · omega
            · exact h4
          have htold : ∀ c ∈ e.comps, c.k < 5 := by
            intro c hc
            have h5 : secretAny e.comps = false := by simpa using h3
            unfold secretAny at h5; rw [List.any_eq_false] at h5
            have := h5 c hc
            simpa [Proofs.Ytbklglckmhfmcaa.told] using this
          refine ⟨fun x hx => ?_, List.pairwise_cons.2 ⟨fun x hx => g1 x hx, g2⟩, fun x hx => ?_, fun x hx => ?_, fun x hx => ?_⟩
          · rcases List.mem_cons.1 hx with rfl | hx
            · omega
            · have := g1 x hx; omega
          · rcases List.mem_cons.1 hx with rfl | hx
            · omega
            · exact g3 x hx
          · rcases List.mem_cons.1 hx with rfl | hx
            · exact goodC_of hlist
            · exact g4 x hx
          · rcases List.mem_cons.1 hx with rfl | hx
            · exact htold
            · exact g5 x hx
theorem goodE_of {l : List Ent} (h : formE l = 0) : GoodE l := (goodE_from (Int.le_refl 0) h).2

/-! ### Masks -/
theorem mbit_test {c : Comp} (h0 : 0 ≤ c.k) (k : Nat) (hk : k < 6) : (mbit c).testBit k = decide (c.k = k) := by
  unfold mbit
  by_cases h : c.k < 6
  · rw [if_pos h, Nat.testBit_two_pow]
    by_cases h1 : c.k = k
    · rw [decide_eq_true h1, decide_eq_true (by omega)]
    · rw [decide_eq_false h1, decide_eq_false (by omega)]
  · rw [if_neg h, decide_eq_false (by omega)]; simp
theorem foldl_mask_test (l : List Comp) (m : Nat) (k : Nat) : (l.foldl (fun m c => m ||| mbit c) m).testBit k = (m.testBit k || l.any fun c => (mbit c).testBit k) := by
  induction l generalizing m with
  | nil => simp
  | cons c r ih => rw [List.foldl_cons, ih, Nat.testBit_or, List.any_cons, Bool.or_assoc]
theorem mask_test {l : List Comp} (h : ∀ c ∈ l, 0 ≤ c.k) (k : Nat) (hk : k < 6) : (maskN l).testBit k = true ↔ ∃ c ∈ l, c.k = k := by
  rw [maskN, foldl_mask_test, Nat.zero_testBit, Bool.false_or, List.any_eq_true]
  constructor
  · rintro ⟨c, hc, h1⟩
    rw [mbit_test (h c hc) k hk] at h1
    exact ⟨c, hc, by simpa using h1⟩
  · rintro ⟨c, hc, h1⟩
    exact ⟨c, hc, by rw [mbit_test (h c hc) k hk]; simpa using h1⟩
theorem GoodC.nn {l : List Comp} (h : GoodC l) : ∀ c ∈ l, 0 ≤ c.k := fun c hc => (kind_in (h.ok c hc)).1
theorem lost_test (was now : List Comp) (k : Nat) (hk : k < 8) : (lostOf was now).toNat.testBit k = ((maskN was).testBit k && !(maskN now).testBit k) := by
  have h1 := maskN_lt was
  have h2 := maskN_lt now
  unfold lostOf
  rw [u8_andNot_nat _ _ (by omega) (by omega), Int.toNat_natCast, Nat.testBit_and]
  rw [show 255 - maskN now = 2 ^ 8 - (maskN now + 1) by omega, Nat.testBit_two_pow_sub_succ (by omega)]
  simp [hk]

/-! ### What a change says -/
theorem mem_new {was l : List Comp} {x : Comp} : x ∈ newOf was l ↔ x ∈ l ∧ findC was x.k = none := by
  unfold newOf; rw [List.mem_filter]; simp
theorem mem_set {was l : List Comp} {x : Comp} : x ∈ setOf was l ↔ x ∈ l ∧ ∃ y, findC was x.k = some y ∧ y ≠ x := by
  unfold setOf; rw [List.mem_filter]
  constructor
  · rintro ⟨h1, h2⟩
    cases h : findC was x.k with
    | none => simp [h] at h2
    | some y => simp [h] at h2; exact ⟨h1, y, rfl, h2⟩
  · rintro ⟨h1, y, h2, h3⟩
    exact ⟨h1, by simp [h2, h3]⟩
/-- The components behind a change, by the change and what was. -/
theorem change_mem {a e : Ent} (ha : GoodC a.comps) (he : GoodC e.comps) (x : Comp) :
    x ∈ e.comps ↔ x ∈ (changeOf a e).new ∨ x ∈ (changeOf a e).set ∨ (x ∈ a.comps ∧ (changeOf a e).lost.toNat.testBit x.k.toNat = false ∧ ∀ y ∈ (changeOf a e).set, y.k ≠ x.k) := by
  have hlost : ∀ {x : Comp}, x ∈ a.comps → ((changeOf a e).lost.toNat.testBit x.k.toNat = false ↔ ∃ y ∈ e.comps, y.k = x.k) := by
    intro x hx
    have hk := kind_in (ha.ok x hx)
    show (lostOf a.comps e.comps).toNat.testBit x.k.toNat = false ↔ _
    rw [lost_test _ _ _ (by omega)]
    have h1 := (mask_test ha.nn x.k.toNat (by omega)).2 ⟨x, hx, by omega⟩
    rw [h1, Bool.true_and]
    have h2 := mask_test he.nn x.k.toNat (by omega)
    constructor
    · intro h
      have h3 : (maskN e.comps).testBit x.k.toNat = true := by simpa using h
      obtain ⟨y, hy, hyk⟩ := h2.1 h3
      exact ⟨y, hy, by omega⟩
    · rintro ⟨y, hy, hyk⟩
      have := h2.2 ⟨y, hy, by omega⟩
      simp [this]
  show x ∈ e.comps ↔ x ∈ newOf a.comps e.comps ∨ x ∈ setOf a.comps e.comps ∨ _
  constructor
  · intro hx
    cases h : findC a.comps x.k with
    | none => exact Or.inl (mem_new.2 ⟨hx, h⟩)
    | some y =>
      by_cases hy : y = x
      · subst hy
        have hya := (find_mem h).1
        refine Or.inr (Or.inr ⟨hya, (hlost hya).2 ⟨y, hx, rfl⟩, fun z hz hzk => ?_⟩)
        obtain ⟨hz1, u, hu, hne⟩ := mem_set.1 hz
        have := he.inj hz1 hx hzk
        subst this
        rw [h] at hu; simp at hu; exact hne hu.symm
      · exact Or.inr (Or.inl (mem_set.2 ⟨hx, y, h, hy⟩))
  · rintro (h | h | ⟨h1, h2, h3⟩)
    · exact (mem_new.1 h).1
    · exact (mem_set.1 h).1
    · obtain ⟨y, hy, hyk⟩ := (hlost h1).1 h2
      by_cases hyx : y = x
      · subst hyx; exact hy
      · have hf : findC a.comps y.k = some x := by rw [hyk]; exact ha.find h1
        exact absurd hyk (h3 y (mem_set.2 ⟨hy, x, hf, fun h => hyx h.symm⟩))
theorem change_inj {a e b : Ent} (ha : GoodC a.comps) (he : GoodC e.comps) (hb : GoodC b.comps) (h : changeOf a e = changeOf a b) : e = b := by
  have hid : e.id = b.id := congrArg Change.id h
  have hc : e.comps = b.comps := rise_ext Comp.k he.rise hb.rise fun x => by rw [change_mem ha he, change_mem ha hb, h]
  cases e; cases b; simp at hid hc; rw [hid, hc]
theorem nothing_eq {a e : Ent} (ha : GoodC a.comps) (he : GoodC e.comps) (h : (changeOf a e).nothing = true) : e.comps = a.comps := by
  unfold Change.nothing at h
  simp only [Bool.and_eq_true, beq_iff_eq, List.isEmpty_iff] at h
  obtain ⟨h1, h2, h3⟩ := h
  refine rise_ext Comp.k he.rise ha.rise fun x => ?_
  rw [change_mem ha he, h2, h3, h1]
  simp
theorem change_self {a : Ent} (ha : GoodC a.comps) : (changeOf a a).nothing = true := by
  have h1 : lostOf a.comps a.comps = 0 := by
    have := maskN_lt a.comps
    unfold lostOf
    rw [u8_andNot_nat _ _ (by omega) (by omega)]
    have : maskN a.comps &&& (255 - maskN a.comps) = 0 := by
      apply Nat.eq_of_testBit_eq
      intro i
      rw [Nat.testBit_and, show 255 - maskN a.comps = 2 ^ 8 - (maskN a.comps + 1) by omega, Nat.testBit_two_pow_sub_succ (by omega), Nat.zero_testBit]
      cases (maskN a.comps).testBit i <;> simp
    rw [this]; rfl
  have h2 : newOf a.comps a.comps = [] := by
    rw [List.eq_nil_iff_forall_not_mem]
    intro x hx
    obtain ⟨h3, h4⟩ := mem_new.1 hx
    rw [ha.find h3] at h4; simp at h4
  have h3 : setOf a.comps a.comps = [] := by
    rw [List.eq_nil_iff_forall_not_mem]
    intro x hx
    obtain ⟨h4, y, h5, h6⟩ := mem_set.1 hx
    rw [ha.find h4] at h5; simp at h5; exact h6 h5.symm
  unfold Change.nothing changeOf
  simp [h1, h2, h3]

/-! ### What a delta says -/
structure DiffSays (was now : List Ent) (d : Delta) : Prop where
  gone : ∀ i, i ∈ d.gone ↔ ∃ a ∈ was, a.id = i ∧ ∀ b ∈ now, b.id ≠ i
  come : ∀ b, b ∈ d.come ↔ b ∈ now ∧ ∀ a ∈ was, a.id ≠ b.id
  chg : ∀ c, c ∈ d.chg ↔ ∃ a ∈ was, ∃ b ∈ now, a.id = b.id ∧ c = changeOf a b ∧ (changeOf a b).nothing = false
theorem diff_says : ∀ (was now : List Ent), was.Pairwise (fun x y => x.id < y.id) → now.Pairwise (fun x y => x.id < y.id) → DiffSays was now (diffL was now)
  | [], [], _, _ => by rw [diffL]; exact ⟨by simp [Delta.nil], by simp [Delta.nil], by simp [Delta.nil]⟩
  | a :: was, [], ha, hn => by
    obtain ⟨h1, h2⟩ := List.pairwise_cons.1 ha
    have ih := diff_says was [] h2 hn
    rw [diffL]
    refine ⟨fun i => ?_, fun b => ?_, fun c => ?_⟩
    · simp only [Delta.app, List.mem_append, ih.gone]; simp [eq_comm]
    · simp only [Delta.app, List.mem_append, ih.come]; simp
    · simp only [Delta.app, List.mem_append, ih.chg]; simp
  | [], b :: now, ha, hn => by
    obtain ⟨h1, h2⟩ := List.pairwise_cons.1 hn
    have ih := diff_says [] now ha h2
    rw [diffL]
    refine ⟨fun i => ?_, fun e => ?_, fun c => ?_⟩
    · simp only [Delta.app, List.mem_append, ih.gone]; simp
    · simp only [Delta.app, List.mem_append, ih.come]; simp
    · simp only [Delta.app, List.mem_append, ih.chg]; simp
  | a :: was, b :: now, ha, hn => by
    obtain ⟨h1, h2⟩ := List.pairwise_cons.1 ha
    obtain ⟨g1, g2⟩ := List.pairwise_cons.1 hn
    rw [diffL]
    by_cases hlt : a.id < b.id
    · rw [if_pos hlt]
      have ih := diff_says was (b :: now) h2 hn
      have hab : ∀ e ∈ b :: now, a.id < e.id := by
        intro e he; rcases List.mem_cons.1 he with rfl | he
        · exact hlt
        · have := g1 e he; omega
      refine ⟨fun i => ?_, fun e => ?_, fun c => ?_⟩
      · simp only [Delta.app, List.mem_append, ih.gone, List.mem_singleton]
        constructor
        · rintro (rfl | ⟨x, hx, h3, h4⟩)
          · exact ⟨a, List.mem_cons_self, rfl, fun e he => by have := hab e he; omega⟩
          · exact ⟨x, List.mem_cons_of_mem _ hx, h3, h4⟩
        · rintro ⟨x, hx, h3, h4⟩
          rcases List.mem_cons.1 hx with rfl | hx
          · exact Or.inl h3.symm
          · exact Or.inr ⟨x, hx, h3, h4⟩
      · simp only [Delta.app, List.mem_append, ih.come, List.not_mem_nil, false_or]
        constructor
        · rintro ⟨h3, h4⟩
          refine ⟨h3, fun x hx => ?_⟩
          rcases List.mem_cons.1 hx with rfl | hx
          · have := hab e h3; omega
          · exact h4 x hx
        · rintro ⟨h3, h4⟩
          exact ⟨h3, fun x hx => h4 x (List.mem_cons_of_mem _ hx)⟩
      · simp only [Delta.app, List.mem_append, ih.chg, List.not_mem_nil, false_or]
        constructor
        · rintro ⟨x, hx, h3⟩
          exact ⟨x, List.mem_cons_of_mem _ hx, h3⟩
        · rintro ⟨x, hx, e, he, h3, h4⟩
          rcases List.mem_cons.1 hx with rfl | hx
          · have := hab e he; omega
          · exact ⟨x, hx, e, he, h3, h4⟩
    · rw [if_neg hlt]
      by_cases hgt : b.id < a.id
      · rw [if_pos hgt]
        have ih := diff_says (a :: was) now ha g2
        have hab : ∀ e ∈ a :: was, b.id < e.id := by
          intro e he; rcases List.mem_cons.1 he with rfl | he
          · exact hgt
          · have := h1 e he; omega
        refine ⟨fun i => ?_, fun e => ?_, fun c => ?_⟩
        · simp only [Delta.app, List.mem_append, ih.gone, List.not_mem_nil, false_or]
          constructor
          · rintro ⟨x, hx, h3, h4⟩
            refine ⟨x, hx, h3, fun e he => ?_⟩
            rcases List.mem_cons.1 he with rfl | he
            · have := hab x hx; omega
            · exact h4 e he
          · rintro ⟨x, hx, h3, h4⟩
            exact ⟨x, hx, h3, fun e he => h4 e (List.mem_cons_of_mem _ he)⟩
        · simp only [Delta.app, List.mem_append, ih.come, List.mem_singleton]
          constructor
          · rintro (rfl | ⟨h3, h4⟩)
            · exact ⟨List.mem_cons_self, fun x hx => by have := hab x hx; omega⟩
            · exact ⟨List.mem_cons_of_mem _ h3, h4⟩
          · rintro ⟨h3, h4⟩
            rcases List.mem_cons.1 h3 with rfl | h3
            · exact Or.inl rfl
            · exact Or.inr ⟨h3, h4⟩
        · simp only [Delta.app, List.mem_append, ih.chg, List.not_mem_nil, false_or]
          constructor
          · rintro ⟨x, hx, e, he, h3⟩
            exact ⟨x, hx, e, List.mem_cons_of_mem _ he, h3⟩
          · rintro ⟨x, hx, e, he, h3, h4⟩
            rcases List.mem_cons.1 he with rfl | he
            · have := hab x hx; omega
            · exact ⟨x, hx, e, he, h3, h4⟩
      · rw [if_neg hgt]
        have ih := diff_says was now h2 g2
        have hid : a.id = b.id := by omega
        have hg : ∀ i, i ∈ (chgOf a b).gone ↔ False := fun i => by unfold chgOf; split <;> simp [Delta.nil]
        have hc : ∀ i, i ∈ (chgOf a b).come ↔ False := fun i => by unfold chgOf; split <;> simp [Delta.nil]
        have hh : ∀ c, c ∈ (chgOf a b).chg ↔ c = changeOf a b ∧ (changeOf a b).nothing = false := fun c => by
          unfold chgOf; split
          · rename_i h; simp [Delta.nil, h]
          · rename_i h; simp [h]
        refine ⟨fun i => ?_, fun e => ?_, fun c => ?_⟩
        · simp only [Delta.app, List.mem_append, ih.gone, hg, false_or]
          constructor
          · rintro ⟨x, hx, h3, h4⟩
            refine ⟨x, List.mem_cons_of_mem _ hx, h3, fun e he => ?_⟩
            rcases List.mem_cons.1 he with rfl | he
            · have := h1 x hx; omega
            · exact h4 e he
          · rintro ⟨x, hx, h3, h4⟩
            rcases List.mem_cons.1 hx with rfl | hx
            · exact absurd hid.symm (by rw [h3]; exact h4 b List.mem_cons_self)
            · exact ⟨x, hx, h3, fun e he => h4 e (List.mem_cons_of_mem _ he)⟩
        · simp only [Delta.app, List.mem_append, ih.come, hc, false_or]
          constructor
          · rintro ⟨h3, h4⟩
            refine ⟨List.mem_cons_of_mem _ h3, fun x hx => ?_⟩
            rcases List.mem_cons.1 hx with rfl | hx
            · have := g1 e h3; omega
            · exact h4 x hx
          · rintro ⟨h3, h4⟩
            rcases List.mem_cons.1 h3 with rfl | h3
            · exact absurd hid (h4 a List.mem_cons_self)
            · exact ⟨h3, fun x hx => h4 x (List.mem_cons_of_mem _ hx)⟩
        · simp only [Delta.app, List.mem_append, ih.chg, hh]
          constructor
          · rintro (⟨h3, h4⟩ | ⟨x, hx, e, he, h3⟩)
            · exact ⟨a, List.mem_cons_self, b, List.mem_cons_self, hid, h3, h4⟩
            · exact ⟨x, List.mem_cons_of_mem _ hx, e, List.mem_cons_of_mem _ he, h3⟩
          · rintro ⟨x, hx, e, he, h3, h4⟩
            rcases List.mem_cons.1 hx with rfl | hx <;> rcases List.mem_cons.1 he with rfl | he
            · exact Or.inl h4
            · have := g1 e he; omega
            · have := h1 x hx; omega
            · exact Or.inr ⟨x, hx, e, he, h3, h4⟩
termination_by a b => a.length + b.length
theorem diff_sub {was x y : List Ent} (hw : GoodE was) (hx : GoodE x) (hy : GoodE y) (h : diffL was x = diffL was y) {e : Ent} (he : e ∈ x) : e ∈ y := by
  have sx := diff_says was x hw.rise hx.rise
  have sy := diff_says was y hw.rise hy.rise
  by_cases h1 : ∃ a ∈ was, a.id = e.id
  · obtain ⟨a, ha, hid⟩ := h1
    have hga := hw.comps a ha
    have hge := hx.comps e he
    have hng : a.id ∉ (diffL was y).gone := by
      rw [← h]
      intro hg
      obtain ⟨_, _, _, h3⟩ := (sx.gone _).1 hg
      exact h3 e he hid.symm
    have hb : ∃ b ∈ y, b.id = a.id := by
      by_cases h2 : ∃ b ∈ y, b.id = a.id
      · exact h2
      · exact absurd ((sy.gone a.id).2 ⟨a, ha, rfl, fun b hb hbi => h2 ⟨b, hb, hbi⟩⟩) hng
    obtain ⟨b, hb, hbid⟩ := hb
    have hgb := hy.comps b hb
    cases hn : (changeOf a e).nothing with
    | true =>
      cases hm : (changeOf a b).nothing with
      | true =>
        have e1 := nothing_eq hga hge hn
        have e2 := nothing_eq hga hgb hm
        have : e = b := by cases e; cases b; simp at e1 e2 hid hbid; simp [e1, e2]; omega
        rw [this]; exact hb
      | false =>
        have hin : changeOf a b ∈ (diffL was x).chg := by rw [h]; exact (sy.chg _).2 ⟨a, ha, b, hb, hbid.symm, rfl, hm⟩
        obtain ⟨a', ha', e', he', h3, h4, h5⟩ := (sx.chg _).1 hin
        have hid2 : b.id = e'.id := congrArg Change.id h4
        have ea : a' = a := rise_inj Ent.id hw.rise ha' ha (by omega)
        have ee : e' = e := rise_inj Ent.id hx.rise he' he (by omega)
        subst ea; subst ee
        rw [hn] at h5; simp at h5
    | false =>
      have hin : changeOf a e ∈ (diffL was y).chg := by rw [← h]; exact (sx.chg _).2 ⟨a, ha, e, he, hid, rfl, hn⟩
      obtain ⟨a', ha', b', hb', h3, h4, h5⟩ := (sy.chg _).1 hin
      have hid2 : e.id = b'.id := congrArg Change.id h4
      have ea : a' = a := rise_inj Ent.id hw.rise ha' ha (by omega)
      subst ea
      have := change_inj hga hge (hy.comps b' hb') h4
      rw [this]; exact hb'
  · have : e ∈ (diffL was y).come := by
      rw [← h]
      exact (sx.come e).2 ⟨he, fun a ha hid => h1 ⟨a, ha, hid⟩⟩
    exact ((sy.come e).1 this).1
theorem diff_inj {was x y : List Ent} (hw : GoodE was) (hx : GoodE x) (hy : GoodE y) (h : diffL was x = diffL was y) : x = y :=
  rise_ext Ent.id hx.rise hy.rise fun e => ⟨diff_sub hw hx hy h, diff_sub hw hy hx h.symm⟩
theorem diff_self {l : List Ent} (h : ∀ e ∈ l, GoodC e.comps) : diffL l l = Delta.nil := by
  induction l with
  | nil => rw [diffL]
  | cons a r ih =>
    rw [diffL, if_neg (by omega), if_neg (by omega), ih (fun e he => h e (List.mem_cons_of_mem _ he)), chgOf, change_self (h a List.mem_cons_self), if_pos rfl]
    rfl
end Go.Proofs.Ytbklglckmhfmcaa
