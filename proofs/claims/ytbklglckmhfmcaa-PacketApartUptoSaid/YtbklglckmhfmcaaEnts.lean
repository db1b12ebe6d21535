/- Entities: slices of them that are read; cmp.Compare at IDs, snap.Find. -/
import Derived.Test.YtbklglckmhfmcaaComps
import Derived.Test.YtbklglckmhfmcaaOwn
set_option linter.unusedVariables false
set_option linter.unusedSimpArgs false
namespace Go.Proofs.Ytbklglckmhfmcaa
open Go.RowKit
set_option maxRecDepth 100000

/-- An entity. -/
structure Ent where
  id : Int
  comps : List Comp
  deriving DecidableEq
structure Ent.wf (e : Ent) : Prop where
  id0 : 0 ≤ e.id
  id1 : e.id ≤ 4294967295
/-- The cells of entities whose components lie at hs. -/
def ecells (l : List (Int × Value)) : List Value := l.flatMap fun p => [.int .u32 p.1, p.2]
/-- v is a slice of entities that reads as l. -/
structure RE (Z : Nat → Prop) (w : World) (v : Value) (l : List Ent) : Prop where
  out : ∃ hs : List Value, hs.length = l.length ∧ Sl Z w 2 v l.length (ecells ((l.map Ent.id).zip hs)) ∧ ∀ (i : Nat) (e : Ent) (h : Value), l[i]? = some e → hs[i]? = some h → RC Z w h e.comps
  wf : ∀ e ∈ l, e.wf
theorem RE.stp {Z Z' : Nat → Prop} {w w' : World} {v : Value} {l : List Ent} (h : RE Z w v l) (hs : Stp Z w Z' w') : RE Z' w' v l := by
  obtain ⟨hl, h1, h2, h3⟩ := h.out
  exact ⟨⟨hl, h1, h2.stp hs, fun i e x he hx => (h3 i e x he hx).stp hs⟩, h.wf⟩
theorem RE.below {Z : Nat → Prop} {w w' : World} {v : Value} {l : List Ent} (h : RE Z w v l) (hs : Below w.heap.size w w') : RE Z w' v l := h.stp (.of_below hs)
theorem RE.anti {Z Y : Nat → Prop} {w : World} {v : Value} {l : List Ent} (h : RE Z w v l) (hz : ∀ k, k < w.heap.size → Y k → Z k) : RE Y w v l := by
  obtain ⟨hl, h1, h2, h3⟩ := h.out
  exact ⟨⟨hl, h1, h2.anti hz, fun i e x he hx => (h3 i e x he hx).anti hz⟩, h.wf⟩
theorem RE.form {Z : Nat → Prop} {w : World} {v : Value} {l : List Ent} (h : RE Z w v l) : ∃ A cap, v = .slice A l.length cap ∧ l.length ≤ cap ∧ cap ≤ 9223372036854775807 := by
  obtain ⟨hl, _, ⟨A, cap, h1, _, h2, h3, _⟩, _⟩ := h.out
  exact ⟨A, cap, h1, h2, h3⟩
theorem RE.at {Z : Nat → Prop} {w : World} {A : Option Addr} {n cap : Nat} {l : List Ent} (h : RE Z w (.slice A n cap) l) {i : Nat} {e : Ent} (hi : l[i]? = some e) :
    ∃ b o hv, A = some ⟨b, o, none⟩ ∧ ¬ Z b ∧ b < w.heap.size ∧ e.wf ∧ RC Z w hv e.comps ∧ w.cell? ⟨b, o + i * 2, none⟩ = some (.int .u32 e.id) ∧ w.cell? ⟨b, o + i * 2 + 1, none⟩ = some hv := by
  obtain ⟨hs, hl, ⟨A', cap', h1, h2, h3, h4, h5⟩, h6⟩ := h.out
  simp only [Value.slice.injEq] at h1
  obtain ⟨rfl, rfl, rfl⟩ := h1
  have hlt : i < l.length := (List.getElem?_eq_some_iff.1 hi).1
  obtain ⟨b, o, rfl, hz, hbl, hc⟩ := h5 (by omega)
  obtain ⟨hv, hhv⟩ : ∃ hv, hs[i]? = some hv := ⟨_, List.getElem?_eq_getElem (by omega)⟩
  have hzip : ((l.map Ent.id).zip hs)[i]? = some (e.id, hv) := by
    rw [List.getElem?_zip_eq_some]; exact ⟨by rw [List.getElem?_map, hi]; rfl, hhv⟩
  have hg := fun j (hj : j < 2) => flat_get (fun p : Int × Value => [.int .u32 p.1, p.2]) 2 (fun _ => rfl) _ i j _ hzip hj
  refine ⟨b, o, hv, rfl, hz, hbl, h.wf e (List.mem_of_getElem? hi), h6 i e hv hi hhv, ?_, ?_⟩
  · have := hc _ _ (hg 0 (by omega)); simpa using this
  · have := hc _ _ (hg 1 (by omega)); simpa [Nat.add_assoc] using this

/-- cmp.Compare. -/
def cmpI (x y : Int) : Int := if x < y then -1 else if y < x then 1 else 0
set_option maxHeartbeats 1000000 in
theorem compareID_any (x y : Int) (w : World) (hx0 : 0 ≤ x) (hx1 : x ≤ 4294967295) (hy0 : 0 ≤ y) (hy1 : y ≤ 4294967295) :
    Calls Try.prog 80 #[.int .u32 x, .int .u32 y] w fun e w' => e = .returned (.int .i64 (cmpI x y)) ∧ w' = w := by
  by_cases h1 : x < y
  · have hc : cmpI x y = -1 := if_pos h1
    have HC := Lib.hid hc
    clear hc
    go_enter Try.func80, Try.ntmps80
    go_wp2
    go_ret
    rw [HC.out]; exact ⟨rfl, rfl⟩
  · by_cases h2 : y < x
    · have hc : cmpI x y = 1 := by unfold cmpI; rw [if_neg h1, if_pos h2]
      have HC := Lib.hid hc
      clear hc
      go_enter Try.func80, Try.ntmps80
      go_wp2
      go_ret
      rw [HC.out]; exact ⟨rfl, rfl⟩
    · have hc : cmpI x y = 0 := by unfold cmpI; rw [if_neg h1, if_neg h2]
      have HC := Lib.hid hc
      clear hc
      go_enter Try.func80, Try.ntmps80
      go_wp2
      go_ret
      rw [HC.out]; exact ⟨rfl, rfl⟩
set_option maxHeartbeats 1000000 in
theorem find1_any (x y : Int) (hv : Value) (w : World) (hx0 : 0 ≤ x) (hx1 : x ≤ 4294967295) (hy0 : 0 ≤ y) (hy1 : y ≤ 4294967295) (hsl : ∃ A n c, hv = .slice A n c) :
    Calls Try.prog 79 #[.agg #[.int .u32 x, hv], .int .u32 y] w fun e w' => e = .returned (.int .i64 (cmpI x y)) ∧ Below w.heap.size w w' := by
  obtain ⟨A, n, c, rfl⟩ := hsl
  go_enter Try.func79, Try.ntmps79
  go_wp2_with fail
  refine (compareID_any x y _ hx0 hx1 hy0 hy1).mono ?_
  rintro e w' ⟨rfl, rfl⟩
  go_wp2_with fail
  go_ret
  exact ⟨rfl, (Below.refl _ _).alloc (Nat.le_refl _) _⟩

/-- Rising IDs. -/
def Rising (l : List Ent) : Prop := ∀ (i j : Nat) (a b : Ent), l[i]? = some a → l[j]? = some b → i < j → a.id < b.id
/-- What a binary search tells. -/
def SearchPost (l : List Ent) (id : Int) (w : World) (e : Ending) (w' : World) : Prop :=
  ∃ (i : Nat) (ok : Bool), e = .returned (.tuple #[.int .i64 i, .bool ok]) ∧ i ≤ l.length ∧ (∀ (j : Nat) (a : Ent), l[j]? = some a → j < i → a.id < id) ∧ (∀ (j : Nat) (a : Ent), l[j]? = some a → i ≤ j → id ≤ a.id) ∧
    (ok = true ↔ ∃ a, l[i]? = some a ∧ a.id = id) ∧ Below w.heap.size w w'
set_option maxHeartbeats 4000000 in
theorem search_any (Z : Nat → Prop) (v : Value) (l : List Ent) (id : Int) (w : World) (h : RE Z w v l) (hl : l.length ≤ 4611686018427387904) (hr : Rising l) (hi0 : 0 ≤ id) (hi1 : id ≤ 4294967295) :
    Calls Try.prog 78 #[v, .int .u32 id, .func (.func 79) #[] #[]] w (SearchPost l id w) := by
  obtain ⟨A, cap, rfl, hcap1, hcap2⟩ := h.form
  have HR := Lib.hid hr
  clear hr
  go_enter Try.func78, Try.ntmps78
  go_wp2_with fail
  go_loopg [9, 10] l.length (fun g s9 s10 wx => ∃ i j : Nat, s9 = .int .i64 i ∧ s10 = .int .i64 j ∧ i ≤ j ∧ j ≤ l.length ∧ g = j - i ∧ Below w.heap.size w wx ∧
    (∀ (t : Nat) (a : Ent), l[t]? = some a → t < i → a.id < id) ∧ (∀ (t : Nat) (a : Ent), l[t]? = some a → j ≤ t → id ≤ a.id))
  case atStart => exact ⟨0, l.length, rfl, rfl, by omega, by omega, by omega, .refl _ _, fun t a ht h0 => by omega, fun t a ht h0 => by have := (List.getElem?_eq_some_iff.1 ht).1; omega⟩
  case round =>
    obtain ⟨i, j, rfl, rfl, hij, hjl, hg, hbw, hlo, hhi⟩ := hrel
    have HBW := Lib.hid hbw
    have HLO := Lib.hid hlo
    have HHI := Lib.hid hhi
    have HG := Lib.hid hg
    clear hlo hhi hg
    by_cases hlt : i < j
    · obtain ⟨m, hm⟩ : ∃ m, m = (i + j) / 2 := ⟨_, rfl⟩
      have hm1 : i ≤ m := by omega
      have hm2 : m < j := by omega
      obtain ⟨a, hai⟩ : ∃ a, l[m]? = some a := ⟨_, List.getElem?_eq_getElem (by omega)⟩
      obtain ⟨b, o, hv, rfl, hz, hbl, hwf, hrc, c0, c1⟩ := (h.below hbw).at hai
      have hmid : ((i : Int) + (j : Int)) / 2 = (m : Int) := by omega
      have HM := Lib.hid hm
      have HA := Lib.hid hai
      have hL : (i : Int) < (j : Int) := by omega
      have hmL : (m : Int) < (l.length : Int) := by omega
      have hw0 := hwf.id0
      have hw1 := hwf.id1
      obtain ⟨A', cap', rfl, _⟩ := hrc.form
      clear hm hai hbw hrc hwf hz
      go_wp2_with fail
      refine (find1_any a.id id _ _ hw0 hw1 hi0 hi1 ⟨_, _, _, rfl⟩).mono ?_
      rintro e w' ⟨rfl, hb⟩
      have HB := Lib.hid hb
      clear hb c0 c1
      by_cases hc : a.id < id
      · have hcm : cmpI a.id id < 0 := by unfold cmpI; rw [if_pos hc]; omega
        have HC := Lib.hid hc
        clear hc
        go_wp2_with fail
        go_roundg (j - (m + 1))
        case measure => have := HG.out; omega
        case rel => exact ⟨m + 1, j, by simp, rfl, by omega, by omega, rfl, HBW.out.trans (HB.out.mono HBW.out.size), fun t x ht h0 => by
          by_cases htm : t = m
          · subst htm; rw [HA.out] at ht; simp at ht; subst ht; exact HC.out
          · have := HR.out t m x a ht HA.out (by omega); have := HC.out; omega, HHI.out⟩
      · have hcm : ¬ cmpI a.id id < 0 := by unfold cmpI; rw [if_neg hc]; split <;> omega
        have HC := Lib.hid hc
        clear hc
        go_wp2_with fail
        go_roundg (m - i)
        case measure => have := HG.out; omega
        case rel => exact ⟨i, m, rfl, rfl, by omega, by omega, rfl, HBW.out.trans (HB.out.mono HBW.out.size), HLO.out, fun t x ht h0 => by
          by_cases htm : t = m
          · subst htm; rw [HA.out] at ht; simp at ht; subst ht; have := HC.out; omega
          · have := HR.out m t a x HA.out ht (by omega); have := HC.out; omega⟩
    · have hij2 : i = j := by omega
      subst hij2
      have hL : ¬ (i : Int) < (i : Int) := by omega
      clear hlt hij
      by_cases hin : i < l.length
      · obtain ⟨a, hai⟩ : ∃ a, l[i]? = some a := ⟨_, List.getElem?_eq_getElem hin⟩
        obtain ⟨b, o, hv, rfl, hz, hbl, hwf, hrc, c0, c1⟩ := (h.below hbw).at hai
        have hmL : (i : Int) < (l.length : Int) := by omega
        have hw0 := hwf.id0
        have hw1 := hwf.id1
        obtain ⟨A', cap', rfl, _⟩ := hrc.form
        have HA := Lib.hid hai
        clear hai hbw hrc hwf hz
        go_wp2_with fail
        refine (find1_any a.id id _ _ hw0 hw1 hi0 hi1 ⟨_, _, _, rfl⟩).mono ?_
        rintro e w' ⟨rfl, hb⟩
        have HB := Lib.hid hb
        clear hb c0 c1
        go_wp2_with fail
        go_ret2
        refine ⟨i, (cmpI a.id id == 0), ?_, by omega, HLO.out, HHI.out, ?_, HBW.out.trans (HB.out.mono HBW.out.size)⟩
        · rfl
        · have hc : (cmpI a.id id == 0) = true ↔ a.id = id := by
            unfold cmpI
            by_cases h1 : a.id < id
            · rw [if_pos h1]; simp; omega
            · rw [if_neg h1]
              by_cases h2 : id < a.id
              · rw [if_pos h2]; simp; omega
              · rw [if_neg h2]; simp; omega
          rw [hc]
          exact ⟨fun h => ⟨a, HA.out, h⟩, fun ⟨x, hx, hxi⟩ => by rw [HA.out] at hx; simp at hx; subst hx; exact hxi⟩
      · have hmL : ¬ (i : Int) < (l.length : Int) := by omega
        have HIN := Lib.hid hin
        clear hin
        go_wp2_with fail
        go_ret2
        exact ⟨i, false, rfl, by omega, HLO.out, HHI.out, ⟨fun h => by simp at h, fun ⟨x, hx, _⟩ => absurd (List.getElem?_eq_some_iff.1 hx).1 HIN.out⟩, HBW.out⟩
end Go.Proofs.Ytbklglckmhfmcaa
