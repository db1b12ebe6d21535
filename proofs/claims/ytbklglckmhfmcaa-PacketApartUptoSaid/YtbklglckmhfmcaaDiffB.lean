/- diff.nothing; an append as a step of a region that draws. -/
import Derived.Test.YtbklglckmhfmcaaDiffA
import Derived.Deep.RegionLaw
import Derived.Deep.DeepCutAuto
import Derived.Deep.LoopGhost
import Derived.Deep.CutBlock
import Derived.Deep.QuietTactic
set_option linter.unusedVariables false
set_option linter.unusedSimpArgs false
namespace Go.Proofs.Ytbklglckmhfmcaa
open Go.RowKit
set_option maxRecDepth 100000

theorem step_append_grew {P : Program} {ops : Array Oper} {o : Oper} {a : Act} {w : World} {K : Act → World → Prop} {Q : Exit → Act → World → Prop} {E : Prop}
    (hgd : o.guard = none) (s x : Operand) (t : TypeId) (ho : o.op = .call { callee := .builtin .append, args := #[s, x], argTypes := #[t, t] })
    (e : TypeId) (z : Value) (size bytes : Nat) (ht : P.underlying t = some (.slice e)) (hinfo : (P.info? e).map (fun i => (i.zero, i.size, i.bytes)) = some (some z, size, bytes)) (hzs : z.cells.size = size) (hsz : 0 < size)
    (B : Nat) (v : Value) (n : Nat) (xs : List Value) (hs : a.eval s = v) (hown : Mine w B e size v n xs) (hB : B ≤ w.heap.size)
    (ad : Addr) (m c : Nat) (news : List Value) (hx : a.eval x = .slice (some ad) m c) (hl : news.length = m * size) (hnews : ∀ j u, news[j]? = some u → w.cell? (ad.add j) = some u) (h1 : ∀ u ∈ news, u.oneCell' = true)
    (hbytes : (n + m) * bytes ≤ 140737488355328) (h63 : n + m ≤ 9223372036854775807)
    (hK : ∀ v' w', Mine w' B e size v' (n + m) (xs ++ news) → Grew w v w' v' → (∀ ys, Mine w B e size v n ys → Mine w' B e size v' (n + m) (ys ++ news)) → K (a.put o.dst v') w') :
    if Region.wanted o (yielded ops a.tmps) = true then Oper.wp P o a w K Q else E := by
  have hw : Region.wanted o (yielded ops a.tmps) = true := by simp [Region.wanted, hgd]
  rw [if_pos hw]
  obtain ⟨i, hi, hz, hsize, hby⟩ := info_parts hinfo
  obtain ⟨v', w', hr, h2, h3, h4⟩ := append_run (P := P) w t o.type e i z size bytes ht hi hz hsize hby hzs hsz v n xs hown.own ad m c news hl hnews h1 hbytes h63
  unfold Oper.wp
  simp [execOp, ho, resolve, invoke, builtin, hs, hx, hr, Result.andThen]
  have hf : ∀ k, v'.ownBlock = some k → B ≤ k := fun k hk => by
    rcases h4 with h4 | h4
    · exact hown.from_ k (by rw [← h4]; exact hk)
    · have := (h4 k hk).1; omega
  refine hK v' w' ⟨h2, hf⟩ ⟨h3, h4⟩ (fun ys hy => ?_)
  obtain ⟨v2, w2, hr2, g2, _⟩ := append_run (P := P) w t o.type e i z size bytes ht hi hz hsize hby hzs hsz v n ys hy.own ad m c news hl hnews h1 hbytes h63
  rw [hr] at hr2
  simp only [Result.ok.injEq] at hr2
  obtain ⟨rfl, rfl⟩ := hr2
  exact ⟨g2, hf⟩

theorem wpl_append_grew2 {P : Program} {w : World} {ops : Array Oper} {rest : List Oper} {o : Oper} {a : Act} {Q : Exit → Act → World → Prop} (hgd : o.guard = none) (s x : Operand) (t : TypeId)
    (ho : o.op = .call { callee := .builtin .append, args := #[s, x], argTypes := #[t, t] })
    (e : TypeId) (z : Value) (size bytes : Nat) (ht : P.underlying t = some (.slice e)) (hinfo : (P.info? e).map (fun i => (i.zero, i.size, i.bytes)) = some (some z, size, bytes)) (hzs : z.cells.size = size) (hsz : 0 < size)
    (B : Nat) (v : Value) (n : Nat) (xs : List Value) (hs : a.eval s = v) (hown : Mine w B e size v n xs) (hB : B ≤ w.heap.size)
    (ad : Addr) (m c : Nat) (news : List Value) (hx : a.eval x = .slice (some ad) m c) (hl : news.length = m * size) (hnews : ∀ j u, news[j]? = some u → w.cell? (ad.add j) = some u) (h1 : ∀ u ∈ news, u.oneCell' = true)
    (hbytes : (n + m) * bytes ≤ 140737488355328) (h63 : n + m ≤ 9223372036854775807)
    (h : ∀ v' w', Mine w' B e size v' (n + m) (xs ++ news) → Grew w v w' v' → (∀ ys, Mine w B e size v n ys → Mine w' B e size v' (n + m) (ys ++ news)) → wpList P ops Q rest (a.put o.dst v') w') :
    wpList P ops Q (o :: rest) a w := by
  obtain ⟨i, hi, hz, hsize, hby⟩ := info_parts hinfo
  refine wpList_plain hgd fun K hK => ?_
  obtain ⟨v', w', hr, h2, h3, h4⟩ := append_run (P := P) w t o.type e i z size bytes ht hi hz hsize hby hzs hsz v n xs hown.own ad m c news hl hnews h1 hbytes h63
  have hf : ∀ k, v'.ownBlock = some k → B ≤ k := fun k hk => by
    rcases h4 with h4 | h4
    · exact hown.from_ k (by rw [← h4]; exact hk)
    · have := (h4 k hk).1; omega
  unfold Oper.wp execOp
  simp only [ho, resolve, invoke, builtin, Sem.run_bind, Sem.run_pure, Result.andThen_ok, List.map_toArray, List.map_cons, List.map_nil, hs, hx, hr]
  refine hK _ _ (h v' w' ⟨h2, hf⟩ ⟨h3, h4⟩ (fun ys hy => ?_))
  obtain ⟨v2, w2, hr2, g2, _⟩ := append_run (P := P) w t o.type e i z size bytes ht hi hz hsize hby hzs hsz v n ys hy.own ad m c news hl hnews h1 hbytes h63
  rw [hr] at hr2
  simp only [Result.ok.injEq] at hr2
  obtain ⟨rfl, rfl⟩ := hr2
  exact ⟨g2, hf⟩
theorem lostOf_lo (was now : List Comp) : 0 ≤ lostOf was now := by
  show (0 : Int) ≤ IntKind.u8.wrap _; rw [IntKind.wrap_u8]; omega
theorem lostOf_hi (was now : List Comp) : lostOf was now ≤ 255 := by
  show IntKind.u8.wrap _ ≤ (255 : Int); rw [IntKind.wrap_u8]; omega
theorem stp4 {Z : Nat → Prop} {w : World} {D : Nat} {x y z u : Value} (hD : Z D) : Stp Z w Z ((((w.setCell ⟨D, 0, none⟩ x).setCell ⟨D, 1, none⟩ y).setCell ⟨D, 2, none⟩ z).setCell ⟨D, 3, none⟩ u) :=
  ((((Stp.refl _ _).setCell _ _ (Or.inl hD)).setCell _ _ (Or.inl hD)).setCell _ _ (Or.inl hD)).setCell _ _ (Or.inl hD)

set_option maxHeartbeats 2000000 in
theorem nothing_any (Z1 Z2 : Nat → Prop) (c : Change) (vn vs : Value) (w : World) (h1 : RC Z1 w vn c.new) (h2 : RC Z2 w vs c.set) (hl0 : 0 ≤ c.lost) (hl1 : c.lost ≤ 255) :
    Calls Try.prog 43 #[.agg #[.int .u32 c.id, .int .u8 c.lost, vn, vs]] w fun e w' => e = .returned (.bool c.nothing) ∧ Below w.heap.size w w' := by
  obtain ⟨A1, cap1, rfl, hc1, hc1'⟩ := h1.form
  obtain ⟨A2, cap2, rfl, hc2, hc2'⟩ := h2.form
  clear h1 h2
  have key : c.nothing = if c.lost = 0 then (if (c.new.length : Int) = 0 then decide ((c.set.length : Int) = 0) else false) else false := by
    unfold Change.nothing
    by_cases a : c.lost = 0 <;> by_cases b : c.new = [] <;> by_cases d : c.set = [] <;> simp [a, b, d]
  rw [key]; clear key
  by_cases a : c.lost = 0
  · have a' : (c.lost == 0) = true := by simp [a]
    rw [if_pos a]
    by_cases b : (c.new.length : Int) = 0
    · have b' : ((c.new.length : Int) == 0) = true := by simpa using b
      rw [if_pos b]
      by_cases d : (c.set.length : Int) = 0
      · have d' : ((c.set.length : Int) == 0) = true := by simpa using d
        rw [decide_eq_true d]
        clear a b d
        go_enter Try.func43, Try.ntmps43
        go_wp2_with fail
        go_ret
        exact ⟨rfl, (Below.refl _ _).alloc (Nat.le_refl _) _⟩
      · have d' : ((c.set.length : Int) == 0) = false := by simpa using d
        rw [decide_eq_false d]
        clear a b d
        go_enter Try.func43, Try.ntmps43
        go_wp2_with fail
        go_ret
        exact ⟨rfl, (Below.refl _ _).alloc (Nat.le_refl _) _⟩
    · have b' : ((c.new.length : Int) == 0) = false := by simpa using b
      rw [if_neg b]
      clear a b
      go_enter Try.func43, Try.ntmps43
      go_wp2_with fail
      go_ret
      exact ⟨rfl, (Below.refl _ _).alloc (Nat.le_refl _) _⟩
  · have a' : (c.lost == 0) = false := by simp [a]
    rw [if_neg a]
    clear a
    go_enter Try.func43, Try.ntmps43
    go_wp2_with fail
    go_ret
    exact ⟨rfl, (Below.refl _ _).alloc (Nat.le_refl _) _⟩
end Go.Proofs.Ytbklglckmhfmcaa
