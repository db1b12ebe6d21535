/- An append of noughts (append(s, make([]T, n)...)) to a row of the call's own, elements of one cell. -/
import Derived.Test.YtbklglckmhfmcaaOwnB
import Derived.Deep.AppendSrc
set_option linter.unusedVariables false
set_option linter.unusedSimpArgs false
namespace Go.Proofs.Ytbklglckmhfmcaa
open Go.RowKit

theorem zeroCells_one (z : Value) (n : Nat) : (Builtin.zeroCells #[z] n).toList = List.replicate n z := by
  apply List.ext_getElem?
  intro j
  by_cases hj : j < n
  · simp [Builtin.zeroCells, hj, Nat.mod_one]
  · simp [Builtin.zeroCells, hj]
theorem append_zeros_run {P : Program} (w : World) (t ti ty e : TypeId) (k : IntKind) (i : TypeInfo) (z : Value) (bytes : Nat) (ht : P.underlying t = some (.slice e)) (hti : P.underlying ti = some (.int k)) (hi : P.info? e = some i) (hz : i.zero = some z)
    (hsize : i.size = 1) (hby : i.bytes = bytes) (hzs : z.cells = #[z]) (hz1 : z.oneCell' = true)
    (v : Value) (n : Nat) (xs : List Value) (hown : w.ownsRow 0 e 1 v n xs) (m : Nat) (hm0 : 0 < m) (hm : m ≤ 1000000) (hb8 : bytes ≤ 64) (hbytes : (n + m) * bytes ≤ 140737488355328) (h63 : n + m ≤ maxLen) :
    ∃ v' w', (Builtin.append_ #[t, ti] ty #[v, .int .i64 m]).run P w = .ok v' w' ∧ w'.ownsRow 0 e 1 v' (n + m) (xs ++ List.replicate m z) ∧ w.grownBy w' v.ownBlock ∧
      (v'.ownBlock = v.ownBlock ∨ ∀ k, v'.ownBlock = some k → w.heap.size ≤ k ∧ k < w'.heap.size) := by
  subst hby
  have hsmall : n + m ≤ 9223372036854775807 := by simp only [maxLen] at h63; omega
  have hlen : (xs ++ List.replicate m z).length = (n + m) * 1 := by rw [List.length_append, List.length_replicate, hown.1]; omega
  have hwr : IntKind.i64.wrap (m : Int) = (m : Int) := IntWalk.i64_in _ (by omega)
  have hm1 : ¬ ((m : Int) < 0) := by omega
  have hm2 : ¬ (281474976710656 < m * i.bytes) := by
    have : m * i.bytes ≤ m * 64 := Nat.mul_le_mul_left _ hb8
    omega
  have hm2i : ¬ (281474976710656 < (m : Int) * (i.bytes : Int)) := by
    have : ((m * i.bytes : Nat) : Int) = (m : Int) * (i.bytes : Int) := by push_cast; rfl
    omega
  have hm3 : m ≠ 0 := by omega
  have hzc : (Builtin.zeroCells #[z] m) = (List.replicate m z).toArray := by
    apply Array.ext'; rw [zeroCells_one]
  have hgrow : ∀ (base : Option Addr) (cap : Nat), (base = none → n = 0) → (∀ a, base = some a → ∀ j u, xs[j]? = some u → w.cell? (a.add j) = some u) → cap < n + m →
      (Builtin.append_ #[t, ti] ty #[.slice base n cap, .int .i64 m]).run P w =
        .ok (.slice (some ⟨w.heap.size, 0, none⟩) (n + m) (grownCap w (n + m) cap e)) (w.drew.alloc (.cells (xs.toArray ++ (List.replicate m z).toArray ++ Builtin.zeroCells z.cells (grownCap w (n + m) cap e - (n + m))) e)) := by
    intro base cap hb0 hb1 hlt
    have hn : ¬ (n + m ≤ cap) := by omega
    have h63' : ¬ (9223372036854775807 < ((n : Int) + (m : Int))) := by omega
    have h48' : ¬ (281474976710656 < Builtin.nextslicecap (n + m) cap * i.bytes) := by have := growslice_fits hlt hbytes; omega
    have hfo : (Builtin.firstCells 1 n (.slice base n cap)).run P w.drew = .ok xs.toArray w.drew := by
      cases base with
      | none =>
        have := hb0 rfl
        subst this
        have hx : xs = [] := List.eq_nil_of_length_eq_zero (by simpa using hown.1)
        subst hx
        rfl
      | some b => exact run_firstCells_some (P := P) w.drew 1 n b n cap xs hown.1 (by simpa using hb1 b rfl)
    simp [Builtin.append_, run_underlying ht, run_underlying hti, sizeOf, typeInfo, zeroValue, hi, hz, hsize, asInt, asIntOf, hwr, hm1, hm2, hm2i, hm3, hn, h63', h48', Question.forced, hfo, hzs, hzc, newRow, grownCap]
  have grown : ∀ (old : Nat), old < n + m → ∀ (row : Option Nat),
      (w.drew.alloc (.cells (xs.toArray ++ (List.replicate m z).toArray ++ Builtin.zeroCells z.cells (grownCap w (n + m) old e - (n + m))) e)).ownsRow 0 e 1
        (.slice (some ⟨w.heap.size, 0, none⟩) (n + m) (grownCap w (n + m) old e)) (n + m) (xs ++ List.replicate m z) ∧
      w.grownBy (w.drew.alloc (.cells (xs.toArray ++ (List.replicate m z).toArray ++ Builtin.zeroCells z.cells (grownCap w (n + m) old e - (n + m))) e)) row := by
    intro old ho row
    have hge := grownCap_ge w (n + m) old e
    have hcm : grownCap w (n + m) old e ≤ maxLen := grownCap_le_maxLen w (n + m) old e h63
    refine ⟨⟨hlen, .inr ⟨w.heap.size, _, _, rfl, Nat.zero_le _, heap_alloc_new w.drew _, hge, hcm, ?_, ?_⟩⟩, ⟨rfl, rfl, rfl, by simp, fun k hk _ => Below.heap_alloc w.drew _ _ hk⟩⟩
    · rw [hzs]
      have h1 := hown.1
      simp only [Array.size_append, List.size_toArray, size_zeroCells, List.length_replicate]
      simp; omega
    · simp only [Array.toList_append, List.append_assoc]
      rw [← List.append_assoc, ← hlen]
      exact List.take_left
  have hnew : ∀ (w' : World), w'.heap.size = w.heap.size + 1 → ∀ c k, (Value.slice (some ⟨w.heap.size, 0, none⟩) (n + m) c).ownBlock = some k → w.heap.size ≤ k ∧ k < w'.heap.size := by
    intro w' hw c k hk
    simp [Value.ownBlock] at hk
    omega
  rcases hown.2 with ⟨rfl, rfl⟩ | ⟨g, cap, cur, rfl, hbg, hg, hnc, hcm, hcs, htake⟩
  · have hr := hgrow none 0 (fun _ => rfl) (fun a ha => by cases ha) (by omega)
    have hgr := grown 0 (by omega) (Value.ownBlock (.slice none 0 0))
    exact ⟨_, _, hr, hgr.1, hgr.2, .inr (hnew _ (by simp) _)⟩
  · by_cases hroom : n + m ≤ cap
    · have hfit : n + 0 + (List.replicate m z).length ≤ cur.size := by rw [hcs, List.length_replicate]; omega
      have hst := run_storeCells_at P g n e (List.replicate m z) 0 cur w hg hfit (fun u hu => by rw [List.eq_of_mem_replicate hu]; exact hz1)
      have hr : (Builtin.append_ #[t, ti] ty #[.slice (some ⟨g, 0, none⟩) n cap, .int .i64 m]).run P w =
          .ok (.slice (some ⟨g, 0, none⟩) (n + m) cap) (w.setRow g (cur.toList.take (n + 0) ++ List.replicate m z ++ cur.toList.drop (n + 0 + (List.replicate m z).length)).toArray) := by
        simp only [Nat.add_zero] at hst ⊢
        simp [Builtin.append_, run_underlying ht, run_underlying hti, sizeOf, typeInfo, zeroValue, hi, hz, hsize, asInt, asIntOf, hwr, hm1, hm2, hm2i, hm3, hroom, hzs, hzc, Addr.add_lit, hst]
      refine ⟨_, _, hr, ⟨hlen, .inr ⟨g, cap, _, rfl, hbg, setRow_heap w g cur _ e _ hg, hroom, hcm, ?_, ?_⟩⟩, ⟨rfl, rfl, rfl, by simp, fun k _ hk => setRow_other w g k _ (fun e => hk (by simp [Value.ownBlock, e]))⟩, .inl rfl⟩
      · simp only [List.size_toArray, List.length_append, List.length_take, List.length_drop, Array.length_toList]
        omega
      · simp only [Nat.mul_one] at htake
        simp only [Nat.add_zero]
        rw [htake, ← hlen]
        exact List.take_left
    · have holds : ∀ j u, xs[j]? = some u → w.cell? ((⟨g, 0, none⟩ : Addr).add j) = some u := hown.cells (g := g) rfl
      have hr := hgrow (some ⟨g, 0, none⟩) cap (fun h => by cases h) (fun a ha => by cases ha; exact holds) (by omega)
      have hgr := grown cap (by omega) (Value.ownBlock (.slice (some ⟨g, 0, none⟩) n cap))
      exact ⟨_, _, hr, hgr.1, hgr.2, .inr (hnew _ (by simp) _)⟩
/-- The same for the walk. -/
theorem wpl_append_zeros {P : Program} {w : World} {ops : Array Oper} {rest : List Oper} {o : Oper} {a : Act} {Q : Exit → Act → World → Prop} (hgd : o.guard = none) (s x : Operand) (t ti : TypeId)
    (ho : o.op = .call { callee := .builtin .append, args := #[s, x], argTypes := #[t, ti] })
    (e : TypeId) (k : IntKind) (z : Value) (bytes : Nat) (ht : P.underlying t = some (.slice e)) (hti : P.underlying ti = some (.int k)) (hinfo : (P.info? e).map (fun i => (i.zero, i.size, i.bytes)) = some (some z, 1, bytes)) (hzs : z.cells = #[z]) (hz1 : z.oneCell' = true)
    (B : Nat) (v : Value) (n : Nat) (xs : List Value) (hs : a.eval s = v) (hown : Mine w B e 1 v n xs) (hB : B ≤ w.heap.size)
    (m : Nat) (hx : a.eval x = .int .i64 m) (hm0 : 0 < m) (hm : m ≤ 1000000) (hb8 : bytes ≤ 64) (hbytes : (n + m) * bytes ≤ 140737488355328) (h63 : n + m ≤ maxLen)
    (h : ∀ v' w', Mine w' B e 1 v' (n + m) (xs ++ List.replicate m z) → Below B w w' → wpList P ops Q rest (a.put o.dst v') w') :
    wpList P ops Q (o :: rest) a w := by
  obtain ⟨i, hi, hz, hsize, hby⟩ := info_parts hinfo
  refine wpList_plain hgd fun K hK => ?_
  obtain ⟨v', w', hr, h2, h3, h4⟩ := append_zeros_run (P := P) w t ti o.type e k i z bytes ht hti hi hz hsize hby hzs hz1 v n xs hown.own m hm0 hm hb8 hbytes h63
  unfold Oper.wp execOp
  simp only [ho, resolve, invoke, builtin, Sem.run_bind, Sem.run_pure, Result.andThen_ok, List.map_toArray, List.map_cons, List.map_nil, hs, hx, hr]
  refine hK _ _ (h v' w' ⟨h2, fun k hk => ?_⟩ ⟨h3.os, h3.tape, h3.output, h3.size, fun k hk => h3.block k (by omega) (fun e => ?_)⟩)
  · rcases h4 with h4 | h4
    · exact hown.from_ k (by rw [← h4]; exact hk)
    · have := (h4 k hk).1; omega
  · have := hown.from_ k e.symm; omega
/-- A store into a row of the call's own. -/
theorem Mine.put {w : World} {B : Nat} {e : TypeId} {g n cap : Nat} {xs : List Value} (h : Mine w B e 1 (.slice (some ⟨g, 0, none⟩) n cap) n xs) (j : Nat) (u : Value) :
    Mine (w.setCell ⟨g, j, none⟩ u) B e 1 (.slice (some ⟨g, 0, none⟩) n cap) n (xs.set j u) ∧ Below B w (w.setCell ⟨g, j, none⟩ u) := by
  obtain ⟨h1, h2⟩ := h.own.stored j u
  have hg := h.from_ g rfl
  exact ⟨⟨h1, h.from_⟩, (Below.refl _ _).setCell hg _⟩
end Go.Proofs.Ytbklglckmhfmcaa
