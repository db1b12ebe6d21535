/- The words that the proofs of this seat share: zones of blocks that may be written, slices that are read, bits and bytes. -/
import Derived.Test.YtbklglckmhfmcaaProg
import Derived.WalkKit
import Derived.IntWalk
import Derived.Lib.Hide
import Derived.Deep.Draws
import Derived.Deep.RegionHeld3
set_option linter.unusedVariables false
set_option linter.unusedSimpArgs false
namespace Go.Proofs.Ytbklglckmhfmcaa
open Go.RowKit

/-! ### Zones -/
/-- From w to w' only blocks of the zone Z were written; Z' is the zone thereafter: of Z, or new. -/
structure Stp (Z : Nat → Prop) (w : World) (Z' : Nat → Prop) (w' : World) : Prop where
  os : w'.os = w.os
  tape : w'.tape = w.tape
  output : w'.output = w.output
  size : w.heap.size ≤ w'.heap.size
  block : ∀ k, k < w.heap.size → ¬ Z k → w'.heap[k]? = w.heap[k]?
  zone : ∀ k, Z' k → Z k ∨ w.heap.size ≤ k

theorem Stp.refl (Z : Nat → Prop) (w : World) : Stp Z w Z w := ⟨rfl, rfl, rfl, Nat.le_refl _, fun _ _ _ => rfl, fun _ h => .inl h⟩
theorem Stp.trans {Z Z1 Z2 : Nat → Prop} {w w1 w2 : World} (h : Stp Z w Z1 w1) (k : Stp Z1 w1 Z2 w2) : Stp Z w Z2 w2 := by
  refine ⟨k.os.trans h.os, k.tape.trans h.tape, k.output.trans h.output, Nat.le_trans h.size k.size, fun i hi hz => ?_, fun i hz => ?_⟩
  · rw [k.block i (Nat.lt_of_lt_of_le hi h.size) (fun h1 => ?_), h.block i hi hz]
    rcases h.zone i h1 with h2 | h2
    · exact hz h2
    · omega
  · rcases k.zone i hz with h1 | h1
    · exact h.zone i h1
    · exact .inr (Nat.le_trans h.size h1)
theorem Stp.of_below {Z : Nat → Prop} {w w' : World} (h : Below w.heap.size w w') : Stp Z w Z w' :=
  ⟨h.os, h.tape, h.output, h.size, fun k hk _ => h.block k hk, fun _ hz => .inl hz⟩
theorem Stp.below {Z' : Nat → Prop} {w w' : World} (h : Stp (fun _ => False) w Z' w') : Below w.heap.size w w' :=
  ⟨h.os, h.tape, h.output, h.size, fun k hk => h.block k hk id⟩
theorem Stp.below' {Z Z' : Nat → Prop} {w w' : World} {B : Nat} (h : Stp Z w Z' w') (hB : B ≤ w.heap.size) (hz : ∀ k, Z k → B ≤ k) : Below B w w' :=
  ⟨h.os, h.tape, h.output, h.size, fun k hk => h.block k (by omega) (fun hk' => by have := hz k hk'; omega)⟩
theorem Stp.mono {Z Y Z' : Nat → Prop} {w w' : World} (h : Stp Z w Z' w') (hz : ∀ k, Z k → Y k) : Stp Y w (fun k => Y k ∨ Z' k) w' :=
  ⟨h.os, h.tape, h.output, h.size, fun k hk hy => h.block k hk (fun hk' => hy (hz k hk')), fun k hk => hk.elim .inl fun hk' => (h.zone k hk').imp (hz k) id⟩
theorem Stp.mono' {Z Y Z' Y' : Nat → Prop} {w w' : World} (h : Stp Z w Z' w') (hz : ∀ k, Z k → Y k) (hz' : ∀ k, Y' k → Y k ∨ Z' k) : Stp Y w Y' w' :=
  ⟨h.os, h.tape, h.output, h.size, fun k hk hy => h.block k hk (fun hk' => hy (hz k hk')), fun k hk => (hz' k hk).elim .inl fun hk' => (h.zone k hk').imp (hz k) id⟩
theorem Stp.cell {Z Z' : Nat → Prop} {w w' : World} (h : Stp Z w Z' w') (k o : Nat) (hk : k < w.heap.size) (hz : ¬ Z k) : w'.cell? ⟨k, o, none⟩ = w.cell? ⟨k, o, none⟩ := World.cell?_of_block (w := w) (h.block k hk hz)
theorem Stp.frozen {Z Z' : Nat → Prop} {w w' : World} (h : Stp Z w Z' w') (k o : Nat) (hk : k < w.heap.size) (hz : ¬ Z k) : w'.frozen? ⟨k, o, none⟩ = w.frozen? ⟨k, o, none⟩ := World.frozen?_of_block (w := w) (h.block k hk hz)
theorem Stp.alloc {Z Z' : Nat → Prop} {w w1 : World} (h : Stp Z w Z' w1) (o : Obj) : Stp Z w Z' (w1.alloc o) :=
  h.trans (.of_below ((Below.refl _ _).alloc (Nat.le_refl _) _))
theorem Stp.drew {Z Z' : Nat → Prop} {w w1 : World} (h : Stp Z w Z' w1) : Stp Z w Z' w1.drew := ⟨h.os, h.tape, h.output, h.size, h.block, h.zone⟩
theorem Stp.drewN {Z Z' : Nat → Prop} {w w1 : World} (h : Stp Z w Z' w1) (n : Nat) : Stp Z w Z' (w1.drewN n) := ⟨h.os, h.tape, h.output, h.size, h.block, h.zone⟩
theorem Stp.setCell {Z Z' : Nat → Prop} {w w1 : World} (h : Stp Z w Z' w1) (p : Addr) (u : Value) (hp : Z p.block ∨ w.heap.size ≤ p.block) : Stp Z w Z' (w1.setCell p u) :=
  ⟨h.os, h.tape, h.output, by simpa [World.setCell] using h.size, fun k hk hz => by
    rw [Below.heap_setCell _ _ _ _ (fun e => ?_)]; exact h.block k hk hz
    subst e; rcases hp with hp | hp
    · exact hz hp
    · omega, h.zone⟩
theorem Stp.grown {Z Z' : Nat → Prop} {w w1 w2 : World} {row : Option Nat} (h : Stp Z w Z' w1) (hg : w1.grownBy w2 row) (hr : ∀ k, row = some k → Z k ∨ w.heap.size ≤ k) : Stp Z w Z' w2 :=
  ⟨hg.os.trans h.os, hg.tape.trans h.tape, hg.output.trans h.output, Nat.le_trans h.size hg.size, fun k hk hz => by
    rw [hg.block k (Nat.lt_of_lt_of_le hk h.size) (fun e => ?_)]; exact h.block k hk hz
    rcases hr k e.symm with h1 | h1
    · exact hz h1
    · omega, h.zone⟩
theorem Stp.re {Z Z' Y' : Nat → Prop} {w w' : World} (h : Stp Z w Z' w') (hy : ∀ k, Y' k → Z k ∨ w.heap.size ≤ k) : Stp Z w Y' w' := ⟨h.os, h.tape, h.output, h.size, h.block, hy⟩
/-- All cells and marks of what was there read as before: two rules for the walk. -/
theorem bcell {W w1 : World} (hb : Below W.heap.size W w1) : (∀ b o, b < W.heap.size → w1.cell? ⟨b, o, none⟩ = W.cell? ⟨b, o, none⟩) ∧ (∀ b o, b < W.heap.size → w1.frozen? ⟨b, o, none⟩ = W.frozen? ⟨b, o, none⟩) :=
  ⟨fun b o h => hb.cell (p := ⟨b, o, none⟩) h, fun b o h => hb.frozen (p := ⟨b, o, none⟩) h⟩
theorem lt_of_cell {w : World} {b o : Nat} {v : Value} (h : w.cell? ⟨b, o, none⟩ = some v) : b < w.heap.size := World.block_lt_of_cell? w ⟨b, o, none⟩ h

/-! ### Rows of cells that are read -/
/-- From the address (b, o) on the cells hold cs. -/
def Cells (w : World) (b o : Nat) (cs : List Value) : Prop := ∀ i v, cs[i]? = some v → w.cell? ⟨b, o + i, none⟩ = some v
theorem Cells.lt {w : World} {b o : Nat} {cs : List Value} (h : Cells w b o cs) (hc : cs ≠ []) : b < w.heap.size := by
  obtain ⟨c, r, rfl⟩ := List.exists_cons_of_ne_nil hc
  exact lt_of_cell (h 0 c rfl)
/-- v is a slice of n elements, sz cells each, that reads as cs; its cells lie outside the zone Z. -/
def Sl (Z : Nat → Prop) (w : World) (sz : Nat) (v : Value) (n : Nat) (cs : List Value) : Prop :=
  ∃ A cap, v = .slice A n cap ∧ cs.length = n * sz ∧ n ≤ cap ∧ cap ≤ 9223372036854775807 ∧ (0 < n → ∃ b o, A = some ⟨b, o, none⟩ ∧ ¬ Z b ∧ b < w.heap.size ∧ Cells w b o cs)
theorem Sl.anti {Z Y : Nat → Prop} {w : World} {sz n : Nat} {v : Value} {cs : List Value} (h : Sl Z w sz v n cs) (hz : ∀ k, k < w.heap.size → Y k → Z k) : Sl Y w sz v n cs := by
  obtain ⟨A, cap, rfl, h1, h2, h3, h4⟩ := h
  refine ⟨A, cap, rfl, h1, h2, h3, fun hn => ?_⟩
  obtain ⟨b, o, e, hb, hl, hc⟩ := h4 hn
  exact ⟨b, o, e, fun hy => hb (hz b hl hy), hl, hc⟩
theorem Sl.stp {Z Z' : Nat → Prop} {w w' : World} {sz n : Nat} {v : Value} {cs : List Value} (h : Sl Z w sz v n cs) (hs : Stp Z w Z' w') : Sl Z' w' sz v n cs := by
  obtain ⟨A, cap, rfl, h1, h2, h3, h4⟩ := h
  refine ⟨A, cap, rfl, h1, h2, h3, fun hn => ?_⟩
  obtain ⟨b, o, e, hb, hl, hc⟩ := h4 hn
  refine ⟨b, o, e, fun hy => (hs.zone b hy).elim hb (fun h => by omega), Nat.lt_of_lt_of_le hl hs.size, fun i u hu => ?_⟩
  rw [hs.cell b _ hl hb]; exact hc i u hu
theorem Sl.nil (Z : Nat → Prop) (w : World) (sz : Nat) : Sl Z w sz (.slice none 0 0) 0 [] := ⟨none, 0, rfl, by simp, Nat.le_refl _, by omega, fun h => by omega⟩
/-- What the call owns reads as a slice. -/
theorem Sl.of_own {w : World} {base : Nat} {e : TypeId} {sz : Nat} {v : Value} {n : Nat} {xs : List Value} (h : w.ownsRow base e sz v n xs) (Z : Nat → Prop) (hz : ∀ k, Z k → k < base) : Sl Z w sz v n xs := by
  have hlt := h.lt
  rcases h.2 with ⟨rfl, rfl⟩ | ⟨g, cap, cur, rfl, hb, hg, h1, h2, h3⟩
  · exact ⟨none, 0, rfl, h.1, Nat.le_refl _, by omega, fun h => by omega⟩
  · refine ⟨_, cap, rfl, h.1, h1, by simpa [maxLen] using h2, fun hn => ⟨g, 0, rfl, fun hk => by have := hz g hk; omega, (hlt g rfl).2, fun i u hu => ?_⟩⟩
    have := h.cells (g := g) rfl i u hu
    have ha : (⟨g, 0, none⟩ : Addr).add i = ⟨g, 0 + i, none⟩ := by unfold Addr.add; split <;> simp_all
    rw [ha] at this; exact this
theorem Sl.len {Z : Nat → Prop} {w : World} {sz n : Nat} {v : Value} {cs : List Value} (h : Sl Z w sz v n cs) : cs.length = n * sz := by
  obtain ⟨A, cap, _, h1, _⟩ := h; exact h1

/-! ### An append to a row of the call's own -/
theorem heap_lt {w : World} {k : Nat} {o : Obj} (h : w.heap[k]? = some o) : k < w.heap.size := (Array.getElem?_eq_some_iff.1 h).1
/-- What an append to an owned row does, and where the row lies thereafter: where it lay, or in a new block. -/
theorem append_run {P : Program} (w : World) (t ty e : TypeId) (i : TypeInfo) (z : Value) (size bytes : Nat) (ht : P.underlying t = some (.slice e)) (hi : P.info? e = some i) (hz : i.zero = some z)
    (hsize : i.size = size) (hby : i.bytes = bytes) (hzs : z.cells.size = size) (hsz : 0 < size)
    (v : Value) (n : Nat) (xs : List Value) (hown : w.ownsRow 0 e size v n xs)
    (ad : Addr) (m c : Nat) (news : List Value) (hl : news.length = m * size) (hnews : ∀ j u, news[j]? = some u → w.cell? (ad.add j) = some u) (h1 : ∀ u ∈ news, u.oneCell' = true)
    (hbytes : (n + m) * bytes ≤ 140737488355328) (h63 : n + m ≤ 9223372036854775807) :
    ∃ v' w', (Builtin.append_ #[t, t] ty #[v, .slice (some ad) m c]).run P w = .ok v' w' ∧ w'.ownsRow 0 e size v' (n + m) (xs ++ news) ∧ w.grownBy w' v.ownBlock ∧
      (v'.ownBlock = v.ownBlock ∨ ∀ k, v'.ownBlock = some k → w.heap.size ≤ k ∧ k < w'.heap.size) := by
  have weaken : ∀ {b : Nat} {w' : World} {v' : Value} {n' : Nat} {ys : List Value}, w'.ownsRow b e size v' n' ys → w'.ownsRow 0 e size v' n' ys := by
    intro b w' v' n' ys h
    refine ⟨h.1, ?_⟩
    rcases h.2 with h2 | ⟨g, cap, cur, h3, _, h4⟩
    · exact .inl h2
    · exact .inr ⟨g, cap, cur, h3, Nat.zero_le _, h4⟩
  rcases hown.2 with ⟨rfl, rfl⟩ | ⟨g, cap, cur, rfl, hbg, hg, hnc, hcm, hcs, htake⟩
  · have hx : xs = [] := List.eq_nil_of_length_eq_zero (by simpa using hown.1)
    subst hx
    obtain ⟨v', w', hr, ho, hgr, _⟩ := run_append_own (P := P) w w.heap.size t ty e i z size bytes ht hi hz hsize hby hzs hsz (.slice none 0 0) 0 [] (World.ownsRow_nil w _ e size) ad m c news hl hnews h1 (by unfold maxLen; omega) hbytes (Nat.le_refl _)
    exact ⟨v', w', hr, weaken ho, hgr, .inr fun k hk => ho.lt k hk⟩
  · by_cases hroom : n + m ≤ cap
    · obtain ⟨v', w', hr, ho, hgr, _⟩ := run_append_own (P := P) w 0 t ty e i z size bytes ht hi hz hsize hby hzs hsz (.slice (some ⟨g, 0, none⟩) n cap) n xs hown ad m c news hl hnews h1 (by unfold maxLen; omega) hbytes (Nat.zero_le _)
      subst hsize
      have hr2 := run_append_room (P := P) w t ty e i ht hi g n cap cur hg ad m c news hl hnews h1 hroom (by rw [hl, hcs, ← Nat.add_mul]; exact Nat.mul_le_mul_right _ hroom)
      rw [hr2] at hr
      simp only [Result.ok.injEq] at hr
      obtain ⟨rfl, rfl⟩ := hr
      exact ⟨_, _, hr2, ho, hgr, .inl rfl⟩
    · have holds : ∀ j u, xs[j]? = some u → w.cell? ((⟨g, 0, none⟩ : Addr).add j) = some u := hown.cells (g := g) rfl
      obtain ⟨v', w', hr, ho, hgr⟩ := run_append_arg_grows (P := P) w t ty e i z size bytes ht hi hz hsize hby hzs hsz ⟨g, 0, none⟩ n cap xs hown.1 holds ad m c news hl hnews (by omega) (by unfold maxLen; omega) hbytes
      exact ⟨v', w', hr, weaken ho, ⟨hgr.os, hgr.tape, hgr.output, hgr.size, fun k hk _ => hgr.block k hk (by simp)⟩, .inr fun k hk => ho.lt k hk⟩
/-- The same for the walk. -/
theorem wpl_append {P : Program} {w : World} {ops : Array Oper} {rest : List Oper} {o : Oper} {a : Act} {Q : Exit → Act → World → Prop} (hgd : o.guard = none) (s x : Operand) (t : TypeId)
    (ho : o.op = .call { callee := .builtin .append, args := #[s, x], argTypes := #[t, t] })
    (e : TypeId) (z : Value) (size bytes : Nat) (ht : P.underlying t = some (.slice e)) (hinfo : (P.info? e).map (fun i => (i.zero, i.size, i.bytes)) = some (some z, size, bytes)) (hzs : z.cells.size = size) (hsz : 0 < size)
    (v : Value) (n : Nat) (xs : List Value) (hs : a.eval s = v) (hown : w.ownsRow 0 e size v n xs)
    (ad : Addr) (m c : Nat) (news : List Value) (hx : a.eval x = .slice (some ad) m c) (hl : news.length = m * size) (hnews : ∀ j u, news[j]? = some u → w.cell? (ad.add j) = some u) (h1 : ∀ u ∈ news, u.oneCell' = true)
    (hbytes : (n + m) * bytes ≤ 140737488355328) (h63 : n + m ≤ 9223372036854775807)
    (h : ∀ v' w', w'.ownsRow 0 e size v' (n + m) (xs ++ news) → w.grownBy w' v.ownBlock → (v'.ownBlock = v.ownBlock ∨ ∀ k, v'.ownBlock = some k → w.heap.size ≤ k ∧ k < w'.heap.size) → wpList P ops Q rest (a.put o.dst v') w') :
    wpList P ops Q (o :: rest) a w := by
  obtain ⟨i, hi, hz, hsize, hby⟩ := info_parts hinfo
  refine wpList_plain hgd fun K hK => ?_
  obtain ⟨v', w', hr, h2, h3, h4⟩ := append_run (P := P) w t o.type e i z size bytes ht hi hz hsize hby hzs hsz v n xs hown ad m c news hl hnews h1 hbytes h63
  unfold Oper.wp execOp
  simp only [ho, resolve, invoke, builtin, Sem.run_bind, Sem.run_pure, Result.andThen_ok, List.map_toArray, List.map_cons, List.map_nil, hs, hx, hr]
  exact hK _ _ (h v' w' h2 h3 h4)
/-- What is owned and is not empty shows its address. -/
theorem own_form {w : World} {e : TypeId} {size : Nat} {v : Value} {n : Nat} {xs : List Value} (h : w.ownsRow 0 e size v n xs) (hn : 0 < n) :
    ∃ g cap, v = .slice (some ⟨g, 0, none⟩) n cap ∧ g < w.heap.size ∧ n ≤ cap ∧ cap ≤ 9223372036854775807 := by
  rcases h.2 with ⟨_, h0⟩ | ⟨g, cap, cur, rfl, _, hh, h1, h2, _⟩
  · omega
  · exact ⟨g, cap, rfl, heap_lt hh, h1, by simpa [maxLen] using h2⟩
theorem own_block_ne {w : World} {e e' : TypeId} {size : Nat} {v : Value} {n : Nat} {xs : List Value} (h : w.ownsRow 0 e size v n xs) {b : Nat} {cs : Array Value} {f : Nat × Nat} (hb : w.heap[b]? = some (.cells cs e' f)) (hne : e ≠ e') : v.ownBlock ≠ some b := by
  rcases h.2 with ⟨rfl, h0⟩ | ⟨g, cap, cur, rfl, _, hh, _⟩
  · simp [Value.ownBlock]
  · simp only [Value.ownBlock, ne_eq, Option.some.injEq]
    rintro rfl
    rw [hb] at hh; simp at hh; exact hne hh.2.1.symm
theorem own_keep {w w' : World} {e : TypeId} {size : Nat} {v : Value} {n : Nat} {xs : List Value} (h : w.ownsRow 0 e size v n xs) (hk : ∀ k, v.ownBlock = some k → w'.heap[k]? = w.heap[k]?) : w'.ownsRow 0 e size v n xs := by
  refine ⟨h.1, ?_⟩
  rcases h.2 with h2 | ⟨g, cap, cur, rfl, h3, hh, h4⟩
  · exact .inl h2
  · exact .inr ⟨g, cap, cur, rfl, h3, (hk g rfl).trans hh, h4⟩
theorem add_lit0 (g j : Nat) : (⟨g, 0, none⟩ : Addr).add j = ⟨g, j, none⟩ := by unfold Addr.add; split <;> simp_all
theorem own_frozen {w : World} {e : TypeId} {size : Nat} {v : Value} {n : Nat} {xs : List Value} (h : w.ownsRow 0 e size v n xs) {g : Nat} (hg : v.ownBlock = some g) (j : Nat) : w.frozen? ⟨g, j, none⟩ = false := by
  rcases h.2 with ⟨rfl, _⟩ | ⟨g', cap, cur, rfl, _, hh, _⟩
  · simp [Value.ownBlock] at hg
  · simp [Value.ownBlock] at hg; subst hg; simp [World.frozen?, hh]
theorem below_drewN {B : Nat} {w W : World} (h : Below B w W) (n : Nat) : Below B w (W.drewN n) := ⟨h.os, h.tape, h.output, h.size, h.block⟩
end Go.Proofs.Ytbklglckmhfmcaa
