/- Rows that a call makes for itself, from a block number on: append to them, what they read as. -/
import Derived.Test.YtbklglckmhfmcaaBase
set_option linter.unusedVariables false
set_option linter.unusedSimpArgs false
namespace Go.Proofs.Ytbklglckmhfmcaa
open Go.RowKit

/-- v is a slice of the call's own, in no block below B. -/
structure Mine (w : World) (B : Nat) (e : TypeId) (sz : Nat) (v : Value) (n : Nat) (xs : List Value) : Prop where
  own : w.ownsRow 0 e sz v n xs
  from_ : ∀ k, v.ownBlock = some k → B ≤ k
theorem Mine.nil (w : World) (B : Nat) (e : TypeId) (sz : Nat) : Mine w B e sz (.slice none 0 0) 0 [] := ⟨World.ownsRow_nil _ _ _ _, fun k hk => by simp [Value.ownBlock] at hk⟩
theorem Mine.keep {w w' : World} {B : Nat} {e : TypeId} {sz : Nat} {v : Value} {n : Nat} {xs : List Value} (h : Mine w B e sz v n xs) (hk : ∀ k, v.ownBlock = some k → w'.heap[k]? = w.heap[k]?) : Mine w' B e sz v n xs := ⟨own_keep h.own hk, h.from_⟩
theorem Mine.below {w w' : World} {B : Nat} {e : TypeId} {sz : Nat} {v : Value} {n : Nat} {xs : List Value} (h : Mine w B e sz v n xs) (hb : Below w.heap.size w w') : Mine w' B e sz v n xs :=
  h.keep fun k hk => hb.block k (h.own.lt k hk).2
theorem Mine.alloc {w : World} {B : Nat} {e : TypeId} {sz : Nat} {v : Value} {n : Nat} {xs : List Value} (h : Mine w B e sz v n xs) (o : Obj) : Mine (w.alloc o) B e sz v n xs :=
  h.below ((Below.refl _ _).alloc (Nat.le_refl _) _)
theorem Mine.drewN {w : World} {B : Nat} {e : TypeId} {sz : Nat} {v : Value} {n : Nat} {xs : List Value} (h : Mine w B e sz v n xs) (k : Nat) : Mine (w.drewN k) B e sz v n xs := ⟨h.own, h.from_⟩
theorem Mine.drew {w : World} {B : Nat} {e : TypeId} {sz : Nat} {v : Value} {n : Nat} {xs : List Value} (h : Mine w B e sz v n xs) : Mine w.drew B e sz v n xs := ⟨h.own, h.from_⟩
theorem Mine.mono {w : World} {B B' : Nat} {e : TypeId} {sz : Nat} {v : Value} {n : Nat} {xs : List Value} (h : Mine w B e sz v n xs) (hb : B' ≤ B) : Mine w B' e sz v n xs := ⟨h.own, fun k hk => by have := h.from_ k hk; omega⟩
theorem Mine.form {w : World} {B : Nat} {e : TypeId} {sz : Nat} {v : Value} {n : Nat} {xs : List Value} (h : Mine w B e sz v n xs) : ∃ A cap, v = .slice A n cap := by
  rcases h.own.2 with ⟨rfl, rfl⟩ | ⟨g, cap, cur, rfl, _⟩
  · exact ⟨_, _, rfl⟩
  · exact ⟨_, _, rfl⟩
/-- As a slice that is read. -/
theorem Mine.sl {w : World} {B : Nat} {e : TypeId} {sz : Nat} {v : Value} {n : Nat} {xs : List Value} (h : Mine w B e sz v n xs) : Sl (fun j => j < B) w sz v n xs := by
  have hlt := h.own.lt
  have hf := h.from_
  have h0 := h.own
  rcases h.own.2 with ⟨rfl, rfl⟩ | ⟨g, cap, cur, rfl, hb, hg, h1, h2, h3⟩
  · exact ⟨none, 0, rfl, h0.1, Nat.le_refl _, by omega, fun h => by omega⟩
  · refine ⟨_, cap, rfl, h0.1, h1, by simpa [maxLen] using h2, fun hn => ⟨g, 0, rfl, fun hk => by have := hf g rfl; omega, (hlt g rfl).2, fun i u hu => ?_⟩⟩
    have := h0.cells (g := g) rfl i u hu
    rw [add_lit0] at this
    simpa using this
/-- An append to what is the call's own. -/
theorem wpl_append_mine {P : Program} {w : World} {ops : Array Oper} {rest : List Oper} {o : Oper} {a : Act} {Q : Exit → Act → World → Prop} (hgd : o.guard = none) (s x : Operand) (t : TypeId)
    (ho : o.op = .call { callee := .builtin .append, args := #[s, x], argTypes := #[t, t] })
    (e : TypeId) (z : Value) (size bytes : Nat) (ht : P.underlying t = some (.slice e)) (hinfo : (P.info? e).map (fun i => (i.zero, i.size, i.bytes)) = some (some z, size, bytes)) (hzs : z.cells.size = size) (hsz : 0 < size)
    (B : Nat) (v : Value) (n : Nat) (xs : List Value) (hs : a.eval s = v) (hown : Mine w B e size v n xs) (hB : B ≤ w.heap.size)
    (ad : Addr) (m c : Nat) (news : List Value) (hx : a.eval x = .slice (some ad) m c) (hl : news.length = m * size) (hnews : ∀ j u, news[j]? = some u → w.cell? (ad.add j) = some u) (h1 : ∀ u ∈ news, u.oneCell' = true)
    (hbytes : (n + m) * bytes ≤ 140737488355328) (h63 : n + m ≤ 9223372036854775807)
    (h : ∀ v' w', Mine w' B e size v' (n + m) (xs ++ news) → Below B w w' → wpList P ops Q rest (a.put o.dst v') w') :
    wpList P ops Q (o :: rest) a w := by
  refine wpl_append hgd s x t ho e z size bytes ht hinfo hzs hsz v n xs hs hown.own ad m c news hx hl hnews h1 hbytes h63 (fun v' w' h2 h3 h4 => ?_)
  refine h v' w' ⟨h2, fun k hk => ?_⟩ ⟨h3.os, h3.tape, h3.output, h3.size, fun k hk => h3.block k (by omega) (fun e => ?_)⟩
  · rcases h4 with h4 | h4
    · exact hown.from_ k (by rw [← h4]; exact hk)
    · have := (h4 k hk).1; omega
  · have := hown.from_ k e.symm; omega
/-- The cells of a block that was just made, as an address's row. -/
theorem new_row (w : World) (cs : List Value) (T : TypeId) (ad : Addr) (had : ad = ⟨w.heap.size, 0, none⟩) : ∀ j u, cs[j]? = some u → (w.alloc (.cells cs.toArray T)).cell? (ad.add j) = some u := by
  intro j u hu
  subst had
  rw [add_lit0]
  have := heap_alloc_new w (.cells cs.toArray T)
  simp only [World.cell?, this, Option.isSome_none, Bool.false_eq_true, if_false]
  simpa using hu
end Go.Proofs.Ytbklglckmhfmcaa
