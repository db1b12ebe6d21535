/- An append to one of several rows of the call's own. -/
import Derived.Test.YtbklglckmhfmcaaOwn
set_option linter.unusedVariables false
set_option linter.unusedSimpArgs false
namespace Go.Proofs.Ytbklglckmhfmcaa
open Go.RowKit

/-- What an append has done: v's row alone was written; the new row lies where v's lay, or is new. -/
structure Grew (w : World) (v : Value) (w' : World) (v' : Value) : Prop where
  grow : w.grownBy w' v.ownBlock
  move : v'.ownBlock = v.ownBlock ∨ ∀ k, v'.ownBlock = some k → w.heap.size ≤ k ∧ k < w'.heap.size
/-- Two slices that share no row. -/
def Apart (v u : Value) : Prop := ∀ k, v.ownBlock = some k → u.ownBlock ≠ some k
theorem Apart.symm {v u : Value} (h : Apart v u) : Apart u v := fun k hk hv => h k hv hk
theorem Apart.nil (u : Value) : Apart (.slice none 0 0) u := fun k hk => by simp [Value.ownBlock] at hk
theorem Grew.block {w w' : World} {v v' : Value} (h : Grew w v w' v') {k : Nat} (hk : k < w.heap.size) (hv : v.ownBlock ≠ some k) : w'.heap[k]? = w.heap[k]? := h.grow.block k hk (fun e => hv e.symm)
theorem Grew.apart {w w' : World} {v v' u : Value} (h : Grew w v w' v') (ha : Apart v u) (hu : ∀ k, u.ownBlock = some k → k < w.heap.size) : Apart v' u := by
  intro k hk hku
  rcases h.move with h1 | h1
  · exact ha k (by rw [← h1]; exact hk) hku
  · have := (h1 k hk).1; have := hu k hku; omega
theorem Grew.other {w w' : World} {v v' u : Value} (h : Grew w v w' v') (ha : Apart v u) {B : Nat} {e : TypeId} {sz n : Nat} {xs : List Value} (hu : Mine w B e sz u n xs) : Mine w' B e sz u n xs :=
  hu.keep fun k hk => h.block (hu.own.lt k hk).2 (fun hv => ha k hv hk)
theorem Grew.stp {w0 w w' : World} {Z Z' : Nat → Prop} {v v' : Value} (h : Grew w v w' v') (hs : Stp Z w0 Z' w) (hv : ∀ k, v.ownBlock = some k → Z k ∨ w0.heap.size ≤ k) : Stp Z w0 Z' w' := hs.grown h.grow hv
theorem wpl_append_grew {P : Program} {w : World} {ops : Array Oper} {rest : List Oper} {o : Oper} {a : Act} {Q : Exit → Act → World → Prop} (hgd : o.guard = none) (s x : Operand) (t : TypeId)
    (ho : o.op = .call { callee := .builtin .append, args := #[s, x], argTypes := #[t, t] })
    (e : TypeId) (z : Value) (size bytes : Nat) (ht : P.underlying t = some (.slice e)) (hinfo : (P.info? e).map (fun i => (i.zero, i.size, i.bytes)) = some (some z, size, bytes)) (hzs : z.cells.size = size) (hsz : 0 < size)
    (B : Nat) (v : Value) (n : Nat) (xs : List Value) (hs : a.eval s = v) (hown : Mine w B e size v n xs) (hB : B ≤ w.heap.size)
    (ad : Addr) (m c : Nat) (news : List Value) (hx : a.eval x = .slice (some ad) m c) (hl : news.length = m * size) (hnews : ∀ j u, news[j]? = some u → w.cell? (ad.add j) = some u) (h1 : ∀ u ∈ news, u.oneCell' = true)
    (hbytes : (n + m) * bytes ≤ 140737488355328) (h63 : n + m ≤ 9223372036854775807)
    (h : ∀ v' w', Mine w' B e size v' (n + m) (xs ++ news) → Grew w v w' v' → wpList P ops Q rest (a.put o.dst v') w') :
    wpList P ops Q (o :: rest) a w := by
  refine wpl_append hgd s x t ho e z size bytes ht hinfo hzs hsz v n xs hs hown.own ad m c news hx hl hnews h1 hbytes h63 (fun v' w' h2 h3 h4 => ?_)
  refine h v' w' ⟨h2, fun k hk => ?_⟩ ⟨h3, h4⟩
  rcases h4 with h4 | h4
  · exact hown.from_ k (by rw [← h4]; exact hk)
  · have := (h4 k hk).1; omega
end Go.Proofs.Ytbklglckmhfmcaa
