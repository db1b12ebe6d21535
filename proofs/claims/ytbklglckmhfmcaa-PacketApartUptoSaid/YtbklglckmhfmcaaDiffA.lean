/- Deltas: what they are, how they lie, how they grow. -/
import Derived.Test.YtbklglckmhfmcaaChangeB
import Derived.Test.YtbklglckmhfmcaaForm
set_option linter.unusedVariables false
set_option linter.unusedSimpArgs false
namespace Go.Proofs.Ytbklglckmhfmcaa
open Go.RowKit
set_option maxRecDepth 100000

structure Delta where
  gone : List Int
  come : List Ent
  chg : List Change
def Delta.app (a b : Delta) : Delta := ⟨a.gone ++ b.gone, a.come ++ b.come, a.chg ++ b.chg⟩
def Delta.nil : Delta := ⟨[], [], []⟩
theorem Delta.nil_app (a : Delta) : Delta.nil.app a = a := by simp [Delta.nil, Delta.app]
theorem Delta.app_nil (a : Delta) : a.app Delta.nil = a := by simp [Delta.nil, Delta.app]
theorem Delta.app_assoc (a b c : Delta) : (a.app b).app c = a.app (b.app c) := by simp [Delta.app]
def Change.nothing (c : Change) : Bool := c.lost == 0 && (c.new.isEmpty && c.set.isEmpty)
def chgOf (a b : Ent) : Delta := if (changeOf a b).nothing then Delta.nil else ⟨[], [], [changeOf a b]⟩
/-- The two lists' merge by IDs. -/
def diffL : List Ent → List Ent → Delta
  | [], [] => Delta.nil
  | a :: was, [] => (⟨[a.id], [], []⟩ : Delta).app (diffL was [])
  | [], b :: now => (⟨[], [b], []⟩ : Delta).app (diffL [] now)
  | a :: was, b :: now =>
    if a.id < b.id then (⟨[a.id], [], []⟩ : Delta).app (diffL was (b :: now))
    else if b.id < a.id then (⟨[], [b], []⟩ : Delta).app (diffL (a :: was) now)
    else (chgOf a b).app (diffL was now)
termination_by a b => a.length + b.length
def diffE (was now : List Ent) : Int := if formE was ≠ 0 then formE was else formE now

/-- The cells of changes whose lists lie at ps. -/
def hcells (l : List ((Int × Int) × (Value × Value))) : List Value := l.flatMap fun p => [.int .u32 p.1.1, .int .u8 p.1.2, p.2.1, p.2.2]
def Change.key (c : Change) : Int × Int := (c.id, c.lost)
structure Change.wf (c : Change) : Prop where
  id0 : 0 ≤ c.id
  id1 : c.id ≤ 4294967295
  lost0 : 0 ≤ c.lost
  lost1 : c.lost ≤ 255
/-- v is a slice of changes that reads as l. -/
structure RH (Z : Nat → Prop) (w : World) (v : Value) (l : List Change) : Prop where
  out : ∃ ps : List (Value × Value), ps.length = l.length ∧ Sl Z w 4 v l.length (hcells ((l.map Change.key).zip ps)) ∧ ∀ (i : Nat) (c : Change) (p : Value × Value), l[i]? = some c → ps[i]? = some p → RC Z w p.1 c.new ∧ RC Z w p.2 c.set
  wf : ∀ c ∈ l, c.wf
theorem RH.stp {Z Z' : Nat → Prop} {w w' : World} {v : Value} {l : List Change} (h : RH Z w v l) (hs : Stp Z w Z' w') : RH Z' w' v l := by
  obtain ⟨hl, h1, h2, h3⟩ := h.out
  exact ⟨⟨hl, h1, h2.stp hs, fun i e x he hx => ⟨(h3 i e x he hx).1.stp hs, (h3 i e x he hx).2.stp hs⟩⟩, h.wf⟩
theorem RH.below {Z : Nat → Prop} {w w' : World} {v : Value} {l : List Change} (h : RH Z w v l) (hs : Below w.heap.size w w') : RH Z w' v l := h.stp (.of_below hs)
theorem RH.anti {Z Y : Nat → Prop} {w : World} {v : Value} {l : List Change} (h : RH Z w v l) (hz : ∀ k, k < w.heap.size → Y k → Z k) : RH Y w v l := by
  obtain ⟨hl, h1, h2, h3⟩ := h.out
  exact ⟨⟨hl, h1, h2.anti hz, fun i e x he hx => ⟨(h3 i e x he hx).1.anti hz, (h3 i e x he hx).2.anti hz⟩⟩, h.wf⟩
theorem RH.form {Z : Nat → Prop} {w : World} {v : Value} {l : List Change} (h : RH Z w v l) : ∃ A cap, v = .slice A l.length cap ∧ l.length ≤ cap ∧ cap ≤ 9223372036854775807 := by
  obtain ⟨hl, _, ⟨A, cap, h1, _, h2, h3, _⟩, _⟩ := h.out
  exact ⟨A, cap, h1, h2, h3⟩
theorem RH.at {Z : Nat → Prop} {w : World} {A : Option Addr} {n cap : Nat} {l : List Change} (h : RH Z w (.slice A n cap) l) {i : Nat} {c : Change} (hi : l[i]? = some c) :
    ∃ b o vn vs, A = some ⟨b, o, none⟩ ∧ ¬ Z b ∧ b < w.heap.size ∧ c.wf ∧ RC Z w vn c.new ∧ RC Z w vs c.set ∧ w.cell? ⟨b, o + i * 4, none⟩ = some (.int .u32 c.id) ∧ w.cell? ⟨b, o + i * 4 + 1, none⟩ = some (.int .u8 c.lost) ∧
      w.cell? ⟨b, o + i * 4 + 2, none⟩ = some vn ∧ w.cell? ⟨b, o + i * 4 + 3, none⟩ = some vs := by
  obtain ⟨hs, hl, ⟨A', cap', h1, h2, h3, h4, h5⟩, h6⟩ := h.out
  simp only [Value.slice.injEq] at h1
  obtain ⟨rfl, rfl, rfl⟩ := h1
  have hlt : i < l.length := (List.getElem?_eq_some_iff.1 hi).1
  obtain ⟨b, o, rfl, hz, hbl, hc⟩ := h5 (by omega)
  obtain ⟨hv, hhv⟩ : ∃ hv, hs[i]? = some hv := ⟨_, List.getElem?_eq_getElem (by omega)⟩
  have hzip : ((l.map Change.key).zip hs)[i]? = some (c.key, hv) := by
    rw [List.getElem?_zip_eq_some]; exact ⟨by rw [List.getElem?_map, hi]; rfl, hhv⟩
  have hg := fun j (hj : j < 4) => flat_get (fun p : (Int × Int) × (Value × Value) => [.int .u32 p.1.1, .int .u8 p.1.2, p.2.1, p.2.2]) 4 (fun _ => rfl) _ i j _ hzip hj
  refine ⟨b, o, hv.1, hv.2, rfl, hz, hbl, h.wf c (List.mem_of_getElem? hi), (h6 i c hv hi hhv).1, (h6 i c hv hi hhv).2, ?_, ?_, ?_, ?_⟩
  · have := hc _ _ (hg 0 (by omega)); simpa [Change.key] using this
  · have := hc _ _ (hg 1 (by omega)); simpa [Nat.add_assoc, Change.key] using this
  · have := hc _ _ (hg 2 (by omega)); simpa [Nat.add_assoc] using this
  · have := hc _ _ (hg 3 (by omega)); simpa [Nat.add_assoc] using this
/-- v is a slice of IDs that reads as l. -/
structure RG (Z : Nat → Prop) (w : World) (v : Value) (l : List Int) : Prop where
  sl : Sl Z w 1 v l.length (l.map (.int .u32 ·))
  wf : ∀ i ∈ l, 0 ≤ i ∧ i ≤ 4294967295
theorem RG.stp {Z Z' : Nat → Prop} {w w' : World} {v : Value} {l : List Int} (h : RG Z w v l) (hs : Stp Z w Z' w') : RG Z' w' v l := ⟨h.sl.stp hs, h.wf⟩
theorem RG.below {Z : Nat → Prop} {w w' : World} {v : Value} {l : List Int} (h : RG Z w v l) (hs : Below w.heap.size w w') : RG Z w' v l := h.stp (.of_below hs)
theorem RG.anti {Z Y : Nat → Prop} {w : World} {v : Value} {l : List Int} (h : RG Z w v l) (hz : ∀ k, k < w.heap.size → Y k → Z k) : RG Y w v l := ⟨h.sl.anti hz, h.wf⟩
theorem RG.form {Z : Nat → Prop} {w : World} {v : Value} {l : List Int} (h : RG Z w v l) : ∃ A cap, v = .slice A l.length cap ∧ l.length ≤ cap ∧ cap ≤ 9223372036854775807 := by
  obtain ⟨A, cap, h1, _, h2, h3, _⟩ := h.sl
  exact ⟨A, cap, h1, h2, h3⟩
theorem RG.at {Z : Nat → Prop} {w : World} {A : Option Addr} {n cap : Nat} {l : List Int} (h : RG Z w (.slice A n cap) l) {i : Nat} {c : Int} (hi : l[i]? = some c) :
    ∃ b o, A = some ⟨b, o, none⟩ ∧ ¬ Z b ∧ b < w.heap.size ∧ 0 ≤ c ∧ c ≤ 4294967295 ∧ w.cell? ⟨b, o + i, none⟩ = some (.int .u32 c) := by
  obtain ⟨A', cap', h1, h2, h3, h4, h5⟩ := h.sl
  simp only [Value.slice.injEq] at h1
  obtain ⟨rfl, rfl, rfl⟩ := h1
  have hlt : i < l.length := (List.getElem?_eq_some_iff.1 hi).1
  obtain ⟨b, o, rfl, hz, hbl, hc⟩ := h5 (by omega)
  have hw := h.wf c (List.mem_of_getElem? hi)
  exact ⟨b, o, rfl, hz, hbl, hw.1, hw.2, hc i _ (by rw [List.getElem?_map, hi]; rfl)⟩
/-- A delta's value. -/
structure RD (Z : Nat → Prop) (w : World) (v : Value) (d : Delta) : Prop where
  out : ∃ vg vc vh, v = .agg #[vg, vc, vh] ∧ RG Z w vg d.gone ∧ RE Z w vc d.come ∧ RH Z w vh d.chg
theorem RD.stp {Z Z' : Nat → Prop} {w w' : World} {v : Value} {d : Delta} (h : RD Z w v d) (hs : Stp Z w Z' w') : RD Z' w' v d := by
  obtain ⟨vg, vc, vh, rfl, h1, h2, h3⟩ := h.out
  exact ⟨_, _, _, rfl, h1.stp hs, h2.stp hs, h3.stp hs⟩
theorem RD.below {Z : Nat → Prop} {w w' : World} {v : Value} {d : Delta} (h : RD Z w v d) (hs : Below w.heap.size w w') : RD Z w' v d := h.stp (.of_below hs)
theorem RD.anti {Z Y : Nat → Prop} {w : World} {v : Value} {d : Delta} (h : RD Z w v d) (hz : ∀ k, k < w.heap.size → Y k → Z k) : RD Y w v d := by
  obtain ⟨vg, vc, vh, rfl, h1, h2, h3⟩ := h.out
  exact ⟨_, _, _, rfl, h1.anti hz, h2.anti hz, h3.anti hz⟩

/-! ### The delta as it grows -/
def dz (B D : Nat) (vg vc vh : Value) : Nat → Prop := fun k => k < B ∨ k = D ∨ vg.ownBlock = some k ∨ vc.ownBlock = some k ∨ vh.ownBlock = some k
structure Acc (w : World) (B D : Nat) (vg vc vh : Value) (d : Delta) : Prop where
  box : w.heap[D]? = some (.cells #[vg, vc, vh] 63 (0, 0))
  low : B ≤ D
  g : Mine w B 40 1 vg d.gone.length (d.gone.map (.int .u32 ·))
  gwf : ∀ i ∈ d.gone, 0 ≤ i ∧ i ≤ 4294967295
  c : ∃ hs : List Value, hs.length = d.come.length ∧ Mine w B 43 2 vc d.come.length (ecells ((d.come.map Ent.id).zip hs)) ∧ ∀ (i : Nat) (e : Ent) (h : Value), d.come[i]? = some e → hs[i]? = some h → RC (dz B D vg vc vh) w h e.comps
  cwf : ∀ e ∈ d.come, e.wf
  h : ∃ ps : List (Value × Value), ps.length = d.chg.length ∧ Mine w B 88 4 vh d.chg.length (hcells ((d.chg.map Change.key).zip ps)) ∧ ∀ (i : Nat) (c : Change) (p : Value × Value), d.chg[i]? = some c → ps[i]? = some p → RC (dz B D vg vc vh) w p.1 c.new ∧ RC (dz B D vg vc vh) w p.2 c.set
  hwf : ∀ c ∈ d.chg, c.wf
theorem Acc.nil {w : World} {B D : Nat} (hb : w.heap[D]? = some (.cells #[.slice none 0 0, .slice none 0 0, .slice none 0 0] 63 (0, 0))) (hl : B ≤ D) : Acc w B D (.slice none 0 0) (.slice none 0 0) (.slice none 0 0) Delta.nil :=
  ⟨hb, hl, Mine.nil _ _ _ _, by simp [Delta.nil], ⟨[], rfl, Mine.nil _ _ _ _, by simp [Delta.nil]⟩, by simp [Delta.nil], ⟨[], rfl, Mine.nil _ _ _ _, by simp [Delta.nil]⟩, by simp [Delta.nil]⟩
theorem Acc.below {w w' : World} {B D : Nat} {vg vc vh : Value} {d : Delta} (h : Acc w B D vg vc vh d) (hb : Below w.heap.size w w') : Acc w' B D vg vc vh d := by
  obtain ⟨hs, c1, c2, c3⟩ := h.c
  obtain ⟨ps, p1, p2, p3⟩ := h.h
  exact ⟨(hb.block D (heap_lt h.box)).trans h.box, h.low, h.g.below hb, h.gwf, ⟨hs, c1, c2.below hb, fun i e x he hx => (c3 i e x he hx).below hb⟩, h.cwf,
    ⟨ps, p1, p2.below hb, fun i e x he hx => ⟨(p3 i e x he hx).1.below hb, (p3 i e x he hx).2.below hb⟩⟩, h.hwf⟩
theorem Acc.alloc {w : World} {B D : Nat} {vg vc vh : Value} {d : Delta} (h : Acc w B D vg vc vh d) (o : Obj) : Acc (w.alloc o) B D vg vc vh d := h.below ((Below.refl _ _).alloc (Nat.le_refl _) _)
theorem Acc.drew {w : World} {B D : Nat} {vg vc vh : Value} {d : Delta} (h : Acc w B D vg vc vh d) : Acc w.drew B D vg vc vh d := h.below (Below.refl _ _).drew
theorem Acc.drewN {w : World} {B D : Nat} {vg vc vh : Value} {d : Delta} (h : Acc w B D vg vc vh d) (n : Nat) : Acc (w.drewN n) B D vg vc vh d := h.below (below_drewN (Below.refl _ _) n)
theorem own_elem {w : World} {e : TypeId} {size : Nat} {v : Value} {n : Nat} {xs : List Value} (h : w.ownsRow 0 e size v n xs) {k : Nat} (hk : v.ownBlock = some k) : ∃ cs, w.heap[k]? = some (.cells cs e (0, 0)) := by
  rcases h.2 with ⟨rfl, _⟩ | ⟨g, cap, cur, rfl, _, hh, _⟩
  · simp [Value.ownBlock] at hk
  · simp [Value.ownBlock] at hk; subst hk; exact ⟨_, hh⟩
theorem apart_elem {w : World} {B B' : Nat} {e e' : TypeId} {sz sz' : Nat} {v v' : Value} {n n' : Nat} {xs xs' : List Value} (h : Mine w B e sz v n xs) (h' : Mine w B' e' sz' v' n' xs') (hne : e ≠ e') : Apart v v' := by
  intro k hk hk'
  obtain ⟨cs, hc⟩ := own_elem h'.own hk'
  exact own_block_ne h.own hc hne hk
theorem set30 {w : World} {D : Nat} {a b c z : Value} {T : TypeId} {fz : Nat × Nat} (h : w.heap[D]? = some (.cells #[a, b, c] T fz)) : (w.setCell ⟨D, 0, none⟩ z).heap[D]? = some (.cells #[z, b, c] T fz) := by
  simp [World.setCell, Array.getElem?_modify, h]
theorem set31 {w : World} {D : Nat} {a b c z : Value} {T : TypeId} {fz : Nat × Nat} (h : w.heap[D]? = some (.cells #[a, b, c] T fz)) : (w.setCell ⟨D, 1, none⟩ z).heap[D]? = some (.cells #[a, z, c] T fz) := by
  simp [World.setCell, Array.getElem?_modify, h]
theorem set32 {w : World} {D : Nat} {a b c z : Value} {T : TypeId} {fz : Nat × Nat} (h : w.heap[D]? = some (.cells #[a, b, c] T fz)) : (w.setCell ⟨D, 2, none⟩ z).heap[D]? = some (.cells #[a, b, z] T fz) := by
  simp [World.setCell, Array.getElem?_modify, h]
/-- The step of one row: what the others keep. -/
theorem acc_stp {w w1 : World} {B D o : Nat} {vg vc vh vg' vc' vh' v v' u : Value} (hg : Grew w v w1 v') (hv : ∀ k, v.ownBlock = some k → dz B D vg vc vh k) (hz : ∀ k, dz B D vg' vc' vh' k → dz B D vg vc vh k ∨ w.heap.size ≤ k) :
    Stp (dz B D vg vc vh) w (dz B D vg' vc' vh') (w1.setCell ⟨D, o, none⟩ u) :=
  Stp.re (Stp.setCell (Stp.grown (Stp.refl (dz B D vg vc vh) w) hg.grow (fun k hk => Or.inl (hv k hk))) ⟨D, o, none⟩ u (Or.inl (Or.inr (Or.inl rfl)))) hz
theorem Acc.goneS {w w1 : World} {B D : Nat} {vg vc vh v' : Value} {d : Delta} (h : Acc w B D vg vc vh d) {id : Int} (hi : 0 ≤ id ∧ id ≤ 4294967295) (hg : Grew w vg w1 v') (hm : Mine w1 B 40 1 v' (d.gone.length + 1) (d.gone.map (.int .u32 ·) ++ [.int .u32 id])) :
    Acc (w1.setCell ⟨D, 0, none⟩ v') B D v' vc vh (d.app ⟨[id], [], []⟩) := by
  obtain ⟨hs, c1, c2, c3⟩ := h.c
  obtain ⟨ps, p1, p2, p3⟩ := h.h
  have hst : Stp (dz B D vg vc vh) w (dz B D v' vc vh) (w1.setCell ⟨D, 0, none⟩ v') := acc_stp hg (fun k hk => Or.inr (Or.inr (Or.inl hk))) (fun k hk => by
    rcases hk with hk | hk | hk | hk | hk
    · exact Or.inl (Or.inl hk)
    · exact Or.inl (Or.inr (Or.inl hk))
    · rcases hg.move with h1 | h1
      · exact Or.inl (Or.inr (Or.inr (Or.inl (by rw [← h1]; exact hk))))
      · exact Or.inr (h1 k hk).1
    · exact Or.inl (Or.inr (Or.inr (Or.inr (Or.inl hk))))
    · exact Or.inl (Or.inr (Or.inr (Or.inr (Or.inr hk)))))
  have hb1 : w1.heap[D]? = some (.cells #[vg, vc, vh] 63 (0, 0)) := (hg.block (heap_lt h.box) (own_block_ne h.g.own h.box (by decide))).trans h.box
  refine ⟨set30 hb1, h.low, ?_, ?_, ⟨hs, by simpa [Delta.app] using c1, ?_, ?_⟩, ?_, ⟨ps, by simpa [Delta.app] using p1, ?_, ?_⟩, ?_⟩
  · have := hm.setBy hb1 (by decide) 0 v'; simpa [Delta.app] using this
  · intro i hi'; simp only [Delta.app, List.mem_append, List.mem_singleton] at hi'; rcases hi' with h1 | h1
    · exact h.gwf i h1
    · subst h1; exact hi
  · have := (hg.other (apart_elem h.g c2 (by decide)) c2).setBy hb1 (by decide) 0 v'; simpa [Delta.app] using this
  · intro i e x he hx; exact (c3 i e x (by simpa [Delta.app] using he) hx).stp hst
  · intro e he; exact h.cwf e (by simpa [Delta.app] using he)
  · have := (hg.other (apart_elem h.g p2 (by decide)) p2).setBy hb1 (by decide) 0 v'; simpa [Delta.app] using this
  · intro i e x he hx; have := p3 i e x (by simpa [Delta.app] using he) hx; exact ⟨this.1.stp hst, this.2.stp hst⟩
  · intro e he; exact h.hwf e (by simpa [Delta.app] using he)
theorem zip_snoc {α β : Type} (l : List α) (m : List β) (a : α) (b : β) (h : l.length = m.length) : (l ++ [a]).zip (m ++ [b]) = l.zip m ++ [(a, b)] := by
  rw [List.zip_append h]; rfl
theorem snoc_get {α β : Type} {l : List α} {m : List β} {a : α} {b : β} {i : Nat} {x : α} {y : β} (h : l.length = m.length) (hx : (l ++ [a])[i]? = some x) (hy : (m ++ [b])[i]? = some y) : (l[i]? = some x ∧ m[i]? = some y) ∨ (x = a ∧ y = b) := by
  rcases Nat.lt_trichotomy i l.length with h1 | h1 | h1
  · rw [List.getElem?_append_left h1] at hx; rw [List.getElem?_append_left (by omega)] at hy; exact .inl ⟨hx, hy⟩
  · subst h1
    rw [List.getElem?_append_right (Nat.le_refl _)] at hx; rw [List.getElem?_append_right (by omega)] at hy
    rw [h] at hy; simp at hx hy; exact .inr ⟨hx.symm, hy.symm⟩
  · have := (List.getElem?_eq_some_iff.1 hx).1; simp at this; omega
theorem Acc.comeS {w w1 : World} {B D : Nat} {vg vc vh v' hv : Value} {d : Delta} (h : Acc w B D vg vc vh d) {e : Ent} (he : e.wf) (hc : RC (dz B D vg vc vh) w hv e.comps) (hg : Grew w vc w1 v')
    (hm : ∀ xs, Mine w B 43 2 vc d.come.length xs → Mine w1 B 43 2 v' (d.come.length + 1) (xs ++ [.int .u32 e.id, hv])) :
    Acc (w1.setCell ⟨D, 1, none⟩ v') B D vg v' vh (d.app ⟨[], [e], []⟩) := by
  obtain ⟨hs, c1, c2, c3⟩ := h.c
  obtain ⟨ps, p1, p2, p3⟩ := h.h
  have hst : Stp (dz B D vg vc vh) w (dz B D vg v' vh) (w1.setCell ⟨D, 1, none⟩ v') := acc_stp hg (fun k hk => Or.inr (Or.inr (Or.inr (Or.inl hk)))) (fun k hk => by
    rcases hk with hk | hk | hk | hk | hk
    · exact Or.inl (Or.inl hk)
    · exact Or.inl (Or.inr (Or.inl hk))
    · exact Or.inl (Or.inr (Or.inr (Or.inl hk)))
    · rcases hg.move with h1 | h1
      · exact Or.inl (Or.inr (Or.inr (Or.inr (Or.inl (by rw [← h1]; exact hk)))))
      · exact Or.inr (h1 k hk).1
    · exact Or.inl (Or.inr (Or.inr (Or.inr (Or.inr hk)))))
  have hb1 : w1.heap[D]? = some (.cells #[vg, vc, vh] 63 (0, 0)) := (hg.block (heap_lt h.box) (own_block_ne c2.own h.box (by decide))).trans h.box
  refine ⟨set31 hb1, h.low, ?_, ?_, ⟨hs ++ [hv], by simpa [Delta.app] using c1, ?_, ?_⟩, ?_, ⟨ps, by simpa [Delta.app] using p1, ?_, ?_⟩, ?_⟩
  · have := (hg.other (apart_elem c2 h.g (by decide)) h.g).setBy hb1 (by decide) 1 v'; simpa [Delta.app] using this
  · intro i hi; exact h.gwf i (by simpa [Delta.app] using hi)
  · have := (hm _ c2).setBy hb1 (by decide) 1 v'
    simp only [Delta.app, List.length_append, List.length_singleton, List.map_append, List.map_cons, List.map_nil]
    rw [zip_snoc _ _ _ _ (by simpa using c1.symm)]
    simpa [ecells] using this
  · intro i x y hx hy
    rcases snoc_get c1.symm hx hy with ⟨h1, h2⟩ | ⟨h1, h2⟩
    · exact (c3 i x y h1 h2).stp hst
    · subst h1; subst h2; exact hc.stp hst
  · intro x hx; simp only [Delta.app, List.mem_append, List.mem_singleton] at hx; rcases hx with h1 | h1
    · exact h.cwf x h1
    · subst h1; exact he
  · have := (hg.other (apart_elem c2 p2 (by decide)) p2).setBy hb1 (by decide) 1 v'; simpa [Delta.app] using this
  · intro i e x he hx; have := p3 i e x (by simpa [Delta.app] using he) hx; exact ⟨this.1.stp hst, this.2.stp hst⟩
  · intro e he; exact h.hwf e (by simpa [Delta.app] using he)
theorem Acc.chgS {w w1 : World} {B D : Nat} {vg vc vh v' vn vs : Value} {d : Delta} (h : Acc w B D vg vc vh d) {c : Change} (he : c.wf) (hn : RC (dz B D vg vc vh) w vn c.new) (hss : RC (dz B D vg vc vh) w vs c.set) (hg : Grew w vh w1 v')
    (hm : ∀ xs, Mine w B 88 4 vh d.chg.length xs → Mine w1 B 88 4 v' (d.chg.length + 1) (xs ++ [.int .u32 c.id, .int .u8 c.lost, vn, vs])) :
    Acc (w1.setCell ⟨D, 2, none⟩ v') B D vg vc v' (d.app ⟨[], [], [c]⟩) := by
  obtain ⟨hs, c1, c2, c3⟩ := h.c
  obtain ⟨ps, p1, p2, p3⟩ := h.h
  have hst : Stp (dz B D vg vc vh) w (dz B D vg vc v') (w1.setCell ⟨D, 2, none⟩ v') := acc_stp hg (fun k hk => Or.inr (Or.inr (Or.inr (Or.inr hk)))) (fun k hk => by
    rcases hk with hk | hk | hk | hk | hk
    · exact Or.inl (Or.inl hk)
    · exact Or.inl (Or.inr (Or.inl hk))
    · exact Or.inl (Or.inr (Or.inr (Or.inl hk)))
    · exact Or.inl (Or.inr (Or.inr (Or.inr (Or.inl hk))))
    · rcases hg.move with h1 | h1
      · exact Or.inl (Or.inr (Or.inr (Or.inr (Or.inr (by rw [← h1]; exact hk)))))
      · exact Or.inr (h1 k hk).1)
  have hb1 : w1.heap[D]? = some (.cells #[vg, vc, vh] 63 (0, 0)) := (hg.block (heap_lt h.box) (own_block_ne p2.own h.box (by decide))).trans h.box
  refine ⟨set32 hb1, h.low, ?_, ?_, ⟨hs, by simpa [Delta.app] using c1, ?_, ?_⟩, ?_, ⟨ps ++ [(vn, vs)], by simpa [Delta.app] using p1, ?_, ?_⟩, ?_⟩
  · have := (hg.other (apart_elem p2 h.g (by decide)) h.g).setBy hb1 (by decide) 2 v'; simpa [Delta.app] using this
  · intro i hi; exact h.gwf i (by simpa [Delta.app] using hi)
  · have := (hg.other (apart_elem p2 c2 (by decide)) c2).setBy hb1 (by decide) 2 v'; simpa [Delta.app] using this
  · intro i e x he hx; exact (c3 i e x (by simpa [Delta.app] using he) hx).stp hst
  · intro e he; exact h.cwf e (by simpa [Delta.app] using he)
  · have := (hm _ p2).setBy hb1 (by decide) 2 v'
    simp only [Delta.app, List.length_append, List.length_singleton, List.map_append, List.map_cons, List.map_nil]
    rw [zip_snoc _ _ _ _ (by simpa using p1.symm)]
    simpa [hcells, Change.key] using this
  · intro i x y hx hy
    rcases snoc_get p1.symm hx hy with ⟨h1, h2⟩ | ⟨h1, h2⟩
    · exact ⟨(p3 i x y h1 h2).1.stp hst, (p3 i x y h1 h2).2.stp hst⟩
    · subst h1; subst h2; exact ⟨hn.stp hst, hss.stp hst⟩
  · intro x hx; simp only [Delta.app, List.mem_append, List.mem_singleton] at hx; rcases hx with h1 | h1
    · exact h.hwf x h1
    · subst h1; exact he
/-- As a delta that is read. -/
theorem Acc.rd {w : World} {B D : Nat} {vg vc vh : Value} {d : Delta} (h : Acc w B D vg vc vh d) : RD (fun k => k < B) w (.agg #[vg, vc, vh]) d := by
  obtain ⟨hs, c1, c2, c3⟩ := h.c
  obtain ⟨ps, p1, p2, p3⟩ := h.h
  refine ⟨vg, vc, vh, rfl, ⟨h.g.sl, h.gwf⟩, ⟨⟨hs, c1, c2.sl, fun i e x he hx => ?_⟩, h.cwf⟩, ⟨⟨ps, p1, p2.sl, fun i e x he hx => ?_⟩, h.hwf⟩⟩
  · exact (c3 i e x he hx).anti fun k _ hk => Or.inl hk
  · exact ⟨(p3 i e x he hx).1.anti fun k _ hk => Or.inl hk, (p3 i e x he hx).2.anti fun k _ hk => Or.inl hk⟩
end Go.Proofs.Ytbklglckmhfmcaa
