/- packet.writer.delta: what it writes; the callees' contracts said of the writer with its running ID. -/
import Derived.Test.YtbklglckmhfmcaaDiff
import Derived.Test.YtbklglckmhfmcaaWriterC
import Derived.Deep.RegionHeld3
set_option linter.unusedVariables false
set_option linter.unusedSimpArgs false
namespace Go.Proofs.Ytbklglckmhfmcaa
open Go.RowKit
set_option maxRecDepth 100000

def WS.goneStep (p : WS × Int) (id : Int) : WS × Int := (p.1.id p.2 id, id)
def WS.gone (s : WS) (l : List Int) : WS := (l.foldl WS.goneStep (s.var l.length, 0)).1
def WS.put5 (s : WS) (m : Int) : WS := s.put m 5
def WS.steps (was : List Ent) (id : Int) (s : WS) (l : List Comp) : WS := l.foldl (fun s x => s.step (oldC was id x.k) x) s
def Change.bytes (c : Change) : List Int := [c.lost, maskN c.new, maskN c.set]
def WS.chgStep (was : List Ent) (p : WS × Int) (c : Change) : WS × Int :=
  (WS.steps was c.id ((c.bytes.foldl WS.put5 (p.1.id p.2 c.id)).comps c.new) c.set, c.id)
def WS.delta (s : WS) (was : List Ent) (d : Delta) : WS :=
  (d.chg.foldl (WS.chgStep was) ((((s.gone d.gone).ents d.come).var d.chg.length), 0)).1

/-- A block that holds o, outside the zone. -/
structure Held (Z : Nat → Prop) (w : World) (X : Nat) (cs : Array Value) (T : TypeId) : Prop where
  blk : w.heap[X]? = some (.cells cs T (0, 0))
  out : ¬ Z X
theorem Held.stp {Z Z' : Nat → Prop} {w w' : World} {X : Nat} {cs : Array Value} {T : TypeId} (h : Held Z w X cs T) (hs : Stp Z w Z' w') : Held Z' w' X cs T :=
  ⟨(hs.block X (heap_lt h.blk) h.out).trans h.blk, nz_keep h.out hs (heap_lt h.blk)⟩
theorem Held.below {Z : Nat → Prop} {w w' : World} {X : Nat} {cs : Array Value} {T : TypeId} (h : Held Z w X cs T) (hs : Below w.heap.size w w') : Held Z w' X cs T := h.stp (.of_below hs)
theorem Held.new {Z : Nat → Prop} {w : World} (cs : Array Value) (T : TypeId) (hz : ∀ k, Z k → k < w.heap.size) : Held Z (w.alloc (.cells cs T)) w.heap.size cs T :=
  ⟨heap_alloc_new _ _, fun h => by have := hz _ h; omega⟩
theorem Held.lt {Z : Nat → Prop} {w : World} {X : Nat} {cs : Array Value} {T : TypeId} (h : Held Z w X cs T) : X < w.heap.size := heap_lt h.blk
theorem Held.at {Z : Nat → Prop} {w : World} {X : Nat} {cs : Array Value} {T : TypeId} (h : Held Z w X cs T) {o : Nat} {v : Value} (hv : cs[o]? = some v) : w.cell? ⟨X, o, none⟩ = some v := cell_at h.blk hv

/-- The writer with its running ID in block d. -/
structure DW (w : World) (c b g d : Nat) (s : WS) (last : Int) : Prop where
  pw : PW w c b g s
  blk : w.heap[d]? = some (.cells #[.int .u32 last] 40 (0, 0))
  out : ¬ pz c b g d
  l0 : 0 ≤ last
  l1 : last ≤ 4294967295
theorem DW.lt {w : World} {c b g d : Nat} {s : WS} {last : Int} (h : DW w c b g d s last) : ∀ k, pzd c b g d k → k < w.heap.size := by
  have h1 := h.pw.lt
  have h2 := heap_lt h.blk
  rintro k ((hk | hk | hk) | hk) <;> omega
theorem DW.below {w w' : World} {c b g d : Nat} {s : WS} {last : Int} (h : DW w c b g d s last) (hb : Below w.heap.size w w') : DW w' c b g d s last :=
  ⟨h.pw.below hb, (hb.block d (heap_lt h.blk)).trans h.blk, h.out, h.l0, h.l1⟩
theorem DW.drew {w : World} {c b g d : Nat} {s : WS} {last : Int} (h : DW w c b g d s last) : DW w.drew c b g d s last := h.below (Below.refl _ _).drew
theorem DW.alloc {w : World} {c b g d : Nat} {s : WS} {last : Int} (h : DW w c b g d s last) (o : Obj) : DW (w.alloc o) c b g d s last := h.below ((Below.refl _ _).alloc (Nat.le_refl _) _)
/-- What a step of the writer alone keeps. -/
theorem DW.of_pw {w w' : World} {c b g g' d : Nat} {s s' : WS} {last : Int} (h : DW w c b g d s last) (hp : PW w' c b g' s') (hs : Stp (pz c b g) w (pz c b g') w') : DW w' c b g' d s' last ∧ Stp (pzd c b g d) w (pzd c b g' d) w' :=
  ⟨⟨hp, (hs.block d (heap_lt h.blk) h.out).trans h.blk, nz_keep h.out hs (heap_lt h.blk), h.l0, h.l1⟩, pzd_mono hs⟩
theorem did_any (c b g d : Nat) (s : WS) (last id : Int) (w : World) (h : DW w c b g d s last) (hi0 : 0 ≤ id) (hi1 : id ≤ 4294967295) :
    Calls Try.prog 38 #[.pointer (some ⟨c, 0, none⟩), .pointer (some ⟨d, 0, none⟩), .int .u32 id] w
      fun e w' => e = .returned (.tuple #[]) ∧ ∃ g', DW w' c b g' d (s.id last id) id ∧ Stp (pzd c b g d) w (pzd c b g' d) w' :=
  (id_any c b g d s last id w h.pw h.blk h.out h.l0 h.l1 hi0 hi1).mono (by rintro e w' ⟨rfl, g', h1, h2, h3, h4⟩; exact ⟨rfl, g', ⟨h1, h2, h3, hi0, hi1⟩, h4⟩)
theorem dplain_any (c b g d : Nat) (s : WS) (last v n : Int) (w : World) (h : DW w c b g d s last) (hn0 : 0 ≤ n) (hn1 : n ≤ 64) (hv0 : 0 ≤ v) (hv1 : v < 18446744073709551616) :
    Calls Try.prog 33 #[.pointer (some ⟨c, 0, none⟩), .int .u64 v, .int .i64 n] w
      fun e w' => e = .returned (.tuple #[]) ∧ ∃ g', DW w' c b g' d (s.put v n) last ∧ Stp (pzd c b g d) w (pzd c b g' d) w' :=
  (plain_any c b g s v n w h.pw hn0 hn1 hv0 hv1).mono (by rintro e w' ⟨rfl, g', h1, h2⟩; exact ⟨rfl, g', h.of_pw h1 h2⟩)
theorem dcount_any (c b g d : Nat) (s : WS) (last : Int) (n : Nat) (w : World) (h : DW w c b g d s last) (hn : n ≤ 9223372036854775807) :
    Calls Try.prog 37 #[.pointer (some ⟨c, 0, none⟩), .int .i64 n] w
      fun e w' => e = .returned (.tuple #[]) ∧ ∃ g', DW w' c b g' d (s.var n) last ∧ Stp (pzd c b g d) w (pzd c b g' d) w' :=
  (count_any' c b g s n w h.pw hn).mono (by rintro e w' ⟨rfl, g', h1, h2⟩; exact ⟨rfl, g', h.of_pw h1 h2⟩)
theorem dcomps_any (c b g d : Nat) (s : WS) (last : Int) (v : Value) (l : List Comp) (w : World) (h : DW w c b g d s last) (hv : RC (pzd c b g d) w v l) :
    Calls Try.prog 40 #[.pointer (some ⟨c, 0, none⟩), v] w
      fun e w' => e = .returned (.tuple #[]) ∧ ∃ g', DW w' c b g' d (s.comps l) last ∧ Stp (pzd c b g d) w (pzd c b g' d) w' :=
  (wcomps_any c b g s _ v l w h.pw hv (fun k hk => Or.inl hk)).mono (by rintro e w' ⟨rfl, g', h1, h2⟩; exact ⟨rfl, g', h.of_pw h1 h2⟩)
theorem dents_any (c b g d : Nat) (s : WS) (last : Int) (v : Value) (l : List Ent) (w : World) (h : DW w c b g d s last) (hv : RE (pzd c b g d) w v l) :
    Calls Try.prog 22 #[.pointer (some ⟨c, 0, none⟩), v] w
      fun e w' => e = .returned (.tuple #[]) ∧ ∃ g', DW w' c b g' d (s.ents l) last ∧ Stp (pzd c b g d) w (pzd c b g' d) w' :=
  (wents_any c b g s v l w h.pw (hv.anti fun k _ hk => Or.inl hk)).mono (by rintro e w' ⟨rfl, g', h1, h2⟩; exact ⟨rfl, g', h.of_pw h1 h2⟩)
theorem DW.reset {w : World} {c b g d : Nat} {s : WS} {last : Int} (h : DW w c b g d s last) : DW (w.setCell ⟨d, 0, none⟩ (.int .u32 0)) c b g d s 0 ∧ Stp (pzd c b g d) w (pzd c b g d) (w.setCell ⟨d, 0, none⟩ (.int .u32 0)) := by
  have hst : Stp (fun k => k = d) w (fun k => k = d) (w.setCell ⟨d, 0, none⟩ (.int .u32 0)) := (Stp.refl _ _).setCell _ _ (.inl rfl)
  refine ⟨⟨h.pw.stp hst (fun e => h.out (.inl e.symm)) (fun e => h.out (.inr (.inl e.symm))) (fun e => h.out (.inr (.inr e.symm))), ?_, h.out, by decide, by decide⟩, (Stp.refl _ _).setCell _ _ (.inl (.inr rfl))⟩
  simp [World.setCell, Array.getElem?_modify, h.blk]
structure EnvD (Z : Nat → Prop) (w : World) (v : Value) (was : List Ent) (D : Nat) (vg vc vh : Value) (d : Delta) : Prop where
  was : RE Z w v was
  box : Held Z w D #[vg, vc, vh] 63
  g : RG Z w vg d.gone
  c : RE Z w vc d.come
  h : RH Z w vh d.chg
theorem EnvD.stp {Z Z' : Nat → Prop} {w w' : World} {v : Value} {was : List Ent} {D : Nat} {vg vc vh : Value} {d : Delta} (h : EnvD Z w v was D vg vc vh d) (hs : Stp Z w Z' w') : EnvD Z' w' v was D vg vc vh d :=
  ⟨h.was.stp hs, h.box.stp hs, h.g.stp hs, h.c.stp hs, h.h.stp hs⟩
structure EnvC (Z : Nat → Prop) (w : World) (C : Nat) (x : Change) (vn vs : Value) : Prop where
  box : Held Z w C #[.int .u32 x.id, .int .u8 x.lost, vn, vs] 88
  n : RC Z w vn x.new
  s : RC Z w vs x.set
theorem EnvC.stp {Z Z' : Nat → Prop} {w w' : World} {C : Nat} {x : Change} {vn vs : Value} (h : EnvC Z w C x vn vs) (hs : Stp Z w Z' w') : EnvC Z' w' C x vn vs :=
  ⟨h.box.stp hs, h.n.stp hs, h.s.stp hs⟩
end Go.Proofs.Ytbklglckmhfmcaa
