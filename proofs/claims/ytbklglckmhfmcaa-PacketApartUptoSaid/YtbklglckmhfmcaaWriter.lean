/- packet.writer: keep, plain, count, id, comps. -/
import Derived.Test.YtbklglckmhfmcaaCompD
set_option linter.unusedVariables false
set_option linter.unusedSimpArgs false
namespace Go.Proofs.Ytbklglckmhfmcaa
open Go.RowKit
set_option maxRecDepth 100000

/-- What a packet.writer holds: an error that stays, and bits. -/
structure WS where
  e : Int
  l : List Bool
def keepE (e x : Int) : Int := if e = 0 then x else e
def WS.keep (s : WS) (x : Int) : WS := ⟨keepE s.e x, s.l⟩
def WS.put (s : WS) (v n : Int) : WS := ⟨keepE s.e (putE s.l v n), putL s.l v n⟩
def WS.var (s : WS) (v : Int) : WS := ⟨keepE s.e (putVarE s.l v), putVarL s.l v⟩
def WS.inn (s : WS) (n lo hi : Int) : WS := ⟨keepE s.e (putInE s.l n lo hi), putInL s.l n lo hi⟩
def WS.comp (s : WS) (c : Comp) : WS := ⟨keepE s.e (compE s.l c), compL s.l c⟩
def WS.step (s : WS) (was c : Comp) : WS := ⟨keepE s.e (compSE s.l was c), compSL s.l was c⟩
def WS.comps (s : WS) (l : List Comp) : WS := l.foldl WS.comp s
def WS.id (s : WS) (last id : Int) : WS := s.var ((id - last - 1) % 4294967296)
/-- Block c is a packet.writer's struct, over the writer b. -/
structure PW (w : World) (c b g : Nat) (s : WS) : Prop where
  blk : w.heap[c]? = some (.cells #[.pointer (some ⟨b, 0, none⟩), .int .i64 s.e] 55 (0, 0))
  wr : Wr w b g s.l
  cb : c ≠ b
  cg : c ≠ g
def pz (c b g : Nat) : Nat → Prop := fun k => k = c ∨ k = b ∨ k = g
theorem PW.lt {w : World} {c b g : Nat} {s : WS} (h : PW w c b g s) : c < w.heap.size ∧ b < w.heap.size ∧ g < w.heap.size := ⟨heap_lt h.blk, h.wr.lt.1, h.wr.lt.2⟩
theorem PW.stp {Z Z' : Nat → Prop} {w w' : World} {c b g : Nat} {s : WS} (h : PW w c b g s) (hs : Stp Z w Z' w') (hc : ¬ Z c) (hb : ¬ Z b) (hg : ¬ Z g) : PW w' c b g s :=
  ⟨(hs.block c h.lt.1 hc).trans h.blk, h.wr.stp hs hb hg, h.cb, h.cg⟩
theorem PW.below {w w' : World} {c b g : Nat} {s : WS} (h : PW w c b g s) (hb : Below w.heap.size w w') : PW w' c b g s := h.stp (Stp.of_below (Z := fun _ => False) hb) _root_.id _root_.id _root_.id
theorem PW.drew {w : World} {c b g : Nat} {s : WS} (h : PW w c b g s) : PW w.drew c b g s := ⟨h.blk, h.wr.drew, h.cb, h.cg⟩
theorem PW.c0 {w : World} {c b g : Nat} {s : WS} (h : PW w c b g s) : w.cell? ⟨c, 0, none⟩ = some (.pointer (some ⟨b, 0, none⟩)) := cell_at h.blk rfl
theorem PW.c1 {w : World} {c b g : Nat} {s : WS} (h : PW w c b g s) : w.cell? ⟨c, 1, none⟩ = some (.int .i64 s.e) := cell_at h.blk rfl
/-- Behind a step of the inner writer. -/
theorem PW.inner {w w' : World} {c b g g' : Nat} {s : WS} {l' : List Bool} (h : PW w c b g s) (hw : Wr w' b g' l') (hs : Stp (zn b g) w (zn b g') w') :
    PW w' c b g' ⟨s.e, l'⟩ ∧ Stp (pz c b g) w (pz c b g') w' := by
  have hcz : ¬ zn b g c := fun hk => by rcases hk with hk | hk; exact h.cb hk; exact h.cg hk
  refine ⟨⟨(hs.block c h.lt.1 hcz).trans h.blk, hw, h.cb, fun e => ?_⟩, hs.mono' (fun k hk => .inr hk) (fun k hk => ?_)⟩
  · subst e
    rcases hs.zone c (.inr rfl) with h1 | h1
    · exact hcz h1
    · have := h.lt.1; omega
  · rcases hk with hk | hk
    · exact .inl (.inl hk)
    · exact .inr hk

set_option maxHeartbeats 2000000 in
theorem keep_any (c b g : Nat) (s : WS) (x : Int) (w : World) (h : PW w c b g s) :
    Calls Try.prog 20 #[.pointer (some ⟨c, 0, none⟩), .int .i64 x] w
      fun e w' => e = .returned (.tuple #[]) ∧ PW w' c b g (s.keep x) ∧ Stp (pz c b g) w (pz c b g) w' := by
  have c1 := h.c1
  have f1 : w.frozen? ⟨c, 1, none⟩ = false := unfrozen h.blk
  have HH := Lib.hid h
  by_cases he : s.e = 0
  · have he1 : (s.e == 0) = true := by simp [he]
    have HE := Lib.hid he
    clear h he
    go_enter Try.func20, Try.ntmps20
    go_wp2
    go_end0
    have hs : Stp (pz c b g) w (pz c b g) (w.setCell ⟨c, 1, none⟩ (.int .i64 x)) := (Stp.refl _ _).setCell _ _ (.inl (.inl rfl))
    refine ⟨rfl, ⟨?_, ?_, HH.out.cb, HH.out.cg⟩, hs⟩
    · simp [World.setCell, Array.getElem?_modify, HH.out.blk, WS.keep, keepE, HE.out]
    · have hst : Stp (fun k => k = c) w (fun k => k = c) (w.setCell ⟨c, 1, none⟩ (.int .i64 x)) := (Stp.refl _ _).setCell _ _ (.inl rfl)
      exact HH.out.wr.stp hst (fun e => HH.out.cb e.symm) (fun e => HH.out.cg e.symm)
  · have he1 : (s.e == 0) = false := by simp [he]
    have hk : s.keep x = s := by simp [WS.keep, keepE, he]
    have HK := Lib.hid hk
    clear h he hk
    go_enter Try.func20, Try.ntmps20
    go_wp2
    go_end0
    rw [HK.out]
    exact ⟨rfl, HH.out, .refl _ _⟩

set_option maxHeartbeats 2000000 in
theorem plain_any (c b g : Nat) (s : WS) (v n : Int) (w : World) (h : PW w c b g s) (hn0 : 0 ≤ n) (hn1 : n ≤ 64) (hv0 : 0 ≤ v) (hv1 : v < 18446744073709551616) :
    Calls Try.prog 33 #[.pointer (some ⟨c, 0, none⟩), .int .u64 v, .int .i64 n] w
      fun e w' => e = .returned (.tuple #[]) ∧ ∃ g', PW w' c b g' (s.put v n) ∧ Stp (pz c b g) w (pz c b g') w' := by
  have c0 := h.c0
  have HH := Lib.hid h
  clear h
  go_enter Try.func33, Try.ntmps33
  go_wp2_with fail
  refine (put_any b g s.l v n _ HH.out.wr hn0 hn1 hv0 hv1).mono ?_
  rintro e w1 ⟨rfl, g1, hw1, hs1⟩
  obtain ⟨h1, h2⟩ := HH.out.inner hw1 hs1
  have H2 := Lib.hid h2
  clear hw1 hs1 h2
  go_wp2_with fail
  refine (keep_any c b g1 _ _ _ h1).mono ?_
  rintro e w2 ⟨rfl, h3, h4⟩
  go_wp2_with fail
  go_end0
  exact ⟨rfl, g1, h3, H2.out.trans h4⟩
set_option maxHeartbeats 2000000 in
theorem count_any' (c b g : Nat) (s : WS) (n : Nat) (w : World) (h : PW w c b g s) (hn : n ≤ 9223372036854775807) :
    Calls Try.prog 37 #[.pointer (some ⟨c, 0, none⟩), .int .i64 n] w
      fun e w' => e = .returned (.tuple #[]) ∧ ∃ g', PW w' c b g' (s.var n) ∧ Stp (pz c b g) w (pz c b g') w' := by
  have c0 := h.c0
  have HH := Lib.hid h
  have hx : IntKind.u64.wrap (n : Int) = n := IntWalk.u64_in _ (by omega)
  clear h
  go_enter Try.func37, Try.ntmps37
  go_wp2_with fail
  refine (putVar_any b g s.l n _ HH.out.wr (by omega) (by omega)).mono ?_
  rintro e w1 ⟨rfl, g1, hw1, hs1⟩
  obtain ⟨h1, h2⟩ := HH.out.inner hw1 hs1
  have H2 := Lib.hid h2
  clear hw1 hs1 h2
  go_wp2_with fail
  refine (keep_any c b g1 _ _ _ h1).mono ?_
  rintro e w2 ⟨rfl, h3, h4⟩
  go_wp2_with fail
  go_end0
  exact ⟨rfl, g1, h3, H2.out.trans h4⟩
end Go.Proofs.Ytbklglckmhfmcaa
