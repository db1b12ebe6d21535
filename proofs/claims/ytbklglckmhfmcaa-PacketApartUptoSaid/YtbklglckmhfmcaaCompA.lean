/- comp's plain parts: field, more, whole, step, size, pair. -/
import Derived.Test.YtbklglckmhfmcaaComps
import Derived.Test.YtbklglckmhfmcaaOwn
import Derived.Deep.RegionHeld3
set_option linter.unusedVariables false
set_option linter.unusedSimpArgs false
namespace Go.Proofs.Ytbklglckmhfmcaa
open Go.RowKit
set_option maxRecDepth 100000

/-- A number of some bits. -/
structure Part where
  v : Int
  n : Int
def Part.cells (p : Part) : List Value := [.int .u64 p.v, .int .i64 p.n]
def Part.val (p : Part) : Value := .agg #[.int .u64 p.v, .int .i64 p.n]
/-- It fits its bits. -/
structure Part.wf (p : Part) : Prop where
  v0 : 0 ≤ p.v
  n0 : 0 ≤ p.n
  n1 : p.n ≤ 20
  fit : p.v < 2 ^ p.n.toNat
theorem info_part : (Try.prog.info? 128).map (fun i => (i.zero, i.size, i.bytes)) = some (some (.agg #[.int .u64 0, .int .i64 0]), 2, 16) := by kernel_rfl

def fieldP (c : Comp) (i : Nat) : Part := ⟨c.f i - lo c.k i, blen (hi c.k i - lo c.k i)⟩
def wholeP (c : Comp) : List Part := (List.range (cnt c.k)).map (fieldP c)
def moreZ (was c : Comp) (i : Nat) : Int := zig (c.f i - was.f i)
def stepI (was c : Comp) (i : Nat) : List Part :=
  if moreZ was c i = 0 then [⟨0, 1⟩] else if moreZ was c i ≤ 16 then [⟨1, 1⟩, ⟨1, 1⟩, ⟨moreZ was c i - 1, 4⟩] else [⟨1, 1⟩, ⟨0, 1⟩, fieldP c i]
def stepP (was c : Comp) : List Part := (List.range (cnt c.k)).flatMap (stepI was c)
/-- A component that is one. -/
theorem checkE_zero {c : Comp} (h : checkE c = 0) : cnt c.k ≠ 0 ∧ (∀ i, i < cnt c.k → lo c.k i ≤ c.f i ∧ c.f i ≤ hi c.k i) ∧ (∀ i, cnt c.k ≤ i → i < 3 → c.f i = 0) := by
  unfold checkE at h
  split at h
  · omega
  · rename_i h1
    split at h
    · omega
    · rename_i h2
      split at h
      · omega
      · rename_i h3
        refine ⟨h1, fun i hi' => ?_, fun i h4 h5 => ?_⟩
        · have := okRange_false c i hi'
          by_cases h6 : c.f i < lo c.k i ∨ hi c.k i < c.f i
          · exact absurd (this h6) h3
          · omega
        · have := okTail_false c i h5 h4
          by_cases h6 : c.f i = 0
          · exact h6
          · exact absurd (this h6) h2
theorem field_wf (c : Comp) (i : Nat) (h : checkE c = 0) (hlt : i < cnt c.k) : (fieldP c i).wf := by
  obtain ⟨_, h2, _⟩ := checkE_zero h
  have h3 := h2 i hlt
  have h4 := lohi c.k i
  have hb := blen_lt (hi c.k i - lo c.k i) 20 (by omega)
  have hb0 := blen_nonneg (hi c.k i - lo c.k i)
  have hl := lt_blen (hi c.k i - lo c.k i) (by omega)
  exact ⟨by simp only [fieldP]; omega, hb0, by simp only [fieldP]; omega, by simp only [fieldP]; omega⟩

set_option maxHeartbeats 2000000 in
theorem field_any (c : Comp) (i : Nat) (w : World) (hc : c.wf) (he : checkE c = 0) (hlt : i < cnt c.k) :
    Calls Try.prog 77 #[c.v, .int .i64 i] w fun e w' => e = .returned (fieldP c i).val ∧ Below w.heap.size w w' := by
  have hwf := field_wf c i he hlt
  have hcr := (checkE_zero he).2.1 i hlt
  have hlh := lohi c.k i
  have hn3 := cnt_le c.k
  have hcf := hc.f i
  obtain ⟨k0, k1, hf⟩ := hc
  clear hf
  have hx1 : IntKind.u64.wrap (IntKind.i64.wrap (c.f i - lo c.k i)) = c.f i - lo c.k i := by rw [IntWalk.i64_in _ (by omega), IntWalk.u64_in _ (by omega)]
  have hx2 : IntKind.i64.wrap (lo c.k i) = lo c.k i := IntWalk.i64_in _ (by omega)
  have hx3 : IntKind.i64.wrap (hi c.k i) = hi c.k i := IntWalk.i64_in _ (by omega)
  have hx4 : IntKind.i64.wrap (c.f i) = c.f i := IntWalk.i64_in _ (by omega)
  have hi3 : (i : Int) < 3 := by omega
  have hi0 : (0 : Int) ≤ (i : Int) := by omega
  have HE := Lib.hid he
  have HW := Lib.hid hwf
  clear he hwf
  unfold Comp.v
  go_enter Try.func77, Try.ntmps77
  go_wp2_with fail
  refine (range_any _ _ _ k0 k1 hlt).mono ?_
  rintro e w' ⟨rfl, hb⟩
  have hbx : BoxC w' w.heap.size c := ((BoxC.new w c).below ((Below.refl _ _).alloc (Nat.le_refl _) _)).below hb
  have hcell := hbx.f i (by omega)
  obtain ⟨hce, hfe⟩ := bcell hb
  have hszw := hb.size
  go_wp2_with fail
  go_region_held3 (fun w2 => w2.cell? ⟨w.heap.size, 1 + i, none⟩ = some (.int .i32 (c.f i))) (go_keep) (first | (go_at_call 54; refine (width_any _ _ _ (by omega) (by omega) (by omega)).mono ?_; rintro e w2 ⟨rfl, rfl⟩))
  go_wp2_with fail
  exact bodyPost_ret (v := (fieldP c i).val) (by simp [results, Try.results77, go_sem, hce, hfe, fieldP, Part.val]) rfl
    ⟨rfl, by
      have h1 : Below w.heap.size w w' := (((Below.refl _ _).alloc (Nat.le_refl _) _).alloc (by simp) _).trans (hb.mono (by simp; omega))
      first
        | exact ((h1.drew.setCell (by simp) _).setCell (by simp) _)
        | exact ((h1.setCell (by simp) _).setCell (by simp) _).drew⟩

/-- v is a slice of parts that reads as l. -/
structure RP (Z : Nat → Prop) (w : World) (v : Value) (l : List Part) : Prop where
  sl : Sl Z w 2 v l.length (l.flatMap Part.cells)
theorem RP.stp {Z Z' : Nat → Prop} {w w' : World} {v : Value} {l : List Part} (h : RP Z w v l) (hs : Stp Z w Z' w') : RP Z' w' v l := ⟨h.sl.stp hs⟩
theorem RP.below {Z : Nat → Prop} {w w' : World} {v : Value} {l : List Part} (h : RP Z w v l) (hs : Below w.heap.size w w') : RP Z w' v l := h.stp (.of_below hs)
theorem RP.anti {Z Y : Nat → Prop} {w : World} {v : Value} {l : List Part} (h : RP Z w v l) (hz : ∀ k, k < w.heap.size → Y k → Z k) : RP Y w v l := ⟨h.sl.anti hz⟩
theorem RP.form {Z : Nat → Prop} {w : World} {v : Value} {l : List Part} (h : RP Z w v l) : ∃ A cap, v = .slice A l.length cap ∧ l.length ≤ cap ∧ cap ≤ 9223372036854775807 := by
  obtain ⟨A, cap, h1, _, h2, h3, _⟩ := h.sl
  exact ⟨A, cap, h1, h2, h3⟩
theorem RP.at {Z : Nat → Prop} {w : World} {A : Option Addr} {n cap : Nat} {l : List Part} (h : RP Z w (.slice A n cap) l) {i : Nat} {p : Part} (hi : l[i]? = some p) :
    ∃ b o, A = some ⟨b, o, none⟩ ∧ ¬ Z b ∧ b < w.heap.size ∧ w.cell? ⟨b, o + i * 2, none⟩ = some (.int .u64 p.v) ∧ w.cell? ⟨b, o + i * 2 + 1, none⟩ = some (.int .i64 p.n) := by
  obtain ⟨A', cap', h1, h2, h3, h4, h5⟩ := h.sl
  simp only [Value.slice.injEq] at h1
  obtain ⟨rfl, rfl, rfl⟩ := h1
  have hlt : i < l.length := (List.getElem?_eq_some_iff.1 hi).1
  obtain ⟨b, o, rfl, hz, hbl, hc⟩ := h5 (by omega)
  have hg := fun j (hj : j < 2) => flat_get Part.cells 2 (fun _ => rfl) l i j p hi hj
  refine ⟨b, o, rfl, hz, hbl, ?_, ?_⟩
  · have := hc _ _ (hg 0 (by omega)); simpa using this
  · have := hc _ _ (hg 1 (by omega)); simpa [Nat.add_assoc] using this
theorem RP.mine {w : World} {B n : Nat} {v : Value} {l : List Part} (h : Mine w B 128 2 v n (l.flatMap Part.cells)) : RP (fun j => j < B) w v l := by
  have h1 := h.own.1
  rw [flat_length Part.cells 2 (fun _ => rfl)] at h1
  have : n = l.length := by omega
  subst this
  exact ⟨h.sl⟩

set_option maxHeartbeats 4000000 in
theorem whole_any (c : Comp) (w : World) (hc : c.wf) (he : checkE c = 0) :
    Calls Try.prog 72 #[c.v] w fun e w' => ∃ v, e = .returned v ∧ RP (fun j => j < w.heap.size) w' v (wholeP c) ∧ Below w.heap.size w w' := by
  have hcv : c.v = .agg #[.int .u8 c.k, .int .i32 c.f0, .int .i32 c.f1, .int .i32 c.f2] := rfl
  have HCV := Lib.hid hcv
  rw [hcv]
  clear hcv
  have hn3 := cnt_le c.k
  have k0 := hc.k0
  have k1 := hc.k1
  go_enter Try.func72, Try.ntmps72
  go_wp2_with fail
  refine (count_any _ _ k0 k1).mono ?_
  rintro e w1 ⟨rfl, hb⟩
  have hbx := (BoxC.new w c).below hb
  have hB : Below w.heap.size w w1 := ((Below.refl _ _).alloc (Nat.le_refl _) _).trans (hb.mono (by simp))
  have HB := Lib.hid hB
  have HBX := Lib.hid hbx
  have hsz := heap_lt hbx
  clear hb hB hbx
  go_wp2_with fail
  go_loopg [3, 8] (cnt c.k) (fun g s3 s8 wx => ∃ i : Nat, i + g = cnt c.k ∧ s8 = .int .i64 i ∧ Below w1.heap.size w1 wx ∧ Mine wx w1.heap.size 128 2 s3 i (((List.range i).map (fieldP c)).flatMap Part.cells))
  case atStart => exact ⟨0, by omega, rfl, .refl _ _, Mine.nil _ _ _ _⟩
  case round =>
    obtain ⟨i, hi, rfl, hbw, hm⟩ := hrel
    have HBW := Lib.hid hbw
    have hszw := hbw.size
    by_cases hlt : i < cnt c.k
    · have hL : (i : Int) < (cnt c.k : Int) := by omega
      have hbx := HBX.out.below hbw
      have c0 := hbx.k
      have c1 := hbx.f 0 (by omega)
      have c2 := hbx.f 1 (by omega)
      have c3 := hbx.f 2 (by omega)
      simp only [Comp.f] at c1 c2 c3
      have HM := Lib.hid hm
      obtain ⟨A3, cap3, hv3⟩ := hm.form
      subst hv3
      clear hbw hbx hm
      go_wp2_with fail
      rw [← HCV.out]
      refine (field_any c i _ hc he hlt).mono ?_
      rintro e w2 ⟨rfl, hb2⟩
      have hm2 := HM.out.below hb2
      have HB2 := Lib.hid hb2
      have hsz2 := hb2.size
      clear hb2 c0 c1 c2 c3
      unfold Part.val
      go_wp2_with (at_builtin; refine wpl_append_mine rfl (.tmp 11) (.tmp 15) 111 rfl 128 (.agg #[.int .u64 0, .int .i64 0]) 2 16 Try.underlying111 info_part rfl (by decide) w1.heap.size _ _ _ rfl (hm2.alloc _) ?hB ⟨w2.heap.size, 0, none⟩ 1 1 (fieldP c i).cells rfl rfl (new_row _ _ _ _ rfl) ?c2 ?c3 ?c4 ?_)
      case hB => simp; omega
      case c2 => intro u hu; simp [Part.cells] at hu; rcases hu with rfl | rfl <;> rfl
      case c3 => omega
      case c4 => omega
      intro v' w3 hm3 hb3
      have hsz3 := hb3.size
      simp at hsz3
      go_wp2_with fail
      go_roundg (gk - 1)
      case measure => omega
      case rel => exact ⟨i + 1, by omega, by simp, ((HBW.out.trans (HB2.out.mono hszw)).alloc (by omega) _).trans hb3, by
        rw [List.range_succ, List.map_append, List.flatMap_append]
        simpa using hm3⟩
    · have hic : i = cnt c.k := by omega
      subst hic
      have hL : ¬ (cnt c.k : Int) < (cnt c.k : Int) := by omega
      have HM := Lib.hid hm
      clear hi hlt hm
      go_wp2_with fail
      go_ret
      exact ⟨_, rfl, (RP.mine HM.out).anti (fun k _ hk => by omega), HB.out.trans (hbw.mono HB.out.size)⟩
end Go.Proofs.Ytbklglckmhfmcaa
