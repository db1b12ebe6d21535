/- slices.Clone at components; diff.find, diff.change, diff.nothing. -/
import Derived.Test.YtbklglckmhfmcaaEntsB
import Derived.WalkSpells
import Derived.Deep.RegionHeld3
set_option linter.unusedVariables false
set_option linter.unusedSimpArgs false
namespace Go.Proofs.Ytbklglckmhfmcaa
open Go.RowKit
set_option maxRecDepth 100000

theorem info_comp : (Try.prog.info? 48).map (fun i => (i.zero, i.size, i.bytes)) = some (some (.agg #[.int .u8 0, .int .i32 0, .int .i32 0, .int .i32 0]), 4, 16) := by kernel_rfl
theorem comps_one (l : List Comp) : ∀ u ∈ l.flatMap Comp.cells, u.oneCell' = true := by
  intro u hu
  rw [List.mem_flatMap] at hu
  obtain ⟨p, _, hu⟩ := hu
  simp [Comp.cells] at hu
  rcases hu with rfl | rfl | rfl | rfl <;> rfl
theorem RC.mine {w : World} {B n : Nat} {v : Value} {l : List Comp} (h : Mine w B 48 4 v n (l.flatMap Comp.cells)) (hwf : ∀ c ∈ l, c.wf) : RC (fun j => j < B) w v l := by
  have h1 := h.own.1
  rw [flat_length Comp.cells 4 (fun _ => rfl)] at h1
  have : n = l.length := by omega
  subst this
  exact ⟨h.sl, hwf⟩
theorem RC.nil (Z : Nat → Prop) (w : World) : RC Z w (.slice none 0 0) [] := ⟨Sl.nil _ _ _, by simp⟩
/-- The cells of a slice that is read, for an append. -/
theorem Sl.news {Z : Nat → Prop} {w : World} {sz n cap : Nat} {ad : Addr} {cs : List Value} (h : Sl Z w sz (.slice (some ad) n cap) n cs) : ∀ j u, cs[j]? = some u → w.cell? (ad.add j) = some u := by
  obtain ⟨A, cap', h1, h2, h3, h4, h5⟩ := h
  simp only [Value.slice.injEq] at h1
  obtain ⟨rfl, _, rfl⟩ := h1
  intro j u hu
  have hj := (List.getElem?_eq_some_iff.1 hu).1
  have hn : 0 < n := by
    rcases Nat.eq_zero_or_pos n with h0 | h0
    · subst h0; omega
    · exact h0
  obtain ⟨b, o, e, _, _, hc⟩ := h5 hn
  simp only [Option.some.injEq] at e
  subst e
  have := hc j u hu
  by_cases hj0 : j = 0
  · subst hj0; simpa [Addr.add] using this
  · simp only [Addr.add, if_neg hj0]; exact this
theorem made_empty (w : World) (e : TypeId) (size : Nat) : Mine (w.alloc (.cells #[] e)) w.heap.size e size (.slice (some ⟨w.heap.size, 0, none⟩) 0 0) 0 [] :=
  ⟨World.ownsRow_made w #[] 0 (Nat.zero_le _) (by unfold maxLen; omega) (by simp), fun k hk => by simp [Value.ownBlock] at hk; omega⟩
@[go_sem] theorem eql_nil_comps (w : World) (A : Option Addr) (n c : Nat) : (binOp .eql 41 (.slice A n c) (.slice none 0 0)).run Try.prog w = .ok (.bool A.isNone) w :=
  by have := Lib.run_eql_slice_nil w _ _ A n c 0 0 Try.underlying41; simpa using this
set_option maxHeartbeats 2000000 in
theorem clone_any (Z : Nat → Prop) (v : Value) (l : List Comp) (w : World) (h : RC Z w v l) (hl : l.length ≤ 8796093022000) :
    Calls Try.prog 41 #[v] w fun e w' => ∃ v', e = .returned v' ∧ RC (fun k => k < w.heap.size) w' v' l ∧ Below w.heap.size w w' := by
  obtain ⟨A, cap, rfl, hcap1, hcap2⟩ := h.form
  have HH := Lib.hid h
  clear h
  cases A with
  | none =>
    have hl0 : l = [] := by
      obtain ⟨A', cap', h1, h2, h3, h4, h5⟩ := HH.out.sl
      simp only [Value.slice.injEq] at h1
      obtain ⟨rfl, _, rfl⟩ := h1
      rcases Nat.eq_zero_or_pos l.length with h0 | h0
      · exact List.eq_nil_of_length_eq_zero h0
      · obtain ⟨b, o, e, _⟩ := h5 h0; simp at e
    subst hl0
    go_enter Try.func41, Try.ntmps41
    go_wp2_with fail
    go_ret
    exact ⟨_, rfl, RC.nil _ _, .refl _ _⟩
  | some ad =>
    go_enter Try.func41, Try.ntmps41
    go_wp2_with (at_builtin; refine wpl_append_mine rfl (.tmp 5) (.tmp 6) 41 rfl 48 (.agg #[.int .u8 0, .int .i32 0, .int .i32 0, .int .i32 0]) 4 16 Try.underlying41 info_comp rfl (by decide) w.heap.size _ _ _ rfl (made_empty _ _ _) ?hB ad l.length cap (l.flatMap Comp.cells) rfl ?hl ?hn (comps_one l) ?c3 ?c4 ?_)
    case hB => simp
    case hl => exact flat_length Comp.cells 4 (fun _ => rfl) l
    case hn => exact (HH.out.below ((Below.refl _ _).alloc (Nat.le_refl _) _)).sl.news
    case c3 => omega
    case c4 => omega
    intro v' w3 hm3 hb3
    have HM := Lib.hid hm3
    clear hm3
    go_wp2_with fail
    go_ret
    exact ⟨_, rfl, RC.mine (by simpa using HM.out) HH.out.wf, ((Below.refl _ _).alloc (Nat.le_refl _) _).trans hb3⟩

set_option maxHeartbeats 1000000 in
theorem dfind1_any (c : Comp) (kind : Int) (K : Nat) (w : World) (hc : c.wf) (hk : w.cell? ⟨K, 0, none⟩ = some (.int .u8 kind)) :
    Calls Try.prog 73 #[c.v, .pointer (some ⟨K, 0, none⟩)] w fun e w' => e = .returned (.bool (decide (c.k = kind))) ∧ Below w.heap.size w w' := by
  have hkl := lt_of_cell hk
  have hkk : (c.k == kind) = decide (c.k = kind) := by by_cases h : c.k = kind <;> simp [h]
  have HK := Lib.hid hkk
  clear hkk hc
  unfold Comp.v
  go_enter Try.func73, Try.ntmps73
  go_wp2_with fail
  go_ret
  refine ⟨?_, (Below.refl _ _).alloc (Nat.le_refl _) _⟩
  rw [← HK.out]; rfl
theorem idxOf_neg {p : Comp → Bool} {l : List Comp} (h : idxOf p l < 0) : l.find? p = none := by
  unfold idxOf at h
  cases hf : l.findIdx? p with
  | none => rw [List.findIdx?_eq_none_iff] at hf; rw [List.find?_eq_none]; intro a ha; simp [hf a ha]
  | some i => rw [hf] at h; simp at h; omega
theorem idxOf_some {p : Comp → Bool} {l : List Comp} (h : ¬ idxOf p l < 0) : ∃ (i : Nat) (a : Comp), idxOf p l = i ∧ l[i]? = some a ∧ l.find? p = some a := by
  unfold idxOf at h ⊢
  cases hf : l.findIdx? p with
  | none => rw [hf] at h; simp at h
  | some i =>
    obtain ⟨h1, h2, h3⟩ := List.findIdx?_eq_some_iff_getElem.1 hf
    refine ⟨i, l[i], by simp, List.getElem?_eq_getElem h1, ?_⟩
    rw [find_skip _ l i (fun a ha => ?_), List.drop_eq_getElem_cons h1, List.find?_cons, h2]
    obtain ⟨j, hj, rfl⟩ := List.mem_iff_getElem.1 ha
    rw [List.length_take] at hj
    have := h3 j (by omega)
    simpa using this
def findC (l : List Comp) (kind : Int) : Option Comp := l.find? fun c => decide (c.k = kind)
set_option maxHeartbeats 4000000 in
theorem dfind_any (Z : Nat → Prop) (v : Value) (l : List Comp) (kind : Int) (w : World) (h : RC Z w v l) (hk0 : 0 ≤ kind) (hk1 : kind ≤ 255) :
    Calls Try.prog 62 #[v, .int .u8 kind] w fun e w' => e = .returned (.tuple #[((findC l kind).getD zeroC).v, .bool (findC l kind).isSome]) ∧ ((findC l kind).getD zeroC).wf ∧ Below w.heap.size w w' := by
  obtain ⟨A, cap, rfl, hcap1, hcap2⟩ := h.form
  have HH := Lib.hid h
  clear h
  go_enter Try.func62, Try.ntmps62
  go_wp2_with fail
  have hbel : Below w.heap.size w ((w.alloc (.cells #[.int .u8 kind] 5)).alloc (.cells #[.int .u8 0, .int .i32 0, .int .i32 0, .int .i32 0] 48)) := ((Below.refl _ _).alloc (Nat.le_refl _) _).alloc (by simp) _
  have hk : ((w.alloc (.cells #[.int .u8 kind] 5)).alloc (.cells #[.int .u8 0, .int .i32 0, .int .i32 0, .int .i32 0] 48)).cell? ⟨w.heap.size, 0, none⟩ = some (.int .u8 kind) := by simp [go_sem]
  have hz : BoxC ((w.alloc (.cells #[.int .u8 kind] 5)).alloc (.cells #[.int .u8 0, .int .i32 0, .int .i32 0, .int .i32 0] 48)) (w.heap.size + 1) zeroC := by
    have := BoxC.new (w.alloc (.cells #[.int .u8 kind] 5)) zeroC
    rw [show (w.alloc (.cells #[.int .u8 kind] 5)).heap.size = w.heap.size + 1 by simp] at this
    exact this
  have hsz : ((w.alloc (.cells #[.int .u8 kind] 5)).alloc (.cells #[.int .u8 0, .int .i32 0, .int .i32 0, .int .i32 0] 48)).heap.size = w.heap.size + 2 := by simp
  generalize ((w.alloc (.cells #[.int .u8 kind] 5)).alloc (.cells #[.int .u8 0, .int .i32 0, .int .i32 0, .int .i32 0] 48)) = W at *
  refine (indexFunc_any Z _ l 73 #[.pointer (some ⟨w.heap.size, 0, none⟩)] (fun c => decide (c.k = kind)) _ (HH.out.below hbel) (fun args w => by kernel_rfl)
    (fun c w1 hc hb1 => dfind1_any c kind w.heap.size w1 (HH.out.wf c hc) ((hb1.cell (p := ⟨w.heap.size, 0, none⟩) (by simp; omega)).trans hk))).mono ?_
  rintro x w1 ⟨rfl, hb⟩
  have hbx := hz.below hb
  have hB := hbel.trans (hb.mono (by omega))
  have h2 := HH.out.below hB
  obtain ⟨B, hBe⟩ : ∃ B, B = w.heap.size + 1 := ⟨_, rfl⟩
  rw [← hBe] at hbx
  rw [← hBe]
  have c0 := hbx.k
  have c1 := hbx.f 0 (by omega)
  have c2 := hbx.f 1 (by omega)
  have c3 := hbx.f 2 (by omega)
  have f0 : ∀ o, w1.frozen? ⟨B, o, none⟩ = false := fun o => unfrozen hbx
  have hBB : w.heap.size ≤ B := by omega
  have hBl := heap_lt hbx
  have HB := Lib.hid hB
  have H2 := Lib.hid h2
  clear hb hB hBe hbx h2 hz hk hbel hsz
  by_cases hneg : idxOf (fun c => decide (c.k = kind)) l < 0
  · have hf : findC l kind = none := idxOf_neg hneg
    have HF := Lib.hid hf
    clear hf
    go_wp2_with fail
    rw [HF.out]
    refine bodyPost_ret (v := .tuple #[zeroC.v, .bool false]) (by simp [results, Try.results62, go_sem, c0, c1, c2, c3, zeroC, Comp.v]) rfl ⟨rfl, zeroC_wf, ?_⟩
    exact ((((HB.out.setCell (p := ⟨B, 0, none⟩) hBB _).setCell (p := ⟨B, 1, none⟩) hBB _).setCell (p := ⟨B, 2, none⟩) hBB _).setCell (p := ⟨B, 3, none⟩) hBB _)
  · obtain ⟨i, a, hfi, hai, hfa⟩ := idxOf_some hneg
    have hf : findC l kind = some a := hfa
    obtain ⟨b, o, rfl, hz, hbl, hwf, d0, d1, d2, d3⟩ := H2.out.at hai
    have hil : (i : Int) < (l.length : Int) := by have := (List.getElem?_eq_some_iff.1 hai).1; omega
    rw [hfi]
    have HF := Lib.hid hf
    have HWF := Lib.hid hwf
    clear hf hneg hfi hai hfa hwf hz
    go_wp2_with fail
    rw [HF.out]
    refine bodyPost_ret (v := .tuple #[a.v, .bool true]) (by simp [results, Try.results62, go_sem, c0, c1, c2, c3, Comp.v]) rfl ⟨rfl, HWF.out, ?_⟩
    exact ((((HB.out.setCell (p := ⟨B, 0, none⟩) hBB _).setCell (p := ⟨B, 1, none⟩) hBB _).setCell (p := ⟨B, 2, none⟩) hBB _).setCell (p := ⟨B, 3, none⟩) hBB _)
end Go.Proofs.Ytbklglckmhfmcaa
