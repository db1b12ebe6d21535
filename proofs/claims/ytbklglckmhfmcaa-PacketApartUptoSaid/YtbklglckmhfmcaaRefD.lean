/- pinnaceref10.Twins; pinnaceref18.Few. -/
import Derived.Test.YtbklglckmhfmcaaRefC
set_option linter.unusedVariables false
set_option linter.unusedSimpArgs false
namespace Go.Proofs.Ytbklglckmhfmcaa
open Go.RowKit
set_option maxRecDepth 100000

/-- Entities of the call's own, in no block below B. -/
structure OwnE (w : World) (B : Nat) (v : Value) (l : List Ent) : Prop where
  out : ∃ hs : List Value, hs.length = l.length ∧ Mine w B 43 2 v l.length (ecells ((l.map Ent.id).zip hs)) ∧ ∀ (i : Nat) (e : Ent) (h : Value), l[i]? = some e → hs[i]? = some h → RC (fun k => k < B ∨ v.ownBlock = some k) w h e.comps
  wf : ∀ e ∈ l, e.wf
theorem OwnE.nil (w : World) (B : Nat) : OwnE w B (.slice none 0 0) [] := ⟨⟨[], rfl, Mine.nil _ _ _ _, by simp⟩, by simp⟩
theorem OwnE.re {w : World} {B : Nat} {v : Value} {l : List Ent} (h : OwnE w B v l) : RE (fun k => k < B) w v l := by
  obtain ⟨hs, c1, c2, c3⟩ := h.out
  exact ⟨⟨hs, c1, c2.sl, fun i e x he hx => (c3 i e x he hx).anti fun k _ hk => Or.inl hk⟩, h.wf⟩
theorem OwnE.form {w : World} {B : Nat} {v : Value} {l : List Ent} (h : OwnE w B v l) : ∃ A cap, v = .slice A l.length cap := by
  obtain ⟨A, cap, e, _⟩ := h.re.form; exact ⟨A, cap, e⟩
theorem OwnE.below {w w' : World} {B : Nat} {v : Value} {l : List Ent} (h : OwnE w B v l) (hb : Below w.heap.size w w') : OwnE w' B v l := by
  obtain ⟨hs, c1, c2, c3⟩ := h.out
  exact ⟨⟨hs, c1, c2.below hb, fun i e x he hx => (c3 i e x he hx).below hb⟩, h.wf⟩
theorem OwnE.alloc {w : World} {B : Nat} {v : Value} {l : List Ent} (h : OwnE w B v l) (o : Obj) : OwnE (w.alloc o) B v l := h.below ((Below.refl _ _).alloc (Nat.le_refl _) _)
theorem OwnE.drew {w : World} {B : Nat} {v : Value} {l : List Ent} (h : OwnE w B v l) : OwnE w.drew B v l := h.below (Below.refl _ _).drew
theorem OwnE.snoc {w w1 : World} {B : Nat} {v v' hv : Value} {l : List Ent} (h : OwnE w B v l) {e : Ent} (he : e.wf) (hc : RC (fun k => k < B ∨ v.ownBlock = some k) w hv e.comps) (hg : Grew w v w1 v') (hB : B ≤ w.heap.size)
    (hm : ∀ xs, Mine w B 43 2 v l.length xs → Mine w1 B 43 2 v' (l.length + 1) (xs ++ [.int .u32 e.id, hv])) : OwnE w1 B v' (l ++ [e]) := by
  obtain ⟨hs, c1, c2, c3⟩ := h.out
  have hst : Stp (fun k => k < B ∨ v.ownBlock = some k) w (fun k => k < B ∨ v'.ownBlock = some k) w1 :=
    Stp.re (Stp.grown (Stp.refl _ w) hg.grow (fun k hk => Or.inl (Or.inr hk))) (fun k hk => by
      rcases hk with hk | hk
      · exact Or.inl (Or.inl hk)
      · rcases hg.move with h1 | h1
        · exact Or.inl (Or.inr (by rw [← h1]; exact hk))
        · exact Or.inr (h1 k hk).1)
  refine ⟨⟨hs ++ [hv], by simpa using c1, ?_, ?_⟩, ?_⟩
  · have := hm _ c2
    simp only [List.length_append, List.length_singleton, List.map_append, List.map_cons, List.map_nil]
    rw [zip_snoc _ _ _ _ (by simpa using c1.symm)]
    simpa [ecells] using this
  · intro i x y hx hy
    rcases snoc_get c1.symm hx hy with ⟨h1, h2⟩ | ⟨h1, h2⟩
    · exact (c3 i x y h1 h2).stp hst
    · subst h1; subst h2; exact hc.stp hst
  · intro x hx; simp only [List.mem_append, List.mem_singleton] at hx; rcases hx with h1 | h1
    · exact h.wf x h1
    · subst h1; exact he
theorem OwnE.lt {w : World} {B : Nat} {v : Value} {l : List Ent} (h : OwnE w B v l) {k : Nat} (hk : v.ownBlock = some k) : k < w.heap.size := by
  obtain ⟨hs, c1, c2, c3⟩ := h.out
  exact c2.lt k hk
theorem OwnE.mine {w : World} {B : Nat} {v : Value} {l : List Ent} (h : OwnE w B v l) : ∃ xs, Mine w B 43 2 v l.length xs := by
  obtain ⟨hs, c1, c2, c3⟩ := h.out
  exact ⟨_, c2⟩

set_option maxHeartbeats 8000000 in
theorem rtwins_any (Z : Nat → Prop) (v : Value) (l : List Ent) (w : World) (h : RE Z w v l) (hl : l.length ≤ 1000000) (hlc : ∀ e ∈ l, e.comps.length ≤ 8796093022000) :
    Calls Try.prog 9 #[v] w fun e w' => ∃ v', e = .returned v' ∧ RE (fun k => k < w.heap.size) w' v' l ∧ Below w.heap.size w w' := by
  obtain ⟨A, cap, rfl, hca1, hca1'⟩ := h.form
  have HH := Lib.hid h
  have HLC := Lib.hid hlc
  clear h hlc
  go_enter Try.func9, Try.ntmps9
  go_wp2_with fail
  go_loopg [3, 8] l.length (fun g s3 s8 wx => ∃ i : Nat, i + g = l.length ∧ s8 = .int .i64 i ∧ Below w.heap.size w wx ∧ OwnE wx w.heap.size s3 (l.take i))
  case atStart => exact ⟨0, by omega, rfl, .refl _ _, OwnE.nil _ _⟩
  case round =>
    obtain ⟨i, hi, rfl, hbw, hown⟩ := hrel
    have HOWN := Lib.hid hown
    have HBW := Lib.hid hbw
    by_cases hlt : i < l.length
    · obtain ⟨x, hx⟩ : ∃ x, l[i]? = some x := ⟨_, List.getElem?_eq_getElem hlt⟩
      obtain ⟨b1, o1, hv1, rfl, hz1, hbl1, hwf1, hrc1, c0, c1⟩ := (HH.out.below hbw).at hx
      have hL : (i : Int) < (l.length : Int) := by omega
      have htk : l.take (i + 1) = l.take i ++ [x] := by rw [List.take_add_one, hx]; rfl
      have htl : (l.take i).length = i := by rw [List.length_take]; omega
      have HTL := Lib.hid htl
      have HTK := Lib.hid htk
      have HLX := Lib.hid (HLC.out x (List.mem_of_getElem? hx))
      obtain ⟨A3, cap3, rfl, hca3, hca3'⟩ := hrc1.form
      have HR1 := Lib.hid hrc1
      have HWF := Lib.hid hwf1
      obtain ⟨A2, cap2, rfl⟩ := hown.form
      obtain ⟨T, hT⟩ : ∃ T, T = l.take i := ⟨_, rfl⟩
      rw [← hT]
      simp only [← hT] at HOWN HTL HTK hown
      clear hx hz1 hbw hrc1 hwf1 hown htk htl hT
      go_wp2_with fail
      have hbX : Below wr.heap.size wr (wr.alloc (.cells #[.int .u32 x.id, .slice A3 x.comps.length cap3] 43)) := (Below.refl _ _).alloc (Nat.le_refl _) _
      have hX0 := RE.box (w := wr) x (.slice A3 x.comps.length cap3)
      have hbA := HBW.out.trans (hbX.mono HBW.out.size)
      have hoA := HOWN.out.below hbX
      have hrA := HR1.out.below hbX
      have hXs := HBW.out.size
      generalize hW1 : wr.alloc (.cells #[.int .u32 x.id, .slice A3 x.comps.length cap3] 43) = W1 at *
      obtain ⟨X, hX⟩ : ∃ X, X = wr.heap.size := ⟨_, rfl⟩
      rw [← hX] at hX0 hXs
      simp only [← hX]
      have hXl := heap_lt hX0
      have K : Hid (∀ w2, Below W1.heap.size W1 w2 → w2.cell? ⟨X, 0, none⟩ = some (.int .u32 x.id) ∧ w2.cell? ⟨X, 1, none⟩ = some (.slice A3 x.comps.length cap3)) :=
        Lib.hid fun w2 hb => ⟨cell_at (o := 0) ((hb.block X hXl).trans hX0) rfl, cell_at (o := 1) ((hb.block X hXl).trans hX0) rfl⟩
      have KX : Hid (∀ w2 : World, w2.heap[X]? = W1.heap[X]? → w2.cell? ⟨X, 0, none⟩ = some (.int .u32 x.id) ∧ w2.cell? ⟨X, 1, none⟩ = some (.slice A3 x.comps.length cap3)) :=
        Lib.hid fun w2 hb => ⟨cell_at (o := 0) (hb.trans hX0) rfl, cell_at (o := 1) (hb.trans hX0) rfl⟩
      have hXn : ∀ k, (Value.slice A2 T.length cap2).ownBlock = some k → k < X := fun k hk => by rw [hX]; exact HOWN.out.lt hk
      have HXN := Lib.hid hXn
      obtain ⟨k0, k1⟩ := K.out _ (Below.refl _ _)
      have HBA := Lib.hid hbA
      have HOA := Lib.hid hoA
      have HRA := Lib.hid hrA
      have hws := hbA.size
      clear hbX hX0 hbA hoA hrA hW1 hX c0 c1 HOWN HR1 HBW k0 k1 hXn
      go_region_held3 (fun w2 => w2.cell? ⟨X, 0, none⟩ = some (.int .u32 x.id) ∧ w2.cell? ⟨X, 1, none⟩ = some (.slice A3 x.comps.length cap3))
        (first | exact hk2 | exact K.out _ (Below.refl _ _) | exact K.out _ (Below.refl _ _).drew | exact K.out _ (hB1.alloc hB1.size _) | exact K.out _ hB1)
        (first
          | (go_at_call 27; refine (rtwin_any _ _ x.comps _ (HRA.out.below (Below.refl _ _).drew) HLX.out).mono ?_; rintro e w1 ⟨v1, rfl, hrc1, hb1⟩; obtain ⟨A', c', rfl, hc', hc''⟩ := hrc1.form; have hB1 : Below W1.heap.size W1 w1 := (Below.refl _ _).drew.trans hb1; have hO1 := HOA.out.below hB1; obtain ⟨xs, hM1⟩ := hO1.mine; have hs1 := hB1.size)
          | (refine step_append_grew rfl (.tmp 12) (.tmp 19) 22 rfl 43 (.agg #[.int .u32 0, .slice none 0 0]) 2 32 Try.underlying22 info_ent rfl (by decide) w.heap.size (.slice A2 T.length cap2) T.length xs rfl (hM1.alloc _) (by simp; omega) ⟨w1.heap.size, 0, none⟩ 1 1 [.int .u32 x.id, .slice A' x.comps.length c'] rfl rfl (new_row _ [.int .u32 x.id, .slice A' x.comps.length c'] _ _ rfl) (by simp [Value.oneCell']) (by have := HTL.out; omega) (by have := HTL.out; omega) ?_; intro v' w' hm hg hall; have hk2 := KX.out w' ((hg.block (k := X) (by simp; omega) (fun e => by have := HXN.out X e; omega)).trans ((Below.heap_alloc _ _ _ (by omega)).trans (hB1.block X hXl)))))
      all_goals
        have hbG := hg.below hM1.from_ (by simp; omega)
        have hrZ := hrc1.anti (Y := fun k => k < w.heap.size ∨ (Value.slice A2 T.length cap2).ownBlock = some k) (fun k _ hk => by
          rcases hk with hk | hk
          · show k < W1.drew.heap.size; simp; omega
          · have := HOA.out.lt hk; show k < W1.drew.heap.size; simpa using this)
        have hO2 := OwnE.snoc (hO1.alloc _) HWF.out (hrZ.below ((Below.refl _ _).alloc (Nat.le_refl _) _)) hg (by simp; omega) hall
        have hB2 := HBA.out.trans (((hB1.alloc hB1.size _).mono (B' := w.heap.size) (by omega)).trans hbG)
        have HO2 := Lib.hid hO2
        have HB2 := Lib.hid hB2
        clear hO2 hB2 hbG hrZ hall hg hm hM1 hO1 hB1 hb1 hrc1
        go_wp2_with fail
        go_roundg (gk - 1)
        case measure => omega
        case rel => exact ⟨i + 1, by omega, by simp, HB2.out, by rw [HTK.out]; exact HO2.out⟩
    · have hil : i = l.length := by omega
      subst hil
      rw [List.take_length] at hown
      have hL : ¬ (l.length : Int) < (l.length : Int) := by omega
      have HOWN2 := Lib.hid hown
      clear hlt hi hown hbw HOWN
      go_wp2_with fail
      go_ret
      exact ⟨_, rfl, HOWN2.out.re, HBW.out⟩

def fewN (l : List Ent) : Nat := l.foldl (fun n e => n + e.comps.length) l.length
theorem foldl_len (l : List Ent) (n : Nat) : l.foldl (fun n e => n + e.comps.length) n = n + l.foldl (fun n e => n + e.comps.length) 0 := by
  induction l generalizing n with
  | nil => simp
  | cons e r ih => simp only [List.foldl_cons, Nat.zero_add]; rw [ih, ih e.comps.length]; omega
theorem foldl_take_le (l : List Ent) (i n : Nat) : (l.take i).foldl (fun n e => n + e.comps.length) n ≤ l.foldl (fun n e => n + e.comps.length) n := by
  conv => rhs; rw [← List.take_append_drop i l, List.foldl_append, foldl_len]
  omega
theorem few_len {l : List Ent} (h : fewN l ≤ 400) : l.length ≤ 400 ∧ ∀ e ∈ l, e.comps.length ≤ 400 := by
  unfold fewN at h
  rw [foldl_len] at h
  refine ⟨by omega, fun e he => ?_⟩
  obtain ⟨s, t, rfl⟩ := List.append_of_mem he
  rw [List.foldl_append, List.foldl_cons, foldl_len] at h
  have := foldl_len t (List.foldl (fun n e => n + e.comps.length) 0 s + e.comps.length)
  rw [foldl_len] at h
  omega
set_option maxHeartbeats 4000000 in
theorem rfew_any (Z : Nat → Prop) (v : Value) (l : List Ent) (w : World) (h : RE Z w v l) (hs : fewN l ≤ 1000000000000) :
    Calls Try.prog 6 #[v] w fun e w' => e = .returned (.bool (decide (fewN l ≤ 400))) ∧ Below w.heap.size w w' := by
  obtain ⟨A, cap, rfl, hca1, hca1'⟩ := h.form
  have HH := Lib.hid h
  clear h
  go_enter Try.func6, Try.ntmps6
  go_wp2_with fail
  go_loopg [3, 10] l.length (fun g s3 s10 wx => ∃ i : Nat, i + g = l.length ∧ s10 = .int .i64 i ∧ Below w.heap.size w wx ∧ s3 = .int .i64 ((l.take i).foldl (fun n e => n + e.comps.length) l.length : Nat))
  case atStart => exact ⟨0, by omega, rfl, .refl _ _, rfl⟩
  case round =>
    obtain ⟨i, hi, rfl, hbw, rfl⟩ := hrel
    have HBW := Lib.hid hbw
    have hle := foldl_take_le l i l.length
    by_cases hlt : i < l.length
    · obtain ⟨x, hx⟩ : ∃ x, l[i]? = some x := ⟨_, List.getElem?_eq_getElem hlt⟩
      obtain ⟨b1, o1, hv1, rfl, hz1, hbl1, hwf1, hrc1, c0, c1⟩ := (HH.out.below hbw).at hx
      have hL : (i : Int) < (l.length : Int) := by omega
      have htk : l.take (i + 1) = l.take i ++ [x] := by rw [List.take_add_one, hx]; rfl
      have hle2 := foldl_take_le l (i + 1) l.length
      have hN : (l.take (i + 1)).foldl (fun n e => n + e.comps.length) l.length = (l.take i).foldl (fun n e => n + e.comps.length) l.length + x.comps.length := by rw [htk, List.foldl_append]; rfl
      obtain ⟨N, hNN⟩ : ∃ N, N = (l.take i).foldl (fun n e => n + e.comps.length) l.length := ⟨_, rfl⟩
      rw [← hNN] at hle hN
      rw [← hNN]
      obtain ⟨A3, cap3, rfl, hca3, hca3'⟩ := hrc1.form
      have hw : IntKind.i64.wrap ((N : Int) + (x.comps.length : Int)) = ((N + x.comps.length : Nat) : Int) := by rw [IntWalk.i64_in _ (by unfold fewN at hs; omega)]; omega
      have HN := Lib.hid hN
      clear hx hz1 hbw hrc1 hwf1 htk hNN hle2 hN
      go_wp2_with fail
      go_roundg (gk - 1)
      case measure => omega
      case rel => exact ⟨i + 1, by omega, by simp, HBW.out.alloc HBW.out.size _, by rw [HN.out]; simp [hw]⟩
    · have hil : i = l.length := by omega
      subst hil
      rw [List.take_length] at hle ⊢
      have hL : ¬ (l.length : Int) < (l.length : Int) := by omega
      have hd : decide (((l.foldl (fun n e => n + e.comps.length) l.length : Nat) : Int) ≤ 400) = decide (fewN l ≤ 400) := by
        unfold fewN; by_cases h : l.foldl (fun n e => n + e.comps.length) l.length ≤ 400
        · rw [decide_eq_true h, decide_eq_true (by omega)]
        · rw [decide_eq_false h, decide_eq_false (by omega)]
      have HD := Lib.hid hd
      clear hlt hi hbw hd
      go_wp2_with fail
      go_ret
      rw [← HD.out]
      exact ⟨rfl, HBW.out⟩
end Go.Proofs.Ytbklglckmhfmcaa
