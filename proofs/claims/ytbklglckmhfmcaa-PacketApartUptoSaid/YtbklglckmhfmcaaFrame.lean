/- Bytes that are read; frame.step, Sum. -/
import Derived.Test.YtbklglckmhfmcaaBits
import Derived.Test.YtbklglckmhfmcaaOwn
import Derived.Deep.LoopGhost
import Derived.Deep.OwnRows
import Derived.WalkSpells
import Derived.Lib.SliceRun
set_option linter.unusedVariables false
set_option linter.unusedSimpArgs false
namespace Go.Proofs.Ytbklglckmhfmcaa
open Go.RowKit
set_option maxRecDepth 100000

/-- v is a slice of bytes that reads as l. -/
structure RB (Z : Nat → Prop) (w : World) (v : Value) (l : List Int) : Prop where
  sl : Sl Z w 1 v l.length (l.map (.int .u8 ·))
  wf : ∀ x ∈ l, 0 ≤ x ∧ x ≤ 255
theorem RB.stp {Z Z' : Nat → Prop} {w w' : World} {v : Value} {l : List Int} (h : RB Z w v l) (hs : Stp Z w Z' w') : RB Z' w' v l := ⟨h.sl.stp hs, h.wf⟩
theorem RB.below {Z : Nat → Prop} {w w' : World} {v : Value} {l : List Int} (h : RB Z w v l) (hs : Below w.heap.size w w') : RB Z w' v l := h.stp (.of_below hs)
theorem RB.anti {Z Y : Nat → Prop} {w : World} {v : Value} {l : List Int} (h : RB Z w v l) (hz : ∀ k, k < w.heap.size → Y k → Z k) : RB Y w v l := ⟨h.sl.anti hz, h.wf⟩
theorem RB.form {Z : Nat → Prop} {w : World} {v : Value} {l : List Int} (h : RB Z w v l) : ∃ A cap, v = .slice A l.length cap ∧ l.length ≤ cap ∧ cap ≤ 9223372036854775807 := by
  obtain ⟨A, cap, h1, _, h2, h3, _⟩ := h.sl
  exact ⟨A, cap, h1, h2, h3⟩
theorem RB.at {Z : Nat → Prop} {w : World} {A : Option Addr} {n cap : Nat} {l : List Int} (h : RB Z w (.slice A n cap) l) {i : Nat} {x : Int} (hi : l[i]? = some x) :
    ∃ b o, A = some ⟨b, o, none⟩ ∧ ¬ Z b ∧ b < w.heap.size ∧ 0 ≤ x ∧ x ≤ 255 ∧ w.cell? ⟨b, o + i, none⟩ = some (.int .u8 x) := by
  obtain ⟨A', cap', h1, h2, h3, h4, h5⟩ := h.sl
  simp only [Value.slice.injEq] at h1
  obtain ⟨rfl, rfl, rfl⟩ := h1
  have hlt : i < l.length := (List.getElem?_eq_some_iff.1 hi).1
  obtain ⟨b, o, rfl, hz, hbl, hc⟩ := h5 (by omega)
  have hw := h.wf x (List.mem_of_getElem? hi)
  exact ⟨b, o, rfl, hz, hbl, hw.1, hw.2, hc i _ (by rw [List.getElem?_map, hi]; rfl)⟩

theorem cell_atB {w : World} {B o : Nat} {cs : Array Value} {T : TypeId} {fz : Nat × Nat} {v : Value} (h : w.heap[B]? = some (.cells cs T fz)) (hi : cs[o]? = some v) : w.cell? ⟨B, o, none⟩ = some v := by
  simp only [World.cell?, h, Option.isSome_none, Bool.false_eq_true, if_false]; exact hi
theorem unfrozenB {w : World} {B o : Nat} {cs : Array Value} {T : TypeId} (h : w.heap[B]? = some (.cells cs T (0, 0))) : w.frozen? ⟨B, o, none⟩ = false := by
  simp [World.frozen?, h]
theorem bnews {Z : Nat → Prop} {w : World} {sz n cap : Nat} {ad : Addr} {cs : List Value} (h : Sl Z w sz (.slice (some ad) n cap) n cs) : ∀ j u, cs[j]? = some u → w.cell? (ad.add j) = some u := by
  obtain ⟨A, cap', h1, h2, h3, h4, h5⟩ := h
  simp only [Value.slice.injEq] at h1
  obtain ⟨rfl, _, rfl⟩ := h1
  intro j u hu
  have hj := (List.getElem?_eq_some_iff.1 hu).1
  have hn : 0 < n := by
    rcases Nat.eq_zero_or_pos n with h0 | h0
    · subst h0; omega
    · exact h0
  obtain ⟨b, o, e, _, _, hc⟩ := h5 hn
  simp only [Option.some.injEq] at e
  subst e
  have := hc j u hu
  by_cases hj0 : j = 0
  · subst hj0; simpa [Addr.add] using this
  · simp only [Addr.add, if_neg hj0]; exact this
theorem bmade_empty (w : World) (e : TypeId) (size : Nat) : Mine (w.alloc (.cells #[] e)) w.heap.size e size (.slice (some ⟨w.heap.size, 0, none⟩) 0 0) 0 [] :=
  ⟨World.ownsRow_made w #[] 0 (Nat.zero_le _) (by unfold maxLen; omega) (by simp), fun k hk => by simp [Value.ownBlock] at hk; omega⟩
@[go_sem] theorem eql_nil_bytes (w : World) (A : Option Addr) (n c : Nat) : (binOp .eql 29 (.slice A n c) (.slice none 0 0)).run Try.prog w = .ok (.bool A.isNone) w :=
  Lib.run_eql_slice_nil w _ _ A n c 0 0 Try.underlying29
@[go_sem] theorem make4 (w : World) : (Instr.makeSlice 29 (.int .i64 4) (.int .i64 4)).run Try.prog w = .ok (.slice (some ⟨w.heap.size, 0, none⟩) 4 4) (w.alloc (.cells #[.int .u8 0, .int .u8 0, .int .u8 0, .int .u8 0] 5)) :=
  by
    have h := run_make_row' 29 5 (.int .u8 0) 1 Try.underlying29 info_u8 rfl .i64 .i64 4 (by decide) (by decide) w
    rw [show madeCells #[Value.int .u8 0] 4 = #[.int .u8 0, .int .u8 0, .int .u8 0, .int .u8 0] by first | rfl | kernel_rfl | simp [madeCells]] at h
    exact h
def stepC (c : Int) : Int := if bits .and .u32 c 1 = 0 then c / 2 else bits .xor .u32 (c / 2) 3988292384
def step8 (c : Int) : Nat → Int
  | 0 => c
  | n + 1 => stepC (step8 c n)
def sumFrom (l : List Int) : Int := l.foldl (fun c b => step8 (bits .xor .u32 c b) 8) 4294967295
def sumC (l : List Int) : Int := bits .xor .u32 IntKind.u32.max (sumFrom l)
theorem u32_bits (op : BinOp) (x y : Int) : 0 ≤ bits op .u32 x y ∧ bits op .u32 x y ≤ 4294967295 := by
  have h : ∀ z : Int, 0 ≤ IntKind.u32.wrap z ∧ IntKind.u32.wrap z ≤ 4294967295 := fun z => by rw [IntKind.wrap_u32]; omega
  exact h _
theorem stepC_in {c : Int} (h0 : 0 ≤ c) (h1 : c ≤ 4294967295) : 0 ≤ stepC c ∧ stepC c ≤ 4294967295 := by
  unfold stepC; split
  · omega
  · exact u32_bits _ _ _
theorem step8_in {c : Int} (h0 : 0 ≤ c) (h1 : c ≤ 4294967295) (n : Nat) : 0 ≤ step8 c n ∧ step8 c n ≤ 4294967295 := by
  induction n with
  | zero => exact ⟨h0, h1⟩
  | succ n ih => exact stepC_in ih.1 ih.2
theorem frameStep_any (c : Int) (w : World) (h0 : 0 ≤ c) (h1 : c ≤ 4294967295) : Calls Try.prog 67 #[.int .u32 c] w fun e w' => e = .returned (.int .u32 (stepC c)) ∧ w' = w := by
  by_cases h : bits .and .u32 c 1 = 0
  · have h' : (bits .and .u32 c 1 != 0) = false := by simp [h]
    have hs : stepC c = c / 2 := if_pos h
    have HS := Lib.hid hs
    clear h hs
    go_enter Try.func67, Try.ntmps67
    go_wp2_with fail
    go_ret
    rw [HS.out]; exact ⟨by simp, rfl⟩
  · have h' : (bits .and .u32 c 1 != 0) = true := by simp [h]
    have hs : stepC c = bits .xor .u32 (c / 2) 3988292384 := if_neg h
    have HS := Lib.hid hs
    clear h hs
    go_enter Try.func67, Try.ntmps67
    go_wp2_with fail
    go_ret
    rw [HS.out]; exact ⟨by simp, rfl⟩
set_option maxHeartbeats 2000000 in
theorem sum_any (Z : Nat → Prop) (v : Value) (l : List Int) (w : World) (h : RB Z w v l) : Calls Try.prog 48 #[v] w fun e w' => e = .returned (.int .u32 (sumC l)) ∧ w' = w := by
  obtain ⟨A, cap, rfl, hc1, hc2⟩ := h.form
  have HH := Lib.hid h
  clear h
  go_enter Try.func48, Try.ntmps48
  go_wp2_with fail
  go_loopg [3, 8] l.length (fun gk s3 s8 wx => ∃ i, i + gk = l.length ∧ s8 = .int .i64 i ∧ ∃ C, C = sumFrom (l.take i) ∧ 0 ≤ C ∧ C ≤ 4294967295 ∧ s3 = .int .u32 C ∧ wx = w)
  case atStart => exact ⟨0, by omega, rfl, 4294967295, rfl, by decide, by decide, rfl, rfl⟩
  case round =>
    obtain ⟨i, hi, rfl, C, hC, hC0, hC1, rfl, rfl⟩ := hrel
    by_cases hlt : i < l.length
    · obtain ⟨x, hxi⟩ : ∃ x, l[i]? = some x := ⟨_, List.getElem?_eq_getElem hlt⟩
      obtain ⟨b, o, rfl, hz, hbl, hx0, hx1, c0⟩ := HH.out.at hxi
      have htk : l.take (i + 1) = l.take i ++ [x] := by rw [List.take_add_one, hxi]; rfl
      have hw : IntKind.u32.wrap x = x := IntWalk.u32_in _ (by omega)
      obtain ⟨G, hG⟩ : ∃ G, G = gk := ⟨_, rfl⟩
      subst hG
      obtain ⟨X, hX⟩ : ∃ X, X = bits .xor .u32 C x := ⟨_, rfl⟩
      have hXb := u32_bits .xor C x
      rw [← hX] at hXb
      have HX := Lib.hid hX
      have HC := Lib.hid hC
      have HTK := Lib.hid htk
      clear hX hC htk hxi hz
      go_wp2_with fail
      rw [← HX.out]
      go_loopg [3, 16] 8 (fun gk s3 s16 wx => ∃ j, j + gk = 8 ∧ s16 = .int .i64 j ∧ s3 = .int .u32 (step8 X j) ∧ wx = wr)
      case atStart => exact ⟨0, by omega, rfl, rfl, rfl⟩
      case round =>
        obtain ⟨j, hj, rfl, rfl, rfl⟩ := hrel
        have hin := step8_in hXb.1 hXb.2 j
        by_cases hj8 : j < 8
        · have hjl : (j : Int) < 8 := by omega
          go_wp2_with fail
          refine (frameStep_any _ _ hin.1 hin.2).mono ?_
          rintro e w2 ⟨rfl, rfl⟩
          go_wp2_with fail
          go_roundg (gk - 1)
          case measure => omega
          case rel => exact ⟨j + 1, by omega, by simp, rfl, rfl⟩
        · have hj9 : j = 8 := by omega
          subst hj9
          go_wp2_with fail
          go_roundg (G - 1)
          case measure => omega
          case rel => exact ⟨i + 1, by omega, by simp, step8 X 8, by rw [HTK.out, sumFrom, List.foldl_append, HX.out, HC.out]; rfl, hin.1, hin.2, rfl, rfl⟩
    · have hil : i = l.length := by omega
      subst hil
      rw [List.take_length] at hC
      have HC := Lib.hid hC
      clear hC
      go_wp2_with fail
      go_ret
      rw [sumC, ← HC.out]
      exact ⟨rfl, rfl⟩
theorem sumC_in (l : List Int) : 0 ≤ sumC l ∧ sumC l ≤ 4294967295 := u32_bits _ _ _

def tb (s : Int) (j : Nat) : Int := s / 2 ^ (8 * j) % 256
def tbI (s : Int) (i j : Nat) : Value := .int .u8 (if j < i then tb s j else 0)
def tailL (s : Int) : List Int := [tb s 0, tb s 1, tb s 2, tb s 3]
theorem tb_in (s : Int) (j : Nat) : 0 ≤ tb s j ∧ tb s j ≤ 255 := by unfold tb; omega
set_option maxHeartbeats 2000000 in
theorem tail_any (s : Int) (w : World) (h0 : 0 ≤ s) (h1 : s ≤ 4294967295) : Calls Try.prog 47 #[.int .u32 s] w
    fun e w' => ∃ ad, e = .returned (.slice (some ad) 4 4) ∧ RB (fun k => k < w.heap.size) w' (.slice (some ad) 4 4) (tailL s) ∧ Below w.heap.size w w' := by
  go_enter Try.func47, Try.ntmps47
  go_wp2_with fail
  go_loopg [8] 4 (fun gk s8 wx => ∃ i, i + gk = 4 ∧ s8 = .int .i64 i ∧ wx.heap[w.heap.size]? = some (.cells #[tbI s i 0, tbI s i 1, tbI s i 2, tbI s i 3] 5 (0, 0)) ∧ Below w.heap.size w wx)
  case atStart => exact ⟨0, by omega, rfl, heap_alloc_new w _, (Below.refl _ _).alloc (Nat.le_refl _) _⟩
  case round =>
    obtain ⟨i, hi, rfl, hq, hb⟩ := hrel
    have fr := fun o => unfrozenB (o := o) hq
    have q0 := cell_atB (o := 0) hq rfl
    have q1 := cell_atB (o := 1) hq rfl
    have q2 := cell_atB (o := 2) hq rfl
    have q3 := cell_atB (o := 3) hq rfl
    have HQ := Lib.hid hq
    have HB := Lib.hid hb
    clear hq hb
    obtain rfl | rfl | rfl | rfl | rfl : i = 0 ∨ i = 1 ∨ i = 2 ∨ i = 3 ∨ i = 4 := by omega
    · go_wp2_with fail
      go_roundg (gk - 1)
      case measure => omega
      case rel => exact ⟨1, by omega, by simp, by simp [World.setCell, Array.getElem?_modify, HQ.out, tbI, tb] <;> omega, HB.out.setCell (p := ⟨w.heap.size, _, none⟩) (Nat.le_refl _) _⟩
    · go_wp2_with fail
      go_roundg (gk - 1)
      case measure => omega
      case rel => exact ⟨2, by omega, by simp, by simp [World.setCell, Array.getElem?_modify, HQ.out, tbI, tb] <;> omega, HB.out.setCell (p := ⟨w.heap.size, _, none⟩) (Nat.le_refl _) _⟩
    · go_wp2_with fail
      go_roundg (gk - 1)
      case measure => omega
      case rel => exact ⟨3, by omega, by simp, by simp [World.setCell, Array.getElem?_modify, HQ.out, tbI, tb] <;> omega, HB.out.setCell (p := ⟨w.heap.size, _, none⟩) (Nat.le_refl _) _⟩
    · go_wp2_with fail
      go_roundg (gk - 1)
      case measure => omega
      case rel => exact ⟨4, by omega, by simp, by simp [World.setCell, Array.getElem?_modify, HQ.out, tbI, tb] <;> omega, HB.out.setCell (p := ⟨w.heap.size, _, none⟩) (Nat.le_refl _) _⟩
    · go_wp2_with fail
      go_ret
      have h4 := HQ.out
      simp only [tbI, show (0:Nat) < 4 from by decide, show (1:Nat) < 4 from by decide, show (2:Nat) < 4 from by decide, show (3:Nat) < 4 from by decide, if_true] at h4
      refine ⟨⟨w.heap.size, 0, none⟩, rfl, ⟨⟨_, _, rfl, rfl, Nat.le_refl _, by decide, fun _ => ⟨w.heap.size, 0, rfl, by omega, heap_lt h4, fun j u hu => cell_atB h4 (by simpa [tailL] using hu)⟩⟩, ?_⟩, HB.out⟩
      intro x hx
      simp only [tailL, List.mem_cons, List.not_mem_nil, or_false] at hx
      rcases hx with rfl | rfl | rfl | rfl <;> exact tb_in _ _

set_option maxHeartbeats 2000000 in
theorem bclone_any (Z : Nat → Prop) (v : Value) (l : List Int) (w : World) (h : RB Z w v l) (hl : l.length ≤ 1048576) :
    Calls Try.prog 46 #[v] w fun e w' => ∃ v', e = .returned v' ∧ Mine w' w.heap.size 5 1 v' l.length (l.map (.int .u8 ·)) ∧ Below w.heap.size w w' := by
  obtain ⟨A, cap, rfl, hcap1, hcap2⟩ := h.form
  have HH := Lib.hid h
  clear h
  cases A with
  | none =>
    have hl0 : l = [] := by
      obtain ⟨A', cap', h1, h2, h3, h4, h5⟩ := HH.out.sl
      simp only [Value.slice.injEq] at h1
      obtain ⟨rfl, _, rfl⟩ := h1
      rcases Nat.eq_zero_or_pos l.length with h0 | h0
      · exact List.eq_nil_of_length_eq_zero h0
      · obtain ⟨b, o, e, _⟩ := h5 h0; simp at e
    subst hl0
    go_enter Try.func46, Try.ntmps46
    go_wp2_with fail
    go_ret
    exact ⟨_, rfl, Mine.nil _ _ _ _, .refl _ _⟩
  | some ad =>
    go_enter Try.func46, Try.ntmps46
    go_wp2_with (at_builtin; refine wpl_append_mine rfl (.tmp 5) (.tmp 6) 29 rfl 5 (.int .u8 0) 1 1 Try.underlying29 info_u8 rfl (by decide) w.heap.size _ _ _ rfl (bmade_empty _ _ _) ?hB ad l.length cap (l.map (.int .u8 ·)) rfl ?hl ?hn ?ho ?c3 ?c4 ?_)
    case hB => simp
    case hl => simp
    case hn => exact bnews (HH.out.below ((Below.refl _ _).alloc (Nat.le_refl _) _)).sl
    case ho => intro u hu; obtain ⟨x, _, rfl⟩ := List.mem_map.1 hu; rfl
    case c3 => omega
    case c4 => omega
    intro v' w3 hm3 hb3
    have HM := Lib.hid hm3
    clear hm3
    go_wp2_with fail
    go_ret
    exact ⟨_, rfl, by simpa using HM.out, ((Below.refl _ _).alloc (Nat.le_refl _) _).trans hb3⟩
end Go.Proofs.Ytbklglckmhfmcaa
