/- Contracts of bits.Writer: New, Put, Len, Bytes. -/
import Derived.Test.YtbklglckmhfmcaaPack
import Derived.Test.YtbklglckmhfmcaaNums
import Derived.StillTailTactics
import Derived.Deep.DeepCutAuto
import Derived.Deep.LoopGhost
import Derived.Deep.CutBlock
set_option linter.unusedVariables false
set_option linter.unusedSimpArgs false
namespace Go.Proofs.Ytbklglckmhfmcaa
open Go.RowKit

/-- Block b is a writer's struct, g its buffer's block (b itself, if it has none); it holds the bits l. -/
structure Wr (w : World) (b g : Nat) (l : List Bool) : Prop where
  le : l.length ≤ 1048576
  out : ∃ v, w.heap[b]? = some (.cells #[v, .int .i64 l.length] 73 (0, 0)) ∧ w.ownsRow 0 5 1 v (pack l).length ((pack l).map (.int .u8)) ∧
    ((v = .slice none 0 0 ∧ g = b) ∨ (∃ cap, v = .slice (some ⟨g, 0, none⟩) (pack l).length cap ∧ g ≠ b))
/-- A writer's zone. -/
def zn (b g : Nat) : Nat → Prop := fun k => k = b ∨ k = g

theorem info_u8 : (Try.prog.info? 5).map (fun i => (i.zero, i.size, i.bytes)) = some (some (.int .u8 0), 1, 1) := by kernel_rfl

/-- What a writer says to a number of n bits. -/
def putE (l : List Bool) (v n : Int) : Int := if n < 64 ∧ v / 2 ^ n.toNat ≠ 0 then 5 else if 1048576 < l.length + n then 3 else 0
/-- Its bits then. -/
def putL (l : List Bool) (v n : Int) : List Bool := if putE l v n = 0 then l ++ bitsOf v.toNat n.toNat else l

/-- A round's middle: the last byte is there, the next bit of L goes into it. -/
def Mid (w0 : World) (b g : Nat) (L : List Bool) (wx : World) : Prop :=
  ∃ (g2 cap2 : Nat) (bs : List Int) (y : Nat), wx.heap[b]? = some (.cells #[.slice (some ⟨g2, 0, none⟩) (L.length / 8 + 1) cap2, .int .i64 L.length] 73 (0, 0)) ∧
    wx.ownsRow 0 5 1 (.slice (some ⟨g2, 0, none⟩) (L.length / 8 + 1) cap2) (L.length / 8 + 1) (bs.map (.int .u8)) ∧ g2 ≠ b ∧ Stp (zn b g) w0 (zn b g2) wx ∧
    bs[L.length / 8]? = some (y : Int) ∧ y < 2 ^ (L.length % 8) ∧ ∀ x : Bool, pack (L ++ [x]) = bs.set (L.length / 8) ((y + 2 ^ (L.length % 8) * (if x then 1 else 0) : Nat) : Int)
theorem heap_of_grown_alloc {w w' : World} {o : Obj} {row : Option Nat} {b : Nat} (h : (w.alloc o).grownBy w' row) (hb : b < w.heap.size) (hne : some b ≠ row) : w'.heap[b]? = w.heap[b]? := by
  rw [h.block b (by simp; omega) hne, Below.heap_alloc _ _ _ hb]
theorem mid_new {w0 w1 w2 : World} {b g g' : Nat} {L : List Bool} {v1 v2 : Value} (hs : Stp (zn b g) w0 (zn b g') w1) (h : Wr w1 b g' L) (hm : L.length % 8 = 0)
    (hb1 : w1.heap[b]? = some (.cells #[v1, .int .i64 L.length] 73 (0, 0)))
    (hown : w2.ownsRow 0 5 1 v2 ((pack L).length + 1) ((pack L).map (.int .u8) ++ [.int .u8 0])) (hg : (w1.alloc (.cells #[.int .u8 0] 5)).grownBy w2 v1.ownBlock)
    (hw : v2.ownBlock = v1.ownBlock ∨ ∀ k, v2.ownBlock = some k → w1.heap.size + 1 ≤ k ∧ k < w2.heap.size) :
    Mid w0 b g L (w2.setCell ⟨b, 0, none⟩ v2) := by
  obtain ⟨v1', hb1', hown1, hg1⟩ := h.out
  have e : v1 = v1' := by rw [hb1] at hb1'; simp at hb1'; exact hb1'
  subst e
  have hpl : (pack L).length = L.length / 8 := by rw [pack_length]; omega
  rw [hpl] at hown hg1
  have hbl : b < w1.heap.size := heap_lt hb1
  have hne : v1.ownBlock ≠ some b := own_block_ne hown1 hb1 (by decide)
  have hbw : w2.heap[b]? = some (.cells #[v1, .int .i64 L.length] 73 (0, 0)) := by
    rw [hg.block b (by simp; omega) hne.symm, Below.heap_alloc _ _ _ hbl]; exact hb1
  have hne2 := own_block_ne hown hbw (by decide)
  obtain ⟨g2, cap2, rfl, hgl2, _, _⟩ := own_form hown (by omega)
  have hgb2 : g2 ≠ b := by simpa [Value.ownBlock] using hne2
  refine ⟨g2, cap2, pack L ++ [0], 0, ?_, ?_, hgb2, ?_, ?_, Nat.pow_pos (by omega), fun x => ?_⟩
  · simp [World.setCell, Array.getElem?_modify, hbw]
  · have := own_keep (w' := w2.setCell ⟨b, 0, none⟩ (.slice (some ⟨g2, 0, none⟩) (L.length / 8 + 1) cap2)) hown (fun k hk => Below.heap_setCell _ _ _ _ (by simp [Value.ownBlock] at hk; subst hk; exact hgb2))
    simpa using this
  · have hz : ∀ k, v1.ownBlock = some k → zn b g k ∨ w0.heap.size ≤ k := by
      intro k hk
      rcases hg1 with ⟨rfl, _⟩ | ⟨cap, rfl, _⟩
      · simp [Value.ownBlock] at hk
      · simp [Value.ownBlock] at hk; subst hk; exact hs.zone _ (.inr rfl)
    refine ((hs.alloc _).grown hg hz).setCell _ _ (.inl (.inl rfl)) |>.re (fun k hk => ?_)
    rcases hk with rfl | rfl
    · exact .inl (.inl rfl)
    · rcases hw with hw | hw
      · exact hz k (by rw [← hw]; rfl)
      · have := (hw k rfl).1
        have := hs.size
        right; simp at *; omega
  · rw [List.getElem?_append_right (by omega)]; simp [hpl]
  · rw [pack_snoc_new L x hm, ← hpl, List.set_append_right _ _ (by omega)]
    cases x <;> simp [hm, hpl]
theorem mid_old {w0 w1 : World} {b g g' : Nat} {L : List Bool} (hs : Stp (zn b g) w0 (zn b g') w1) (h : Wr w1 b g' L) (hm : L.length % 8 ≠ 0) : Mid w0 b g L w1 := by
  obtain ⟨v1, hb1, hown1, hg1⟩ := h.out
  have hpl : (pack L).length = L.length / 8 + 1 := by rw [pack_length]; omega
  rw [hpl] at hown1 hg1
  rcases hg1 with ⟨rfl, _⟩ | ⟨cap, rfl, hgb⟩
  · have h0 := hown1.2
    rcases h0 with ⟨_, h0⟩ | ⟨_, _, _, h0, _⟩
    · omega
    · simp at h0
  · obtain ⟨y, hy, hy2, hp⟩ : ∃ y : Nat, (pack L)[L.length / 8]? = some (y : Int) ∧ y < 2 ^ (L.length % 8) ∧ ∀ x : Bool, pack (L ++ [x]) = (pack L).set (L.length / 8) ((y + 2 ^ (L.length % 8) * (if x then 1 else 0) : Nat) : Int) := by
      obtain ⟨y, hy, hy2, _⟩ := pack_snoc_old L true hm
      refine ⟨y, hy, hy2, fun x => ?_⟩
      obtain ⟨y', hy', _, hp⟩ := pack_snoc_old L x hm
      have : y' = y := by rw [hy] at hy'; simp at hy'; omega
      rw [hp, this]
    exact ⟨g', cap, pack L, y, hb1, hown1, hgb, hs, hy, hy2, hp⟩
/-- The round's end: the bit is in. -/
theorem mid_end {w0 wx : World} {b g : Nat} {L : List Bool} {g2 cap2 : Nat} {bs : List Int} (hb : wx.heap[b]? = some (.cells #[.slice (some ⟨g2, 0, none⟩) (L.length / 8 + 1) cap2, .int .i64 L.length] 73 (0, 0)))
    (hown : wx.ownsRow 0 5 1 (.slice (some ⟨g2, 0, none⟩) (L.length / 8 + 1) cap2) (L.length / 8 + 1) (bs.map (.int .u8))) (hgb : g2 ≠ b) (hs : Stp (zn b g) w0 (zn b g2) wx) (hle : L.length < 1048576)
    (x : Bool) (X : Int) (hp : pack (L ++ [x]) = bs.set (L.length / 8) X) :
    Wr ((wx.setCell ⟨g2, L.length / 8, none⟩ (.int .u8 X)).setCell ⟨b, 1, none⟩ (.int .i64 (L.length + 1))) b g2 (L ++ [x]) ∧
      Stp (zn b g) w0 (zn b g2) ((wx.setCell ⟨g2, L.length / 8, none⟩ (.int .u8 X)).setCell ⟨b, 1, none⟩ (.int .i64 (L.length + 1))) := by
  have hl : (pack (L ++ [x])).length = L.length / 8 + 1 := by rw [pack_length]; simp; omega
  have hbs : bs.length = L.length / 8 + 1 := by have := hown.1; simpa using this
  refine ⟨⟨by simp; omega, .slice (some ⟨g2, 0, none⟩) (L.length / 8 + 1) cap2, ?_, ?_, .inr ⟨cap2, by rw [hl], hgb⟩⟩, ?_⟩
  · simp [World.setCell, Array.getElem?_modify, hb, hgb, List.length_append]
  · rw [hl, hp]
    refine own_keep (w := wx.setCell ⟨g2, L.length / 8, none⟩ (.int .u8 X)) ?_ (fun k hk => Below.heap_setCell _ _ _ _ (by simp [Value.ownBlock] at hk; subst hk; exact hgb))
    obtain ⟨h1, h2⟩ := hown
    rcases h2 with ⟨h2, _⟩ | ⟨g, cap, cur, hv, hbg, hh, h3, h4, h5, h6⟩
    · simp at h2
    · simp only [Value.slice.injEq, Option.some.injEq, Addr.mk.injEq, and_true, true_and] at hv
      obtain ⟨rfl, rfl⟩ := hv
      refine ⟨by simp [hbs], .inr ⟨g2, cap2, cur.setIfInBounds (L.length / 8) (.int .u8 X), rfl, hbg, ?_, h3, h4, by simpa using h5, ?_⟩⟩
      · simp [World.setCell, Array.getElem?_modify, hh]
      · rw [Array.toList_setIfInBounds, List.take_set, h6, List.map_set]
  · exact ((hs.setCell _ _ (hs.zone _ (.inr rfl))).setCell _ _ (.inl (.inl rfl)))

/-- The bit that a round takes out of the number. -/
theorem bit_of (v : Int) (k : Nat) (hv0 : 0 ≤ v) (hv1 : v < 18446744073709551616) :
    bits .and .u64 (v / 2 ^ k) 1 = if (v.toNat / 2 ^ k) % 2 == 1 then 1 else 0 := by
  have hp : (0 : Int) < 2 ^ k := Int.pow_pos (by omega)
  have h1 : v / 2 ^ k ≤ v := Int.ediv_le_self _ hv0
  have h0 : 0 ≤ v / 2 ^ k := Int.ediv_nonneg hv0 (by omega)
  rw [u64_and1 _ h0 (by omega)]
  have e : v / 2 ^ k = ((v.toNat / 2 ^ k : Nat) : Int) := by
    conv => lhs; rw [show v = (v.toNat : Int) from by omega]
    push_cast; rfl
  rw [e]
  generalize v.toNat / 2 ^ k = m
  by_cases h : m % 2 = 1
  · rw [if_pos (by simp [h])]; omega
  · rw [if_neg (by simp [h])]; omega

/-- The last byte with the bit. -/
theorem put_byte (v : Int) (k n y : Nat) (hy : y < 2 ^ (n % 8)) (hv0 : 0 ≤ v) (hv1 : v < 18446744073709551616) :
    bits .or .u8 (y : Int) (bits .and .u64 (v / 2 ^ k) 1 % 256 * 2 ^ (n % 8) % 256) = ((y + 2 ^ (n % 8) * (if ((v.toNat / 2 ^ k) % 2 == 1) = true then 1 else 0) : Nat) : Int) := by
  rw [bit_of v k hv0 hv1]
  have hr : n % 8 ≤ 7 := by omega
  generalize n % 8 = r at *
  have h7 : 2 ^ r ≤ 2 ^ 7 := Nat.pow_le_pow_right (by omega) hr
  have hp : ((2 : Int) ^ r) = ((2 ^ r : Nat) : Int) := by push_cast; rfl
  generalize hx : (v.toNat / 2 ^ k % 2 == 1) = x
  have h := u8_or_hi y r (if x = true then 1 else 0) hy hr (by split <;> omega)
  rw [← h]
  congr 1
  rw [hp]
  cases x
  · simp
  · simp; omega
theorem Wr.drew {w : World} {b g : Nat} {l : List Bool} (h : Wr w b g l) : Wr w.drew b g l := ⟨h.le, h.out⟩
theorem Wr.stp {Z Z' : Nat → Prop} {w w' : World} {b g : Nat} {l : List Bool} (h : Wr w b g l) (hs : Stp Z w Z' w') (hb : ¬ Z b) (hg : ¬ Z g) : Wr w' b g l := by
  obtain ⟨v, h1, h2, h3⟩ := h.out
  refine ⟨h.le, v, by rw [hs.block b (heap_lt h1) hb]; exact h1, own_keep h2 (fun k hk => hs.block k (h2.lt k hk).2 (fun hz => ?_)), h3⟩
  rcases h3 with ⟨rfl, _⟩ | ⟨cap, rfl, _⟩
  · simp [Value.ownBlock] at hk
  · simp [Value.ownBlock] at hk; subst hk; exact hg hz
theorem Wr.lt {w : World} {b g : Nat} {l : List Bool} (h : Wr w b g l) : b < w.heap.size ∧ g < w.heap.size := by
  obtain ⟨v, h1, h2, h3⟩ := h.out
  refine ⟨heap_lt h1, ?_⟩
  rcases h3 with ⟨_, rfl⟩ | ⟨cap, rfl, _⟩
  · exact heap_lt h1
  · exact (h2.lt g rfl).2

set_option maxRecDepth 100000
set_option maxHeartbeats 4000000 in
theorem put_yes (b g : Nat) (l : List Bool) (v n : Int) (w : World) (h : Wr w b g l) (hn0 : 0 ≤ n) (hn1 : n ≤ 64) (hv0 : 0 ≤ v) (hv1 : v < 18446744073709551616)
    (hr : n < 64 → v / 2 ^ n.toNat = 0) (hl : l.length + n ≤ 1048576) :
    Calls Try.prog 53 #[.pointer (some ⟨b, 0, none⟩), .int .u64 v, .int .i64 n] w
      fun e w' => e = .returned (.int .i64 0) ∧ ∃ g', Wr w' b g' (l ++ bitsOf v.toNat n.toNat) ∧ Stp (zn b g) w (zn b g') w' := by
  have hrb : n < 64 → (v / 2 ^ n.toNat != 0) = false := fun h => by rw [hr h]; rfl
  clear hr
  obtain ⟨v0, hb, hown, hg⟩ := h.out
  have c0 : w.cell? ⟨b, 0, none⟩ = some v0 := by simp [World.cell?, hb]
  have c1 : w.cell? ⟨b, 1, none⟩ = some (.int .i64 l.length) := by simp [World.cell?, hb]
  clear hb hg hown
  go_enter Try.func53, Try.ntmps53
  go_upto_block 0 with (fail)
  go_cut [6] (fun s6 wx => s6 = .int .i64 0 ∧ w = wx)
  case first =>
    go_wp2_with fail
    all_goals
      go_meet
      exact ⟨rfl, rfl⟩
  case rest =>
    obtain ⟨rfl, rfl⟩ := hcut
    clear c0 c1
    go_wp2_with fail
    go_loopg [36] n.toNat (fun gk i wr => ∃ k : Nat, ∃ g', k + gk = n.toNat ∧ i = .int .i64 k ∧ Wr wr b g' (l ++ bitsOf v.toNat k) ∧ Stp (zn b g) w (zn b g') wr)
    case atStart => exact ⟨0, g, by omega, rfl, by simpa [bitsOf] using h, .refl _ _⟩
    case round =>
      obtain ⟨k, g', hk, rfl, hwr, hstp⟩ := hrel
      by_cases hlt : k < n.toNat
      · have hlt' : (k : Int) < n := by omega
        obtain ⟨v1, hb1, hown1, hg1⟩ := hwr.out
        obtain ⟨L, hL⟩ : ∃ L, L = l ++ bitsOf v.toNat k := ⟨_, rfl⟩
        have hM : L.length = l.length + k := by simp [hL, bitsOf_length]
        have hM2 : L.length < 1048576 := by omega
        have hnx : bitsOf v.toNat (k + 1) = bitsOf v.toNat k ++ [(v.toNat / 2 ^ k) % 2 == 1] := bitsOf_succ _ _
        rw [← hL] at hb1 hwr hown1
        have HNX := Lib.hid hnx
        have HL := Lib.hid hL
        have HM := Lib.hid hM
        have HWR := Lib.hid hwr
        have HST := Lib.hid hstp
        clear hnx hL hM hwr hstp hrb
        have d0 : wr.cell? ⟨b, 0, none⟩ = some v1 := by simp [World.cell?, hb1]
        have d1 : wr.cell? ⟨b, 1, none⟩ = some (.int .i64 L.length) := by simp [World.cell?, hb1]
        have f0 : wr.frozen? ⟨b, 0, none⟩ = false := by simp [World.frozen?, hb1]
        have hbl := lt_of_cell d0
        have HB1 := Lib.hid hb1
        clear hb1
        go_upto_if 44 with (fail)
        go_cut [] (fun wx => Mid w b g L wx)
        case first =>
          by_cases hm : L.length % 8 = 0
          · have hm1 : ((L.length : Int) % 8 == 0) = true := by simp; omega
            have hpl : (pack L).length ≤ 1048576 := by rw [pack_length]; omega
            have HMM := Lib.hid hm
            clear hm
            go_wp2_with (at_builtin; refine wpl_append rfl (.tmp 49) (.tmp 50) 29 rfl 5 (.int .u8 0) 1 1 Try.underlying29 info_u8 rfl (by decide) _ _ _ rfl (hown1.alloc _) ⟨wr.heap.size, 0, none⟩ 1 1 [.int .u8 0] rfl rfl ?c1 ?c2 ?c3 ?c4 ?_)
            case c1 => intro j u hj; match j, hj with | 0, hj => simp at hj; subst hj; simp [Addr.add]
            case c2 => intro u hu; simp at hu; subst hu; rfl
            case c3 => omega
            case c4 => omega
            intro v' w' hown' hgrow hmove
            have hb2 := heap_of_grown_alloc hgrow hbl (own_block_ne hown1 HB1.out (by decide)).symm
            rw [HB1.out] at hb2
            have e0 : w'.cell? ⟨b, 0, none⟩ = some v1 := by simp [World.cell?, hb2]
            have f0' : w'.frozen? ⟨b, 0, none⟩ = false := by simp [World.frozen?, hb2]
            have hmid := mid_new HST.out HWR.out HMM.out HB1.out hown' hgrow hmove
            obtain ⟨g3, cap3, rfl, _⟩ := own_form hown' (by omega)
            clear hown' hgrow hmove hb2 d0 d1 f0
            go_wp2_with fail
            go_meet
            exact hmid
          · have hm1 : ((L.length : Int) % 8 == 0) = false := by simp; omega
            have hmid := mid_old HST.out HWR.out hm
            clear hm
            go_wp2_with fail
            go_meet
            exact hmid
        case rest =>
          obtain ⟨g2, cap2, bs, y, hb2, hown2, hgb2, hst2, hy, hy2, hp⟩ := hcut
          obtain ⟨q, hq⟩ : ∃ q, q = L.length / 8 := ⟨_, rfl⟩
          obtain ⟨r, hr⟩ : ∃ r, r = L.length % 8 := ⟨_, rfl⟩
          rw [← hq] at hb2 hown2 hy hp
          rw [← hr] at hy2 hp
          have q0 : IntKind.i64.wrap ((L.length : Int).tdiv 8) = (q : Int) := by rw [IntWalk.i64_quo _ _ (by omega)]; omega
          have q0' : IntKind.i64.wrap ((L.length : Int) / 8) = (q : Int) := by rw [IntWalk.i64_in _ (by omega)]; omega
          have r0 : (L.length : Int).tmod 8 = (r : Int) := by rw [IntWalk.rem_in _ _ (by omega)]; omega
          have r1 : (r : Int) < 8 := by omega
          have r2 : (0 : Int) ≤ (r : Int) := by omega
          have q1 : (0 : Int) ≤ (q : Int) := by omega
          have q2 : (q : Int) < (q : Int) + 1 := by omega
          have q3 : (q : Int) < ((q + 1 : Nat) : Int) := by omega
          have e0 : wc.cell? ⟨b, 0, none⟩ = some (.slice (some ⟨g2, 0, none⟩) (q + 1) cap2) := by simp [World.cell?, hb2]
          have e1 : wc.cell? ⟨b, 1, none⟩ = some (.int .i64 L.length) := by simp [World.cell?, hb2]
          have fr1 : wc.frozen? ⟨b, 1, none⟩ = false := by simp [World.frozen?, hb2]
          have e2 : wc.cell? ⟨g2, q, none⟩ = some (.int .u8 y) := by
            have := hown2.cells (g := g2) rfl q (.int .u8 y) (by rw [List.getElem?_map, hy]; rfl)
            rwa [add_lit0] at this
          have fr2 : wc.frozen? ⟨g2, q, none⟩ = false := own_frozen hown2 rfl q
          have HB2 := Lib.hid hb2
          have HO2 := Lib.hid hown2
          have HY := Lib.hid hy2
          have HQ := Lib.hid hq
          have HR := Lib.hid hr
          have HS2 := Lib.hid hst2
          have HP := Lib.hid hp
          clear hb2 hown2 hst2 hy hy2 hp hq hr d0 d1 f0 hown1 hg1
          go_wp2_with fail
          go_still_tail 23, (by kernel_rfl)
          change wpList _ _ _ _ _ wc.drew
          go_wp2_with fail
          go_roundg (gk - 1)
          case measure => omega
          case rel =>
            obtain rfl := HQ.out
            obtain rfl := HR.out
            obtain rfl := HL.out
            have hX := put_byte v k (l ++ bitsOf v.toNat k).length y HY.out hv0 hv1
            rw [hX]
            obtain ⟨hw1, hs1⟩ := mid_end HB2.out HO2.out hgb2 HS2.out hM2 _ _ (HP.out ((v.toNat / 2 ^ k) % 2 == 1))
            rw [List.append_assoc, ← HNX.out] at hw1
            exact ⟨k + 1, g2, by omega, by simp, hw1.drew, hs1.drew⟩
      · have hkn : k = n.toNat := by omega
        subst hkn
        have hno : ¬ ((n.toNat : Int) < n) := by omega
        clear hlt hk
        go_wp2_with fail
        go_ret
        exact ⟨rfl, g', hwr, hstp⟩

set_option maxRecDepth 100000
set_option maxHeartbeats 1000000 in
theorem put_no (b g : Nat) (l : List Bool) (v n : Int) (w : World) (h : Wr w b g l) (hn0 : 0 ≤ n) (hn1 : n ≤ 64) (hv0 : 0 ≤ v) (hv1 : v < 18446744073709551616)
    (hr : putE l v n ≠ 0) :
    Calls Try.prog 53 #[.pointer (some ⟨b, 0, none⟩), .int .u64 v, .int .i64 n] w fun e w' => e = .returned (.int .i64 (putE l v n)) ∧ w' = w := by
  obtain ⟨v0, hb, hown, hg⟩ := h.out
  have c1 : w.cell? ⟨b, 1, none⟩ = some (.int .i64 l.length) := by simp [World.cell?, hb]
  have hle := h.le
  clear hb hg hown h
  by_cases h1 : n < 64 ∧ v / 2 ^ n.toNat ≠ 0
  · have he : putE l v n = 5 := if_pos h1
    have HE := Lib.hid he
    have h2 : (v / 2 ^ n.toNat != 0) = true := by simpa using h1.2
    have h3 := h1.1
    clear h1 he hr
    go_enter Try.func53, Try.ntmps53
    go_wp2_with fail
    go_ret
    rw [HE.out]
    exact ⟨rfl, rfl⟩
  · have he : putE l v n = if 1048576 < l.length + n then 3 else 0 := if_neg h1
    have h4 : 1048576 < l.length + n := by
      by_cases hh : 1048576 < l.length + n
      · exact hh
      · rw [he, if_neg hh] at hr; exact absurd rfl hr
    rw [if_pos h4] at he
    have HE := Lib.hid he
    have h2 : n < 64 → (v / 2 ^ n.toNat != 0) = false := fun hh => by
      have : v / 2 ^ n.toNat = 0 := by
        by_cases h0 : v / 2 ^ n.toNat = 0
        · exact h0
        · exact absurd ⟨hh, h0⟩ h1
      simp [this]
    clear h1 he hr
    go_enter Try.func53, Try.ntmps53
    go_wp2_with fail
    all_goals
      go_ret
      rw [HE.out]
      exact ⟨rfl, rfl⟩
theorem putE_zero {l : List Bool} {v n : Int} (h : putE l v n = 0) : (n < 64 → v / 2 ^ n.toNat = 0) ∧ l.length + n ≤ 1048576 := by
  unfold putE at h
  split at h
  · omega
  · rename_i h1
    split at h
    · omega
    · refine ⟨fun hh => ?_, by omega⟩
      by_cases h0 : v / 2 ^ n.toNat = 0
      · exact h0
      · exact absurd ⟨hh, h0⟩ h1
/-- Put, whatever it is handed. -/
theorem put_any (b g : Nat) (l : List Bool) (v n : Int) (w : World) (h : Wr w b g l) (hn0 : 0 ≤ n) (hn1 : n ≤ 64) (hv0 : 0 ≤ v) (hv1 : v < 18446744073709551616) :
    Calls Try.prog 53 #[.pointer (some ⟨b, 0, none⟩), .int .u64 v, .int .i64 n] w
      fun e w' => e = .returned (.int .i64 (putE l v n)) ∧ ∃ g', Wr w' b g' (putL l v n) ∧ Stp (zn b g) w (zn b g') w' := by
  by_cases he : putE l v n = 0
  · obtain ⟨h1, h2⟩ := putE_zero he
    refine (put_yes b g l v n w h hn0 hn1 hv0 hv1 h1 h2).mono ?_
    rintro e w' ⟨rfl, g', h3, h4⟩
    exact ⟨by rw [he], g', by rw [putL, if_pos he]; exact h3, h4⟩
  · refine (put_no b g l v n w h hn0 hn1 hv0 hv1 he).mono ?_
    rintro e w' ⟨rfl, rfl⟩
    exact ⟨rfl, g, by rw [putL, if_neg he]; exact h, .refl _ _⟩

/-- A new writer. -/
theorem new_any (w : World) : Calls Try.prog 18 #[] w
    fun e w' => e = .returned (.pointer (some ⟨w.heap.size, 0, none⟩)) ∧ Wr w' w.heap.size w.heap.size [] ∧ Below w.heap.size w w' ∧ w'.heap.size = w.heap.size + 1 := by
  go_enter Try.func18, Try.ntmps18
  go_wp2
  go_ret
  exact ⟨rfl, ⟨by simp, .slice none 0 0, heap_alloc_new w _, World.ownsRow_nil _ _ _ _, .inl ⟨rfl, rfl⟩⟩, (Below.refl _ _).alloc (Nat.le_refl _) _, by simp⟩
theorem len_any (b g : Nat) (l : List Bool) (w : World) (h : Wr w b g l) : Calls Try.prog 56 #[.pointer (some ⟨b, 0, none⟩)] w
    fun e w' => e = .returned (.int .i64 l.length) ∧ w' = w := by
  obtain ⟨v0, hb, hown, hg⟩ := h.out
  have c1 : w.cell? ⟨b, 1, none⟩ = some (.int .i64 l.length) := by simp [World.cell?, hb]
  clear hb hg hown h
  go_enter Try.func56, Try.ntmps56
  go_wp2
  go_ret
  exact ⟨rfl, rfl⟩
end Go.Proofs.Ytbklglckmhfmcaa
