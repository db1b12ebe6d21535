/- Slices of components that are read; schema.List, schema.Mask, snap.secret, slices.IndexFunc and ContainsFunc at components. -/
import Derived.Test.YtbklglckmhfmcaaComp0
set_option linter.unusedVariables false
set_option linter.unusedSimpArgs false
namespace Go.Proofs.Ytbklglckmhfmcaa
open Go.RowKit
set_option maxRecDepth 100000

theorem flat_get {α β : Type} (f : α → List β) (sz : Nat) (hsz : ∀ a, (f a).length = sz) (l : List α) (i j : Nat) (a : α) (hi : l[i]? = some a) (hj : j < sz) : (l.flatMap f)[i * sz + j]? = (f a)[j]? := by
  induction l generalizing i with
  | nil => simp at hi
  | cons x r ih =>
    rw [List.flatMap_cons]
    cases i with
    | zero =>
      simp only [List.getElem?_cons_zero, Option.some.injEq] at hi
      subst hi
      rw [Nat.zero_mul, Nat.zero_add, List.getElem?_append_left (by rw [hsz]; exact hj)]
    | succ i =>
      simp only [List.getElem?_cons_succ] at hi
      rw [List.getElem?_append_right (by rw [hsz, Nat.succ_mul]; omega), hsz]
      rw [show (i + 1) * sz + j - sz = i * sz + j by rw [Nat.succ_mul]; omega]
      exact ih i hi
theorem flat_length {α β : Type} (f : α → List β) (sz : Nat) (hsz : ∀ a, (f a).length = sz) (l : List α) : (l.flatMap f).length = l.length * sz := by
  induction l with
  | nil => simp
  | cons x r ih => rw [List.flatMap_cons, List.length_append, ih, hsz, List.length_cons, Nat.succ_mul]; omega

/-- v is a slice of components that reads as l; its cells lie outside the zone Z. -/
structure RC (Z : Nat → Prop) (w : World) (v : Value) (l : List Comp) : Prop where
  sl : Sl Z w 4 v l.length (l.flatMap Comp.cells)
  wf : ∀ c ∈ l, c.wf
theorem RC.anti {Z Y : Nat → Prop} {w : World} {v : Value} {l : List Comp} (h : RC Z w v l) (hz : ∀ k, k < w.heap.size → Y k → Z k) : RC Y w v l := ⟨h.sl.anti hz, h.wf⟩
theorem RC.stp {Z Z' : Nat → Prop} {w w' : World} {v : Value} {l : List Comp} (h : RC Z w v l) (hs : Stp Z w Z' w') : RC Z' w' v l := ⟨h.sl.stp hs, h.wf⟩
theorem RC.below {Z : Nat → Prop} {w w' : World} {v : Value} {l : List Comp} (h : RC Z w v l) (hs : Below w.heap.size w w') : RC Z w' v l := h.stp (.of_below hs)
theorem RC.form {Z : Nat → Prop} {w : World} {v : Value} {l : List Comp} (h : RC Z w v l) : ∃ A cap, v = .slice A l.length cap ∧ l.length ≤ cap ∧ cap ≤ 9223372036854775807 := by
  obtain ⟨A, cap, h1, _, h2, h3, _⟩ := h.sl
  exact ⟨A, cap, h1, h2, h3⟩
theorem RC.at {Z : Nat → Prop} {w : World} {A : Option Addr} {n cap : Nat} {l : List Comp} (h : RC Z w (.slice A n cap) l) {i : Nat} {c : Comp} (hi : l[i]? = some c) :
    ∃ b o, A = some ⟨b, o, none⟩ ∧ ¬ Z b ∧ b < w.heap.size ∧ c.wf ∧ w.cell? ⟨b, o + i * 4, none⟩ = some (.int .u8 c.k) ∧ w.cell? ⟨b, o + i * 4 + 1, none⟩ = some (.int .i32 c.f0) ∧
      w.cell? ⟨b, o + i * 4 + 2, none⟩ = some (.int .i32 c.f1) ∧ w.cell? ⟨b, o + i * 4 + 3, none⟩ = some (.int .i32 c.f2) := by
  obtain ⟨A', cap', h1, h2, h3, h4, h5⟩ := h.sl
  simp only [Value.slice.injEq] at h1
  obtain ⟨rfl, rfl, rfl⟩ := h1
  have hlt : i < l.length := (List.getElem?_eq_some_iff.1 hi).1
  obtain ⟨b, o, rfl, hz, hbl, hc⟩ := h5 (by omega)
  have hg := fun j (hj : j < 4) => flat_get Comp.cells 4 (fun _ => rfl) l i j c hi hj
  have hm : c ∈ l := List.mem_of_getElem? hi
  refine ⟨b, o, rfl, hz, hbl, h.wf c hm, ?_, ?_, ?_, ?_⟩
  · have := hc _ _ (hg 0 (by omega)); simpa using this
  · have := hc _ _ (hg 1 (by omega)); simpa [Nat.add_assoc] using this
  · have := hc _ _ (hg 2 (by omega)); simpa [Nat.add_assoc] using this
  · have := hc _ _ (hg 3 (by omega)); simpa [Nat.add_assoc] using this

/-- schema.List. -/
def lfrom (p : Int) : List Comp → Int
  | [] => 0
  | c :: r => if checkE c ≠ 0 then checkE c else if c.k ≤ p then 4 else lfrom c.k r
def listE (l : List Comp) : Int := lfrom (-1) l
def prevK (l : List Comp) (i : Nat) : Int := if i = 0 then -1 else ((l[i - 1]?).map Comp.k).getD (-1)
theorem drop_at {α : Type} {l : List α} {i : Nat} {a : α} (h : l[i]? = some a) : l.drop i = a :: l.drop (i + 1) := by
  obtain ⟨h1, h2⟩ := List.getElem?_eq_some_iff.1 h
  rw [List.drop_eq_getElem_cons h1, h2]

set_option maxHeartbeats 2000000 in
theorem list_any (Z : Nat → Prop) (v : Value) (l : List Comp) (w : World) (h : RC Z w v l) : Calls Try.prog 58 #[v] w fun e w' => e = .returned (.int .i64 (listE l)) ∧ Below w.heap.size w w' := by
  obtain ⟨A, cap, rfl, hcap1, hcap2⟩ := h.form
  go_enter Try.func58, Try.ntmps58
  go_wp2_with fail
  go_loopg [8] l.length (fun g s8 wx => ∃ i, i + g = l.length ∧ s8 = .int .i64 i ∧ Below w.heap.size w wx ∧ listE l = lfrom (prevK l i) (l.drop i))
  case atStart => exact ⟨0, by omega, rfl, .refl _ _, by simp [listE, prevK]⟩
  case round =>
    obtain ⟨i, hi, rfl, hbw, hinv⟩ := hrel
    have HI := Lib.hid hinv
    have HBW := Lib.hid hbw
    clear hinv
    by_cases hlt : i < l.length
    · obtain ⟨c, hci⟩ : ∃ c, l[i]? = some c := ⟨_, List.getElem?_eq_getElem hlt⟩
      obtain ⟨b, o, rfl, hz, hbl, hwf, c0, c1, c2, c3⟩ := (h.below hbw).at hci
      have hdr := drop_at hci
      have HDR := Lib.hid hdr
      have HC := Lib.hid hci
      clear hbw hci hdr
      have hL : (i : Int) < (l.length : Int) := by omega
      go_wp2_with fail
      refine (check_any c _ hwf).mono ?_
      rintro e w' ⟨rfl, hb⟩
      obtain ⟨hce, hfe⟩ := bcell hb
      by_cases he : checkE c = 0
      · have he1 : (checkE c != 0) = false := by simp [he]
        have hE := Lib.hid he
        clear he
        by_cases h0 : i = 0
        · subst h0
          have hk0 : ¬ c.k ≤ -1 := by have := hwf.k0; omega
          have hl : listE l = lfrom c.k (l.drop 1) := by rw [HI.out, HDR.out, lfrom, if_neg (by simp [hE.out]), prevK, if_pos rfl, if_neg hk0]
          have HL := Lib.hid hl
          clear hl hk0
          go_wp2_with fail
          go_quiet (fail)
          go_wp2_with fail
          go_roundg (gk - 1)
          case measure => omega
          case rel => exact ⟨1, by omega, by simp, below_drewN ((HBW.out.alloc HBW.out.size _).trans (hb.mono (by have := HBW.out.size; simp; omega))) _, by rw [HL.out]; simp [prevK, HC.out]⟩
        · obtain ⟨j, rfl⟩ : ∃ j, i = j + 1 := ⟨i - 1, by omega⟩
          obtain ⟨c', hcj⟩ : ∃ c', l[j]? = some c' := ⟨_, List.getElem?_eq_getElem (by omega)⟩
          obtain ⟨b', o', hbo, _, _, hwf', d0, _⟩ := (h.below HBW.out).at hcj
          simp only [Option.some.injEq, Addr.mk.injEq, and_true] at hbo
          obtain ⟨rfl, rfl⟩ := hbo
          have HCJ := Lib.hid hcj
          have hp : prevK l (j + 1) = c'.k := by simp [prevK, hcj]
          have HP := Lib.hid hp
          have hj1 : (j : Int) < (l.length : Int) := by omega
          have hj0 : (0 : Int) ≤ (j : Int) := by omega
          have hw1 : IntKind.i64.wrap (j : Int) = (j : Int) := IntWalk.i64_in _ (by omega)
          have hw2 : IntKind.i64.wrap ((j : Int) + 1 - 1) = (j : Int) := by rw [IntWalk.i64_in _ (by omega)]; omega
          have hg : (0 : Int) < (j : Int) + 1 := by omega
          have hk' := hwf'.k0
          have hk'' := hwf'.k1
          clear hcj hp h0
          by_cases hle : c.k ≤ c'.k
          · have hle1 : decide (c.k ≤ c'.k) = true := by simpa using hle
            have hl : listE l = 4 := by rw [HI.out, HDR.out, lfrom, if_neg (by simp [hE.out]), HP.out, if_pos hle]
            have HL := Lib.hid hl
            clear hl hle
            go_wp2_with fail
            go_quiet (fail)
            go_wp2_with fail
            go_ret
            rw [HL.out]
            exact ⟨rfl, below_drewN ((HBW.out.alloc HBW.out.size _).trans (hb.mono (by have := HBW.out.size; simp; omega))) _⟩
          · have hle1 : decide (c.k ≤ c'.k) = false := by simpa using hle
            have hl : listE l = lfrom c.k (l.drop (j + 1 + 1)) := by rw [HI.out, HDR.out, lfrom, if_neg (by simp [hE.out]), HP.out, if_neg hle]
            have HL := Lib.hid hl
            clear hl hle
            go_wp2_with fail
            go_quiet (fail)
            go_wp2_with fail
            go_roundg (gk - 1)
            case measure => omega
            case rel => exact ⟨j + 1 + 1, by omega, by simp, below_drewN ((HBW.out.alloc HBW.out.size _).trans (hb.mono (by have := HBW.out.size; simp; omega))) _, by rw [HL.out]; simp [prevK, HC.out]⟩
      · have he1 : (checkE c != 0) = true := by simpa using he
        have hl : listE l = checkE c := by rw [HI.out, HDR.out, lfrom, if_pos he]
        have HL := Lib.hid hl
        clear hl he
        go_wp2_with fail
        go_ret
        rw [HL.out]
        exact ⟨rfl, (HBW.out.alloc HBW.out.size _).trans (hb.mono (by have := HBW.out.size; simp; omega))⟩
    · have hil : i = l.length := by omega
      have hl : listE l = 0 := by rw [HI.out, hil, List.drop_length]; rfl
      have HL := Lib.hid hl
      have hL : ¬ (i : Int) < (l.length : Int) := by omega
      clear hl hil hi hlt
      go_wp2_with fail
      go_ret
      rw [HL.out]
      exact ⟨rfl, hbw⟩

/-- schema.Mask. -/
def mbit (c : Comp) : Nat := if c.k < 6 then 2 ^ c.k.toNat else 0
def maskN (l : List Comp) : Nat := l.foldl (fun m c => m ||| mbit c) 0
theorem mbit_lt (c : Comp) : mbit c < 64 := by
  unfold mbit; split
  · rename_i h
    have : c.k.toNat ≤ 5 := by omega
    have := Nat.pow_le_pow_right (show 0 < 2 by omega) this
    omega
  · omega
theorem foldl_mask_lt (l : List Comp) (m : Nat) (h : m < 64) : l.foldl (fun m c => m ||| mbit c) m < 64 := by
  induction l generalizing m with
  | nil => exact h
  | cons c r ih => exact ih _ (Nat.or_lt_two_pow (n := 6) h (mbit_lt c))
theorem maskN_lt (l : List Comp) : maskN l < 64 := foldl_mask_lt l 0 (by omega)
theorem maskN_snoc (l : List Comp) (c : Comp) : maskN (l ++ [c]) = maskN l ||| mbit c := by simp [maskN, List.foldl_append]
theorem take_at {α : Type} {l : List α} {i : Nat} {a : α} (h : l[i]? = some a) : l.take (i + 1) = l.take i ++ [a] := by
  obtain ⟨h1, h2⟩ := List.getElem?_eq_some_iff.1 h
  rw [List.take_succ_eq_append_getElem h1, h2]

set_option maxHeartbeats 2000000 in
theorem mask_any (Z : Nat → Prop) (v : Value) (l : List Comp) (w : World) (h : RC Z w v l) : Calls Try.prog 39 #[v] w fun e w' => e = .returned (.int .u8 (maskN l)) ∧ Below w.heap.size w w' := by
  obtain ⟨A, cap, rfl, hcap1, hcap2⟩ := h.form
  go_enter Try.func39, Try.ntmps39
  go_wp2_with fail
  go_loopg [3, 8] l.length (fun g s3 s8 wx => ∃ i, i + g = l.length ∧ s8 = .int .i64 i ∧ s3 = .int .u8 (maskN (l.take i)) ∧ Below w.heap.size w wx)
  case atStart => exact ⟨0, by omega, rfl, by simp [maskN], .refl _ _⟩
  case round =>
    obtain ⟨i, hi, rfl, rfl, hbw⟩ := hrel
    have HBW := Lib.hid hbw
    by_cases hlt : i < l.length
    · obtain ⟨c, hci⟩ : ∃ c, l[i]? = some c := ⟨_, List.getElem?_eq_getElem hlt⟩
      obtain ⟨b, o, rfl, hz, hbl, hwf, c0, c1, c2, c3⟩ := (h.below hbw).at hci
      have HC := Lib.hid hci
      have hm := maskN_lt (l.take i)
      obtain ⟨m, hme⟩ : ∃ m, m = maskN (l.take i) := ⟨_, rfl⟩
      rw [← hme] at hm
      have HM := Lib.hid hme
      have hL : (i : Int) < (l.length : Int) := by omega
      have hk0 := hwf.k0
      clear hbw hci
      by_cases h6 : c.k < 6
      · rw [← hme]
        clear hme
        go_wp2_with fail
        have hor : bits .or .u8 (m : Int) (2 ^ c.k.toNat % 256) = ((maskN (l.take (i + 1)) : Nat) : Int) := by
          rw [take_at HC.out, maskN_snoc, ← HM.out, mbit, if_pos h6]
          have hk : 2 ^ c.k.toNat < 64 := by have := mbit_lt c; rwa [mbit, if_pos h6] at this
          have e : ((2 : Int) ^ c.k.toNat % 256) = ((2 ^ c.k.toNat : Nat) : Int) := by
            have e1 : ((2 : Int) ^ c.k.toNat) = ((2 ^ c.k.toNat : Nat) : Int) := by push_cast; rfl
            have e2 : ((2 ^ c.k.toNat : Nat) : Int) < 64 := by exact_mod_cast hk
            rw [e1]; exact Int.emod_eq_of_lt (Int.natCast_nonneg _) (by omega)
          rw [e]
          exact (bits_nat .u8 8 (by decide) (fun n h h' => by rw [IntKind.wrap_u8]; omega) _ _ (by omega) (by omega)).2
        go_roundg (gk - 1)
        case measure => omega
        case rel => exact ⟨i + 1, by omega, by simp, by rw [hor], HBW.out.alloc HBW.out.size _⟩
      · have hn6 : maskN (l.take (i + 1)) = maskN (l.take i) := by rw [take_at HC.out, maskN_snoc, mbit, if_neg h6, Nat.or_zero]
        have HN := Lib.hid hn6
        clear hn6 hme
        go_wp2_with fail
        go_roundg (gk - 1)
        case measure => omega
        case rel => exact ⟨i + 1, by omega, by simp, by rw [HN.out], HBW.out.alloc HBW.out.size _⟩
    · have hil : i = l.length := by omega
      subst hil
      have ht : l.take l.length = l := List.take_length
      have HT := Lib.hid ht
      clear ht hi hlt
      go_wp2_with fail
      go_ret
      rw [HT.out]
      exact ⟨rfl, hbw⟩

set_option maxHeartbeats 1000000 in
theorem secret_any (c : Comp) (w : World) (hc : c.wf) : Calls Try.prog 36 #[c.v] w fun e w' => e = .returned (.bool (!told c.k)) ∧ Below w.heap.size w w' := by
  obtain ⟨k0, k1, hf⟩ := hc
  clear hf
  unfold Comp.v
  go_enter Try.func36, Try.ntmps36
  go_wp2_with fail
  refine (told_any _ _ k0 k1).mono ?_
  rintro e w' ⟨rfl, hb⟩
  go_wp2_with fail
  go_ret
  exact ⟨rfl, ((Below.refl _ _).alloc (Nat.le_refl _) _).trans (hb.mono (by simp))⟩

/-- slices.IndexFunc over components, by whatever function that only makes memory. -/
def idxOf (p : Comp → Bool) (l : List Comp) : Int := match l.findIdx? p with | some i => i | none => -1
theorem findIdx_skip {α : Type} (p : α → Bool) (l : List α) (i : Nat) (h : ∀ a ∈ l.take i, p a = false) (hi : i ≤ l.length) : l.findIdx? p = ((l.drop i).findIdx? p).map (· + i) := by
  conv => lhs; rw [← List.take_append_drop i l]
  rw [List.findIdx?_append]
  have h0 : (l.take i).findIdx? p = none := by rw [List.findIdx?_eq_none_iff]; exact h
  rw [h0, List.length_take, Nat.min_eq_left hi]; rfl
set_option maxHeartbeats 2000000 in
theorem indexFunc_any (Z : Nat → Prop) (v : Value) (l : List Comp) (g : Nat) (caps : Array Value) (p : Comp → Bool) (w : World) (h : RC Z w v l)
    (hg : ∀ (args : Array Value) (w : World), (callFunc g args).run Try.prog w = .ok (.enter g args) w)
    (hf : ∀ c w1, c ∈ l → Below w.heap.size w w1 → Calls Try.prog g (#[c.v] ++ caps) w1 fun e w' => e = .returned (.bool (p c)) ∧ Below w1.heap.size w1 w') :
    Calls Try.prog 59 #[v, .func (.func g) #[] caps] w fun e w' => e = .returned (.int .i64 (idxOf p l)) ∧ Below w.heap.size w w' := by
  obtain ⟨A, cap, rfl, hcap1, hcap2⟩ := h.form
  have HF := Lib.hid hf
  clear hf
  go_enter Try.func59, Try.ntmps59
  go_wp2_with fail
  go_loopg [8] l.length (fun g s8 wx => ∃ i, i + g = l.length ∧ s8 = .int .i64 i ∧ Below w.heap.size w wx ∧ ∀ a ∈ l.take i, p a = false)
  case atStart => exact ⟨0, by omega, rfl, .refl _ _, by simp⟩
  case round =>
    obtain ⟨i, hi, rfl, hbw, hall⟩ := hrel
    have HBW := Lib.hid hbw
    have HA := Lib.hid hall
    clear hall
    by_cases hlt : i < l.length
    · obtain ⟨c, hci⟩ : ∃ c, l[i]? = some c := ⟨_, List.getElem?_eq_getElem hlt⟩
      obtain ⟨b, o, rfl, hz, hbl, hwf, c0, c1, c2, c3⟩ := (h.below hbw).at hci
      have HC := Lib.hid hci
      have hL : (i : Int) < (l.length : Int) := by omega
      clear hbw hci
      go_wp2_with fail
      refine (HF.out c _ (List.mem_of_getElem? HC.out) HBW.out).mono ?_
      rintro e w' ⟨rfl, hb⟩
      cases hp : p c with
      | true =>
        have hl : idxOf p l = i := by
          unfold idxOf
          rw [findIdx_skip p l i HA.out (by omega), drop_at HC.out, List.findIdx?_cons, hp]; simp
        have HL := Lib.hid hl
        clear hl hp
        go_wp2_with fail
        go_ret
        rw [HL.out]
        exact ⟨rfl, HBW.out.trans (hb.mono HBW.out.size)⟩
      | false =>
        have HP := Lib.hid hp
        clear hp
        go_wp2_with fail
        go_roundg (gk - 1)
        case measure => omega
        case rel => exact ⟨i + 1, by omega, by simp, HBW.out.trans (hb.mono HBW.out.size), fun a ha => by
          rw [take_at HC.out, List.mem_append] at ha
          rcases ha with ha | ha
          · exact HA.out a ha
          · simp at ha; subst ha; exact HP.out⟩
    · have hil : i = l.length := by omega
      have hl : idxOf p l = -1 := by
        unfold idxOf
        rw [findIdx_skip p l i HA.out (by omega), hil, List.drop_length]; rfl
      have HL := Lib.hid hl
      have hL : ¬ (i : Int) < (l.length : Int) := by omega
      clear hl hil hi hlt
      go_wp2_with fail
      go_ret
      rw [HL.out]
      exact ⟨rfl, hbw⟩
theorem idxOf_any (p : Comp → Bool) (l : List Comp) : decide (0 ≤ idxOf p l) = l.any p := by
  unfold idxOf
  cases h : l.findIdx? p with
  | none =>
    rw [List.findIdx?_eq_none_iff] at h
    have : l.any p = false := by rw [List.any_eq_false]; intro a ha; simp [h a ha]
    rw [this]; rfl
  | some i =>
    obtain ⟨h1, h2, _⟩ := List.findIdx?_eq_some_iff_getElem.1 h
    have : l.any p = true := by rw [List.any_eq_true]; exact ⟨_, List.getElem_mem h1, h2⟩
    rw [this]; simp
set_option maxHeartbeats 2000000 in
theorem containsFunc_any (Z : Nat → Prop) (v : Value) (l : List Comp) (g : Nat) (caps : Array Value) (p : Comp → Bool) (w : World) (h : RC Z w v l)
    (hg : ∀ (args : Array Value) (w : World), (callFunc g args).run Try.prog w = .ok (.enter g args) w)
    (hf : ∀ c w1, c ∈ l → Below w.heap.size w w1 → Calls Try.prog g (#[c.v] ++ caps) w1 fun e w' => e = .returned (.bool (p c)) ∧ Below w1.heap.size w1 w') :
    Calls Try.prog 35 #[v, .func (.func g) #[] caps] w fun e w' => e = .returned (.bool (l.any p)) ∧ Below w.heap.size w w' := by
  have HX := Lib.hid (idxOf_any p l)
  have HC := Lib.hid (indexFunc_any Z v l g caps p w h hg hf)
  clear hf hg
  go_enter Try.func35, Try.ntmps35
  go_wp2_with fail
  refine HC.out.mono ?_
  rintro e w' ⟨rfl, hb⟩
  go_wp2_with fail
  go_ret
  rw [← HX.out]
  exact ⟨rfl, hb⟩
end Go.Proofs.Ytbklglckmhfmcaa
