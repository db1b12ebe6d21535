/- packet.Check, packet.writer.head. (Printed by wip/tools/mk_head.py.) -/
import Derived.Test.YtbklglckmhfmcaaWriterC
import Derived.Deep.QuietTactic
import Derived.Deep.RegionHeld3
set_option linter.unusedVariables false
set_option linter.unusedSimpArgs false
namespace Go.Proofs.Ytbklglckmhfmcaa
open Go.RowKit
set_option maxRecDepth 100000

structure Head where
  kind : Int
  client : Int
  epoch : Int
  tick : Int
  base : Int
  deriving DecidableEq
structure Head.wf (h : Head) : Prop where
  k0 : 0 ≤ h.kind
  k1 : h.kind ≤ 255
  c0 : 0 ≤ h.client
  c1 : h.client ≤ 255
  e0 : 0 ≤ h.epoch
  e1 : h.epoch ≤ 4294967295
  t0 : 0 ≤ h.tick
  t1 : h.tick ≤ 4294967295
  b0 : 0 ≤ h.base
  b1 : h.base ≤ 4294967295
def Head.v (h : Head) : Value := .agg #[.int .u8 h.kind, .int .u8 h.client, .int .u32 h.epoch, .int .u32 h.tick, .int .u32 h.base]
def checkH (h : Head) : Int :=
  if h.kind < 1 ∨ 5 < h.kind ∨ 16 ≤ h.client then 1
  else if h.epoch = 0 ∨ (3 < h.kind ∧ h.tick ≠ 0) ∨ (h.kind ≠ 2 ∧ h.base ≠ 0) ∨ (h.kind = 2 ∧ h.tick ≤ h.base) then 4 else 0

set_option maxHeartbeats 8000000 in
theorem checkHead_any (h : Head) (w : World) (hw : h.wf) : Calls Try.prog 17 #[h.v] w fun e w' => e = .returned (.int .i64 (checkH h)) ∧ Below w.heap.size w w' := by
  obtain ⟨k0, k1, c0, c1, e0, e1, t0, t1, b0, b1⟩ := hw
  obtain ⟨E, hE⟩ : ∃ E, E = checkH h := ⟨_, rfl⟩
  rw [← hE]
  unfold checkH at hE
  unfold Head.v
  by_cases hA : h.kind < 1
  · have hV : E = 1 := by rw [hE]; simp [*] <;> omega
    clear hE
    subst hV
    go_enter Try.func17, Try.ntmps17
    go_wp2_with fail
    go_ret
    exact ⟨rfl, (Below.refl _ _).alloc (Nat.le_refl _) _⟩
  · by_cases hB : 5 < h.kind
    · have hV : E = 1 := by rw [hE]; simp [*] <;> omega
      clear hE
      subst hV
      go_enter Try.func17, Try.ntmps17
      go_wp2_with fail
      go_ret
      exact ⟨rfl, (Below.refl _ _).alloc (Nat.le_refl _) _⟩
    · by_cases hC : 16 ≤ h.client
      · have hV : E = 1 := by rw [hE]; simp [*] <;> omega
        clear hE
        subst hV
        go_enter Try.func17, Try.ntmps17
        go_wp2_with fail
        go_ret
        exact ⟨rfl, (Below.refl _ _).alloc (Nat.le_refl _) _⟩
      · by_cases hD : h.epoch = 0
        · have hD1 : (h.epoch == 0) = true := by simp [hD]
          have hD2 : (h.epoch != 0) = false := by simp [hD]
          have hV : E = 4 := by rw [hE]; simp [*] <;> omega
          clear hE
          subst hV
          go_enter Try.func17, Try.ntmps17
          go_wp2_with fail
          go_ret
          exact ⟨rfl, (Below.refl _ _).alloc (Nat.le_refl _) _⟩
        · have hD1 : (h.epoch == 0) = false := by simp [hD]
          have hD2 : (h.epoch != 0) = true := by simp [hD]
          by_cases hE3 : h.kind ≤ 3
          · by_cases hG : h.kind = 2
            · have hG1 : (h.kind == 2) = true := by simp [hG]
              have hG2 : (h.kind != 2) = false := by simp [hG]
              by_cases hI : h.tick ≤ h.base
              · have hV : E = 4 := by rw [hE]; simp [*] <;> omega
                clear hE
                subst hV
                go_enter Try.func17, Try.ntmps17
                go_wp2_with fail
                go_ret
                exact ⟨rfl, (Below.refl _ _).alloc (Nat.le_refl _) _⟩
              · have hV : E = 0 := by rw [hE]; simp [*] <;> omega
                clear hE
                subst hV
                go_enter Try.func17, Try.ntmps17
                go_wp2_with fail
                go_ret
                exact ⟨rfl, (Below.refl _ _).alloc (Nat.le_refl _) _⟩
            · have hG1 : (h.kind == 2) = false := by simp [hG]
              have hG2 : (h.kind != 2) = true := by simp [hG]
              by_cases hH : h.base = 0
              · have hH1 : (h.base == 0) = true := by simp [hH]
                have hH2 : (h.base != 0) = false := by simp [hH]
                have hV : E = 0 := by rw [hE]; simp [*] <;> omega
                clear hE
                subst hV
                go_enter Try.func17, Try.ntmps17
                go_wp2_with fail
                go_ret
                exact ⟨rfl, (Below.refl _ _).alloc (Nat.le_refl _) _⟩
              · have hH1 : (h.base == 0) = false := by simp [hH]
                have hH2 : (h.base != 0) = true := by simp [hH]
                have hV : E = 4 := by rw [hE]; simp [*] <;> omega
                clear hE
                subst hV
                go_enter Try.func17, Try.ntmps17
                go_wp2_with fail
                go_ret
                exact ⟨rfl, (Below.refl _ _).alloc (Nat.le_refl _) _⟩
          · by_cases hF : h.tick = 0
            · have hF1 : (h.tick == 0) = true := by simp [hF]
              have hF2 : (h.tick != 0) = false := by simp [hF]
              have hG : ¬ h.kind = 2 := by omega
              have hG1 : (h.kind == 2) = false := by simp [hG]
              have hG2 : (h.kind != 2) = true := by simp [hG]
              by_cases hH : h.base = 0
              · have hH1 : (h.base == 0) = true := by simp [hH]
                have hH2 : (h.base != 0) = false := by simp [hH]
                have hV : E = 0 := by rw [hE]; simp [*] <;> omega
                clear hE
                subst hV
                go_enter Try.func17, Try.ntmps17
                go_wp2_with fail
                go_ret
                exact ⟨rfl, (Below.refl _ _).alloc (Nat.le_refl _) _⟩
              · have hH1 : (h.base == 0) = false := by simp [hH]
                have hH2 : (h.base != 0) = true := by simp [hH]
                have hV : E = 4 := by rw [hE]; simp [*] <;> omega
                clear hE
                subst hV
                go_enter Try.func17, Try.ntmps17
                go_wp2_with fail
                go_ret
                exact ⟨rfl, (Below.refl _ _).alloc (Nat.le_refl _) _⟩
            · have hF1 : (h.tick == 0) = false := by simp [hF]
              have hF2 : (h.tick != 0) = true := by simp [hF]
              have hV : E = 4 := by rw [hE]; simp [*] <;> omega
              clear hE
              subst hV
              go_enter Try.func17, Try.ntmps17
              go_wp2_with fail
              go_ret
              exact ⟨rfl, (Below.refl _ _).alloc (Nat.le_refl _) _⟩

def WS.head (s : WS) (h : Head) : WS :=
  let s3 := ((s.inn h.kind 1 5).inn h.client 0 15).var h.epoch
  let s4 := if h.kind ≤ 3 then s3.put h.tick 32 else s3
  if h.kind = 2 then s4.var ((h.tick - h.base - 1) % 4294967296) else s4
end Go.Proofs.Ytbklglckmhfmcaa
