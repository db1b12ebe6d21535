/- pinnacelaw20.PacketApart: for every input of bulk at most 1048576 the law returns true, and each argument reads behind the call as it read before. Conditions: those of the given statement PacketApartUptoSaid, no other. -/
import Derived.Test.YtbklglckmhfmcaaLawC
import Derived.Test.YtbklglckmhfmcaaRead
import Derived.Test.YtbklglckmhfmcaaPost
set_option linter.unusedVariables false
set_option linter.unusedSimpArgs false
namespace Go.Proofs.Ytbklglckmhfmcaa
open Go.RowKit Go.ChangeShapes Go.WideShapes
set_option maxRecDepth 100000

theorem aprog_own : ownKnob Try.prog.godebug = none := by kernel_rfl
theorem aprog_laid : laidOutB Try.prog = true := by kernel_rfl
theorem aprog_maps : mapsRowed Try.prog = true := by kernel_rfl
theorem aprog_slices : ((List.range Try.prog.types.size).all fun t => match Try.prog.underlying t with | some (.slice e) => decide (0 < Try.prog.cellsOf e) | _ => true) = true := by kernel_rfl
theorem head_agg {P : Program} {c : Head} {v : Value} {cs : Array Value} (hv : v = .agg cs) (h : v.cells.toList = [.int .u8 c.kind, .int .u8 c.client, .int .u32 c.epoch, .int .u32 c.tick, .int .u32 c.base]) : v = c.v := by
  subst hv
  have h2 : cs.toList = [.int .u8 c.kind, .int .u8 c.client, .int .u32 c.epoch, .int .u32 c.tick, .int .u32 c.base] := h
  unfold Head.v
  rw [← Array.toArray_toList (xs := cs), h2]

theorem apart_contract (H : Type) (enc : TypeId × Value → H) (W : World) (base : Nat) (args : Array Value) (ds gs : List (DataW H)) (before : List MemPlace)
    (hval : ∀ (j : Nat) t v, Try.f4.params[j]? = some t → args[j]? = some v → Value.okWide Try.prog W .any base t v)
    (hW : DataW.Whole enc Try.prog Try.f4.params.toList Rows.packetApartSpec.vars false W args.toList ds gs before) (hk : Rows.uptoSmall H (ds ++ gs) = true) :
    Calls Try.prog 4 args W fun e W' => ∃ v, e = .returned v ∧ Rows.packetApartSpec.post enc Try.prog Try.f4 false true false false W args v W' := by
  have hW' := hW
  obtain ⟨p, q, hA, hV, rfl, hfz, hnd⟩ := hW
  rw [Try.params4] at hA hval
  obtain ⟨v0, vs0, d0, ds0, p0, q0, hargs, rfl, rfl, h0, r0⟩ := trodAll_cons hA
  obtain ⟨v1, vs1, d1, ds1, p1, q1, rfl, rfl, rfl, h1, r1⟩ := trodAll_cons r0
  obtain ⟨v2, vs2, d2, ds2, p2, q2, rfl, rfl, rfl, h2, r2⟩ := trodAll_cons r1
  obtain ⟨v3, vs3, d3, ds3, p3, q3, rfl, rfl, rfl, h3, r3⟩ := trodAll_cons r2
  obtain ⟨v4, vs4, d4, ds4, p4, q4, rfl, rfl, rfl, h4, r4⟩ := trodAll_cons r3
  obtain ⟨rfl, rfl, rfl⟩ := trodAll_nil r4
  obtain rfl : args = #[v0, v1, v2, v3, v4] := by cases args; simp_all
  obtain ⟨rfl, rfl⟩ := trodVars_none hV
  obtain ⟨cs0, hv0, _⟩ := okWide_struct Try.underlying28 (hval 0 _ v0 rfl rfl)
  obtain ⟨cs1, hv1, _⟩ := okWide_struct Try.underlying28 (hval 1 _ v1 rfl rfl)
  obtain ⟨A2, len2, cap2, rfl⟩ := okWide_slice Try.underlying22 (hval 2 _ v2 rfl rfl)
  obtain ⟨A3, len3, cap3, rfl⟩ := okWide_slice Try.underlying22 (hval 3 _ v3 rfl rfl)
  obtain ⟨A4, len4, cap4, rfl⟩ := okWide_slice Try.underlying22 (hval 4 _ v4 rfl rfl)
  obtain ⟨n0, h0⟩ := h0
  obtain ⟨n1, h1⟩ := h1
  obtain ⟨n2, h2⟩ := h2
  obtain ⟨n3, h3⟩ := h3
  obtain ⟨n4, h4⟩ := h4
  obtain ⟨a, wa, ea⟩ := read_head h0
  obtain ⟨b, wb, eb⟩ := read_head h1
  obtain ⟨l2, hre2, hbk2⟩ := read_ents (v := .slice A2 len2 cap2) (by simpa [Value.cells] using h2)
  obtain ⟨l3, hre3, hbk3⟩ := read_ents (v := .slice A3 len3 cap3) (by simpa [Value.cells] using h3)
  obtain ⟨l4, hre4, hbk4⟩ := read_ents (v := .slice A4 len4 cap4) (by simpa [Value.cells] using h4)
  have ea' := head_agg (P := Try.prog) hv0 ea
  have eb' := head_agg (P := Try.prog) hv1 eb
  have hb2 : fewN l2 ≤ Rows.uptoBulk d2 := hbk2
  have hb3 : fewN l3 ≤ Rows.uptoBulk d3 := hbk3
  have hb4 : fewN l4 ≤ Rows.uptoBulk d4 := hbk4
  have hsum : Rows.uptoBulk d2 ≤ 1048576 ∧ Rows.uptoBulk d3 ≤ 1048576 ∧ Rows.uptoBulk d4 ≤ 1048576 := by
    have h : Rows.uptoBulkAll ([d0, d1, d2, d3, d4] ++ ([] : List (DataW H))) ≤ 1048576 := of_decide_eq_true hk
    simp only [List.cons_append, List.nil_append, Rows.uptoBulkAll] at h
    omega
  have hc := lapart_any _ _ _ a b _ _ _ l2 l3 l4 W wa wb hre2 hre3 hre4 (by omega) (by omega) (by omega)
  rw [← ea', ← eb'] at hc
  refine hc.mono fun e W' ⟨he, hb⟩ => ?_
  subst he
  exact ⟨_, rfl, post_below (tb := 4) aprog_laid aprog_maps aprog_slices hW' rfl rfl rfl rfl hb (by kernel_rfl) (by kernel_rfl) Try.underlying4⟩

theorem apart_lifted (os : Os) (started : os.Started) (H : Type) (enc : TypeId × Value → H) (F : Stop.Interp) :
    ReturnsInHanded {} Try.checked os 4 .any ((Rows.OpenSpec.upto Rows.packetApartSpec).pre6 enc Try.prog Try.f4 Rows.packetApartUptoRow.domain false) (((Rows.OpenSpec.upto Rows.packetApartSpec).at F).post enc Try.prog Try.f4 false true false false) := by
  refine returnsInHanded_of_cond (C := Try.checked) (s := Rows.OpenSpec.upto Rows.packetApartSpec) (k := Rows.uptoSmall) rfl aprog_own started (by kernel_rfl) Try.func4
    (OpenSpec.witness (enc := enc) (C := Try.checked) (s := Rows.OpenSpec.upto Rows.packetApartSpec) (k := Rows.uptoSmall) rfl false
      ⟨#[], #[.agg #[.int .u8 0, .int .u8 0, .int .u32 0, .int .u32 0, .int .u32 0], .agg #[.int .u8 0, .int .u8 0, .int .u32 0, .int .u32 0, .int .u32 0], .slice none 0 0, .slice none 0 0, .slice none 0 0], []⟩ 8 (by kernel_rfl) (by kernel_rfl) (by kernel_rfl)
      (x := ([.agg [.lit (.int .u8 0), .lit (.int .u8 0), .lit (.int .u32 0), .lit (.int .u32 0), .lit (.int .u32 0)], .agg [.lit (.int .u8 0), .lit (.int .u8 0), .lit (.int .u32 0), .lit (.int .u32 0), .lit (.int .u32 0)], .nil, .nil, .nil], [], [])) (by kernel_rfl) rfl (by kernel_rfl)) ?_
  intro W base args ds gs before hval hW _ hk _
  exact apart_contract H enc W base args ds gs before hval hW hk

theorem apart_over : Rows.packetApartUptoRow.holds Try.pinned (Rows.OpenSpec.upto Rows.packetApartSpec) :=
  OpenClaim.holds_of_cond 4 Try.f4 rfl rfl rfl rfl rfl rfl rfl ⟨rfl, rfl, rfl, rfl, rfl⟩ rfl rfl rfl rfl rfl (by kernel_rfl) Try.func4 (by kernel_rfl)
    (of_decide_eq_true (by kernel_rfl)) (by unfold Func.isWrapper; first | (rw [if_pos (by decide +kernel)]; kernel_rfl) | (rw [if_neg (by decide +kernel)]; exact ⟨rfl, rfl⟩))
    (fun os started H enc _ F => apart_lifted os started H enc F)

theorem packetApart_holds : Rows.PacketApartUptoSaid := apart_over
#print axioms packetApart_holds
end Go.Proofs.Ytbklglckmhfmcaa
