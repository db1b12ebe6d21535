/- pinnacelaw20.PacketShort: for every input of bulk at most 1048576 the law returns true, and each argument reads behind the call as it read before. Conditions: those of the given statement PacketShortUptoSaid, no other. -/
import Derived.Test.YtbklglckmhfmcaaLawB
import Derived.Test.YtbklglckmhfmcaaRead
import Derived.Test.YtbklglckmhfmcaaPost
set_option linter.unusedVariables false
set_option linter.unusedSimpArgs false
namespace Go.Proofs.Ytbklglckmhfmcaa
open Go.RowKit Go.ChangeShapes Go.WideShapes
set_option maxRecDepth 100000

theorem prog_own : ownKnob Try.prog.godebug = none := by kernel_rfl
theorem prog_laid : laidOutB Try.prog = true := by kernel_rfl
theorem prog_maps : mapsRowed Try.prog = true := by kernel_rfl
theorem prog_slices : ((List.range Try.prog.types.size).all fun t => match Try.prog.underlying t with | some (.slice e) => decide (0 < Try.prog.cellsOf e) | _ => true) = true := by kernel_rfl

theorem short_contract (H : Type) (enc : TypeId × Value → H) (W : World) (base : Nat) (args : Array Value) (ds gs : List (DataW H)) (before : List MemPlace)
    (hval : ∀ (j : Nat) t v, Try.f3.params[j]? = some t → args[j]? = some v → Value.okWide Try.prog W .any base t v)
    (hW : DataW.Whole enc Try.prog Try.f3.params.toList Rows.packetShortSpec.vars false W args.toList ds gs before) (hk : Rows.uptoSmall H (ds ++ gs) = true) :
    Calls Try.prog 3 args W fun e W' => ∃ v, e = .returned v ∧ Rows.packetShortSpec.post enc Try.prog Try.f3 false true false false W args v W' := by
  have hW' := hW
  obtain ⟨p, q, hA, hV, rfl, hfz, hnd⟩ := hW
  rw [Try.params3] at hA hval
  obtain ⟨v0, vs0, d0, ds0, p0, q0, hargs, rfl, rfl, h0, r0⟩ := trodAll_cons hA
  obtain ⟨v1, vs1, d1, ds1, p1, q1, rfl, rfl, rfl, h1, r1⟩ := trodAll_cons r0
  obtain ⟨rfl, rfl, rfl⟩ := trodAll_nil r1
  obtain rfl : args = #[v0, v1] := by cases args; simp_all
  obtain ⟨rfl, rfl⟩ := trodVars_none hV
  obtain ⟨A, len, cap, rfl⟩ := okWide_slice Try.underlying22 (hval 0 _ v0 rfl rfl)
  obtain ⟨n, h0⟩ := h0
  obtain ⟨l, hre, hbk⟩ := read_ents (v := .slice A len cap) (by simpa [Value.cells] using h0)
  obtain ⟨t, rfl, rfl, rfl, w1⟩ := open_int Try.underlying23 (hval 1 _ v1 rfl rfl) h1
  have ht := bounds_u32 w1
  have hsum : fewN l ≤ 1000000000000 := by
    have h : Rows.uptoBulkAll ([d0, .lit (.int .u32 t)] ++ ([] : List (DataW H))) ≤ 1048576 := of_decide_eq_true hk
    simp only [List.cons_append, List.nil_append, Rows.uptoBulkAll] at h
    have hbk2 : fewN l ≤ Rows.uptoBulk d0 := hbk
    omega
  refine (lshort_any _ _ l t W hre hsum ht.1 ht.2).mono fun e W' ⟨he, hb⟩ => ?_
  subst he
  exact ⟨_, rfl, post_below (tb := 4) prog_laid prog_maps prog_slices hW' rfl rfl rfl rfl hb (by kernel_rfl) (by kernel_rfl) Try.underlying4⟩

theorem short_lifted (os : Os) (started : os.Started) (H : Type) (enc : TypeId × Value → H) (F : Stop.Interp) :
    ReturnsInHanded {} Try.checked os 3 .any ((Rows.OpenSpec.upto Rows.packetShortSpec).pre6 enc Try.prog Try.f3 Rows.packetShortUptoRow.domain false) (((Rows.OpenSpec.upto Rows.packetShortSpec).at F).post enc Try.prog Try.f3 false true false false) := by
  refine returnsInHanded_of_cond (C := Try.checked) (s := Rows.OpenSpec.upto Rows.packetShortSpec) (k := Rows.uptoSmall) rfl prog_own started (by kernel_rfl) Try.func3
    (OpenSpec.witness (enc := enc) (C := Try.checked) (s := Rows.OpenSpec.upto Rows.packetShortSpec) (k := Rows.uptoSmall) rfl false ⟨#[], #[.slice none 0 0, .int .u32 0], []⟩ 8 (by kernel_rfl) (by kernel_rfl) (by kernel_rfl)
      (x := ([.nil, .lit (.int .u32 0)], [], [])) (by kernel_rfl) rfl (by kernel_rfl)) ?_
  intro W base args ds gs before hval hW _ hk _
  exact short_contract H enc W base args ds gs before hval hW hk

theorem short_over : Rows.packetShortUptoRow.holds Try.pinned (Rows.OpenSpec.upto Rows.packetShortSpec) :=
  OpenClaim.holds_of_cond 3 Try.f3 rfl rfl rfl rfl rfl rfl rfl ⟨rfl, rfl, rfl, rfl, rfl⟩ rfl rfl rfl rfl rfl (by kernel_rfl) Try.func3 (by kernel_rfl)
    (of_decide_eq_true (by kernel_rfl)) (by unfold Func.isWrapper; first | (rw [if_pos (by decide +kernel)]; kernel_rfl) | (rw [if_neg (by decide +kernel)]; exact ⟨rfl, rfl⟩))
    (fun os started H enc _ F => short_lifted os started H enc F)

theorem packetShort_holds : Rows.PacketShortUptoSaid := short_over
#print axioms packetShort_holds
end Go.Proofs.Ytbklglckmhfmcaa
