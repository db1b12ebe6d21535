/- Behind a law that answers true and has written new blocks alone: all that came in reads as it read. -/
import Derived.Test.YtbklglckmhfmcaaRows
import Derived.Test.YtbklglckmhfmcaaBase
import Derived.ProofKit
import Derived.ReadAgain
import Derived.OpenShut
import Derived.JoinedCond
set_option linter.unusedVariables false
set_option linter.unusedSimpArgs false
namespace Go.Proofs.Ytbklglckmhfmcaa
open Go.RowKit Go.ChangeShapes Go.WideShapes

theorem frozen_below {W W' : World} (hb : Below W.heap.size W W') {a : Addr} (ha : a.block < W.heap.size) : W'.frozen? a = W.frozen? a := by
  unfold World.frozen?
  rw [hb.block _ ha]
theorem sameAt_below {W W' : World} (hb : Below W.heap.size W W') {p : MemPlace} (hp : p.block < W.heap.size) : W.sameAt W' p := by
  cases p with
  | cell b off => show W'.cell? _ = W.cell? _; unfold World.cell?; rw [hb.block b hp]
  | map b => exact hb.block b hp
theorem kept_below {W W' : World} (hb : Below W.heap.size W W') (may : MemPlace → Prop) : W.keptBut W' may := by
  refine ⟨hb.os, hb.output, fun i hi => ?_⟩
  rw [hb.block i hi]
  cases h : W.heap[i]? with
  | none => simp
  | some o => cases o <;> simp
theorem trodAll_below {H : Type} {enc : TypeId × Value → H} {P : Program} {W W' : World} {sp : Nat → Bool} {held : Bool} (hb : Below W.heap.size W W') :
    ∀ {ts : List TypeId} {vs : List Value} {ds : List (DataW H)} {ps : List MemPlace}, (∀ p ∈ ps, p.block < W.heap.size) → DataW.TrodAll enc P W 0 sp held ts vs ds ps → DataW.TrodAll enc P W' 0 sp held ts vs ds ps
  | [], [], [], _, _, h => h
  | _ :: _, _ :: _, _ :: _, _, hl, ⟨p, q, ⟨n, h1⟩, h2, e⟩ => by
    subst e
    refine ⟨p, q, ⟨n, DataW.trod_carry n _ _ _ h1 fun x hx => sameAt_below hb (hl x (List.mem_append_left _ hx))⟩, trodAll_below hb (fun x hx => hl x (List.mem_append_right _ hx)) h2, rfl⟩

theorem post_below {H : Type} {enc : TypeId × Value → H} {P : Program} {f : Func} {s : ChangeSpec} {apart fresh handsOn again : Bool} {W W' : World} {args : Array Value} {ds gs : List (DataW H)} {before : List MemPlace} {tb : TypeId}
    (hl : laidOutB P = true) (hm : mapsRowed P = true) (hz : ((List.range P.types.size).all fun t => match P.underlying t with | some (.slice e) => decide (0 < P.cellsOf e) | _ => true) = true)
    (hW : DataW.Whole enc P f.params.toList s.vars apart W args.toList ds gs before) (hv0 : s.vars = [])
    (hr1 : (s.fn H (ds ++ gs)).results = [.lit (.bool true)]) (ha1 : (s.fn H (ds ++ gs)).args = ds) (hv1 : (s.fn H (ds ++ gs)).vars = [])
    (hb : Below W.heap.size W W') (hT : (f.params.toList.all fun t => decide (t < P.types.size)) = true) (hres : f.resultTypes = #[tb]) (hbool : P.underlying tb = some .bool) :
    s.post enc P f apart fresh handsOn again W args (.bool true) W' := by
  have hW0 := hW
  obtain ⟨p, q, hA, hV, rfl, hfz, hnd⟩ := hW
  rw [hv0] at hV
  obtain ⟨rfl, rfl⟩ := trodVars_none hV
  have hlt := hW0.lt
  have hT' : ∀ t ∈ f.params.toList, t < P.types.size := fun t ht => by simpa using List.all_eq_true.1 hT t ht
  have again : ∀ sp : Nat → Bool, (∀ x ∈ p, sp x.block = true) → DataW.TrodAll enc P W' 0 sp true f.params.toList args.toList ds p := fun sp hs =>
    trodAll_below hb (fun x hx => hlt x (by simpa using hx)) (DataW.TrodAll.respare (kids_rows hl hm) (slices_full_of P hz) hT' hA hs)
  have hone : (Value.bool true).resultList 1 = [.bool true] := rfl
  have hresT : ∀ (b : Nat) (sp : Nat → Bool) (hd : Bool), DataW.TrodAll enc P W' b sp hd f.resultTypes.toList ((Value.bool true).resultList f.resultTypes.size) (s.fn H (ds ++ [])).results [] := by
    intro b sp hd
    rw [hr1, hres]
    exact trodAll_cons_mk (shut_bool hbool true) trodAll_mk0
  have hold : ∀ x ∈ p ++ [], (fun b => decide (b < W.heap.size)) x.block = true := fun x hx => by simpa using hlt x hx
  have hvars : ∀ sp : Nat → Bool, DataW.TrodVars enc P W' sp s.vars (s.fn H (ds ++ [])).vars [] := fun sp => by rw [hv0, hv1]; rfl
  refine ⟨ds, [], p ++ [], [], p, [], hW0, hresT _ _ _, by rw [ha1]; exact again _ fun x hx => hold x (by simpa using hx), hvars _, kept_below hb _, fun _ => ?_⟩
  refine ⟨ok_one hres hone (okWide_bool_mk hbool true), _, _, ([] ++ p) ++ [], ⟨[] ++ p, [], trodAll_append (again (fun _ => true) fun _ _ => rfl) (hresT _ _ _), hvars _, rfl, ?_, ?_⟩, ?_⟩
  · intro b off hp
    have hp' : MemPlace.cell b off ∈ p ++ [] := by simpa using hp
    rw [frozen_below hb (hlt _ hp')]
    exact hfz b off hp'
  · intro ha
    have := hnd ha
    simpa using this
  · intro x hx _
    simpa using hx
end Go.Proofs.Ytbklglckmhfmcaa
