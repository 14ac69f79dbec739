/- The logic of the walks, part Y: from a contract to a law's statement: what was there reads as before. Conditions: none; nothing of a program stands here. -/
import Derived.Test.YtkpmcldbcljkfaaRtU
import Derived.WalkKit
import Derived.ProofKit
import Derived.OpenShut
set_option linter.unusedVariables false
set_option linter.unusedSimpArgs false
namespace Go.Rt
open Go Go.RowKit Go.ChangeShapes Go.WideShapes Go.ChangeAt

theorem kept_below {w w' : World} (h : Below w.heap.size w w') (may : MemPlace → Prop) : w.keptBut w' may := by
  refine ⟨h.os, h.output, fun i hi => ?_⟩
  rw [h.block i hi]
  cases w.heap[i]? with
  | none => rfl
  | some o => cases o <;> first | exact ⟨rfl, rfl, rfl, fun _ _ => rfl⟩ | exact .inr ⟨rfl, rfl⟩ | rfl

/-- What a law owes, where the call has laid new blocks alone. -/
theorem post_below {H : Type} {enc : TypeId × Value → H} {P : Program} {f : Func} {s : ChangeSpec} {apart fresh handsOn again : Bool} {W W' : World} {args : Array Value} {v : Value} {ds gs : List (DataW H)} {before pa pv : List MemPlace}
    (hW : DataW.Whole enc P f.params.toList s.vars apart W args.toList ds gs before) (hb : Below W.heap.size W W')
    (hres : ∀ (b : Nat) (sp : Nat → Bool) (hd : Bool), DataW.TrodAll enc P W' b sp hd f.resultTypes.toList (v.resultList f.resultTypes.size) (s.fn H (ds ++ gs)).results [])
    (hargs : ∀ sp : Nat → Bool, (∀ p ∈ before, sp p.block = true) → DataW.TrodAll enc P W' 0 sp true f.params.toList args.toList (s.fn H (ds ++ gs)).args pa)
    (hvars : ∀ sp : Nat → Bool, (∀ p ∈ before, sp p.block = true) → DataW.TrodVars enc P W' sp s.vars (s.fn H (ds ++ gs)).vars pv) (hps : before = pa ++ pv)
    (hok : ∀ (j : Nat) (t : TypeId) (r : Value), f.resultTypes[j]? = some t → (v.resultList f.resultTypes.size)[j]? = some r → Value.okWide P W' .any 0 t r) : s.post enc P f apart fresh handsOn again W args v W' := by
  have hlt := hW.lt
  have all : ∀ p ∈ before, (fun _ : Nat => true) p.block = true := fun _ _ => rfl
  have own : ∀ p ∈ before, (fun b => decide (b < W.heap.size)) p.block = true := fun p hp => by simpa using hlt p hp
  have e1 : ([] : List MemPlace) ++ pa ++ pv = before := by simp [hps]
  refine ⟨ds, gs, before, [], pa, pv, hW, hres _ _ _, hargs _ own, hvars _ own, kept_below hb _, fun _ => ⟨hok, _, _, before, ⟨[] ++ pa, pv, trodAll_append (hargs _ all) (hres _ _ _), hvars _ all, e1.symm, ?_, ?_⟩, fun p hp _ => hp⟩⟩
  · obtain ⟨_, _, _, _, _, hz, _⟩ := hW
    intro b off hp
    have h1 := hz b off hp
    have h2 : b < W.heap.size := hlt _ hp
    unfold World.frozen? at h1 ⊢
    rw [hb.block b h2]; exact h1
  · obtain ⟨_, _, _, _, _, _, hn⟩ := hW
    exact hn
end Go.Rt
