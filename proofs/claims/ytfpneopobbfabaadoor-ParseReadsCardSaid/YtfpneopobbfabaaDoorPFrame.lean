/-
  The frame of the laws of layer 4: from a row's listed variables to what the walks ask of the world; a start that fits. No condition.
-/
import Derived.Test.YtfpneopobbfabaaDoorRows
import Derived.Test.YtfpneopobbfabaaDoorLexC
import Derived.ProofKit
import Derived.LaidMore
import Derived.OpenShut
import Derived.ShutString
import Derived.ChangeOld
import Derived.MakeChecks
import Derived.PinnedBridge
import Derived.Lib.LaidU8
import Derived.Lib.LaidIn
import Derived.Stop.LaidErr
import Derived.HandedShaped
import Derived.Shelf.Vars
namespace Go.Proofs.YtfpneopobbfabaaDoor
open Go.ChangeShapes Go.WideShapes Go.ChangeAt Go.RowKit Go.Lib Go.Shelf

/-- The list of every row of this seat. -/
def laidL : List (String × DataW Unit) := Rows.parseReadsRow.laid
theorem plainL : (laidL.all fun x => x.2.handleName?.isNone) = true := by kernel_rfl
theorem star : "*" ++ "errors.errorString" = "*errors.errorString" := by decide
theorem rowErr (u : TypeId) (h : Tryd.prog.typeName? 3 u = some "*errors.errorString") : u = 128 :=
  typeName_ptr_named (nm := "errors.errorString") (by rw [star]; kernel_rfl) (by kernel_rfl) (by decide) u (by rw [star]; exact h)
theorem err_of_laid {W : World} (h : laidMet Tryd.prog laidL W) : ErrIs W := by
  have h4 := laidMet.tail (laidMet.tail (laidMet.tail h))
  obtain ⟨a0, s0, hv0, -, -, -⟩ := laid_sentinel (n := "strconv.ErrRange") (g := 1) h4 (by kernel_rfl) (by kernel_rfl) Tryd.underlying108 rowErr Tryd.underlying128 Tryd.underlying130 rfl rfl Tryd.underlying9 (by kernel_rfl) (by kernel_rfl)
  exact ⟨_, _, hv0⟩
theorem env_of_laid {W : World} (_ : W.ShapedOpen Tryd.prog) (hH : laidMetH Tryd.prog laidL W) : ErrIs W := by
  rw [MakeChecks.laidMetH_plain _ _ _ plainL] at hH
  exact err_of_laid hH

/-! ### the builder, the world's shape and the listed variables kept -/
theorem returns_of {H : Type} {enc : TypeId × Value → H} {a : Assume} {C : Checked} {os : Os} {f : FuncId} {fn : Func} {s : ChangeSpec} {conds : List PathCond} {apart fresh handsOn again : Bool} {X : World → Array Value → Prop}
    (hX : ∀ (w w' : World) (args : Array Value), w.heap = w'.heap → X w args → X w' args)
    (own : ownKnob C.prog.godebug = none) (started : os.Started) (noInit : C.prog.inits.idxOf? f = none) (hfn : C.prog.funcs[f]? = some fn)
    (witness : ∃ (w : World) (tape : Tape) (i : Input), w.os = os ∧ (w.forCall tape i).Shaped C.prog ∧ i.vars = [] ∧ Input.okWide C.prog (w.forCall tape i) .any w.heap.size f i ∧
      ((s.pre enc C.prog fn conds apart (w.forCall tape i).memory i.args ∧ X (w.forCall tape i).memory i.args) ∧ sizedMet enc C.prog fn (OpenSpec.ofChange s) apart (w.forCall tape i).memory i.args) ∧ a.holds C.prog (lone (Frame.enter C.prog f i.args .normal) [] (w.forCall tape i)))
    (contract : ∀ (W : World) (base : Nat) (args : Array Value) (ds gs : List (DataW H)) (before : List MemPlace),
      (∀ (j : Nat) t v, fn.params[j]? = some t → args[j]? = some v → Value.okWide C.prog W .any base t v) →
      DataW.Whole enc C.prog fn.params.toList s.vars apart W args.toList ds gs before →
      (DataW.weightsEach C.prog (fn.params.toList ++ s.plain.varTypes C.prog) (ds ++ gs)).all (· ≤ reachBytes) = true → X W args → W.ShapedOpen C.prog →
      Calls C.prog f args W fun e W' => ∃ v, e = .returned v ∧ s.post enc C.prog fn apart fresh handsOn again W args v W') :
    ReturnsInHanded a C os f .any (fun w args => (s.pre enc C.prog fn conds apart w args ∧ X w args) ∧ sizedMet enc C.prog fn (OpenSpec.ofChange s) apart w args) (s.post enc C.prog fn apart fresh handsOn again) := by
  refine returnsInHanded_of_calls own started noInit witness ?_
  intro w tape i _ hsh _ hok hpre hholds
  obtain ⟨_, _, _, fn', hfn', _, _, _, _, hval⟩ := hok
  have e : fn' = fn := Option.some.inj (hfn'.symm.trans hfn)
  subst e
  obtain ⟨⟨⟨ds, gs, before, hw, hc⟩, hx⟩, hz⟩ := hpre
  have hw' := DataW.Whole.of_heap (w' := w.forCall tape i) (by rfl) hw
  refine (contract (w.forCall tape i) w.heap.size i.args ds gs before hval hw' (hz.weights hw) (hX _ _ _ (by rfl) hx) hsh).mono fun e W' ⟨v, he, hp⟩ => ?_
  subst he
  exact ChangeSpec.post_blind hp

/-! ### a start that fits: the heap that the program's own door leaves -/
noncomputable def startW (os : Os) : World := World.doorLaid Tryd.prog 96 os
theorem start_in (os : Os) (args : Array Value) : LaidIn Tryd.prog ((startW os).forCall (fun _ _ => 0) ⟨#[], args, []⟩).memory laidL (List.range 400) :=
  LaidIn.of_run (List.range 400) 8 (by kernel_rfl) (by kernel_rfl) (by kernel_rfl) (by kernel_rfl)
theorem start_met (os : Os) (args : Array Value) : laidMetH Tryd.prog laidL ((startW os).forCall (fun _ _ => 0) ⟨#[], args, []⟩).memory := by
  rw [MakeChecks.laidMetH_plain _ _ _ plainL]
  exact (start_in os args).met
theorem start_shaped (os : Os) (args : Array Value) : ((startW os).forCall (fun _ _ => 0) ⟨#[], args, []⟩).Shaped Tryd.prog :=
  World.shaped_of_RefB (by kernel_rfl) (by kernel_rfl)
theorem own : ownKnob Tryd.prog.godebug = none := by kernel_rfl
theorem laidOut : laidOutB Tryd.prog = true := by kernel_rfl
end Go.Proofs.YtfpneopobbfabaaDoor
