/-
  The frame of the laws of stage 8: from a row's listed variables to what the walks ask of the world; a start that fits. No condition.
-/
import Derived.Test.YtknnleiinhdklaaGreatDoorRows
import Derived.Test.YtknnleiinhdklaaGreatDoorPk08
import Derived.ProofKit
import Derived.LaidMore
import Derived.OpenShut
import Derived.ShutString
import Derived.ChangeOld
import Derived.MakeChecks
import Derived.PinnedBridge
import Derived.Lib.LaidU8
import Derived.Lib.LaidIn
import Derived.Stop.LaidErr
import Derived.HandedShaped
import Derived.Shelf.Vars
namespace Go.Proofs.YtknnleiinhdklaaGreatDoor
open Go.ChangeShapes Go.WideShapes Go.ChangeAt Go.RowKit Go.Lib Go.Shelf

/-- The list of every row of this seat. -/
def laidL : List (String × DataW Unit) := Rows.topTwiceRow.laid
theorem plainL : (laidL.all fun x => x.2.handleName?.isNone) = true := by kernel_rfl
theorem dPow : (Rows.laid_internal_strconv_uint64pow10 : DataW Unit) = tabData .u64 pow10Tab := by kernel_rfl
theorem dSpc : (Rows.laid_strings_asciiSpace : DataW Unit) = tabData .u8 asciiSpaceTab := by kernel_rfl
theorem dAcc : (Rows.laid_unicode_utf8_acceptRanges : DataW Unit) = acceptData := by kernel_rfl
theorem dWht : (Rows.laid_unicode_White_Space : DataW Unit) = whiteData := by kernel_rfl
theorem tab_of_reads {P : Program} {W : World} {name : String} {k : IntKind} {zs : List Int} {g : Nat} {t e : TypeId} {n : Nat}
    (hg : P.globalNamed name = some g) (hty : (P.globals[g]?).map (·.type) = some t) (ht : P.underlying t = some (.array n e)) (he : P.underlying e = some (.int k)) (hce : P.cellsOf e = 1) (hct : P.cellsOf t = n)
    (h : VarReads P W name (tabData k zs)) : TabIs P W name k zs := by
  obtain ⟨g', t', cs, fuel, p, hg', ht', hvar, hd⟩ := h
  obtain rfl := Option.some.inj (hg.symm.trans hg')
  obtain rfl := Option.some.inj (hty.symm.trans ht')
  unfold TabIs
  rw [hvar, ← cells_of_tab ht he hce hct hd]
theorem star : "*" ++ "errors.errorString" = "*errors.errorString" := by decide
theorem rowErr (u : TypeId) (h : Tryz.prog.typeName? 3 u = some "*errors.errorString") : u = 217 :=
  typeName_ptr_named (nm := "errors.errorString") (by rw [star]; kernel_rfl) (by kernel_rfl) (by decide) u (by rw [star]; exact h)
theorem u8x : U8Extra Tryz.prog Tryz.lays260_ren := ⟨by kernel_rfl, by kernel_rfl, by kernel_rfl, by kernel_rfl, by kernel_rfl, by kernel_rfl, by kernel_rfl⟩
theorem whx : WhiteExtra Tryz.prog Tryz.lays199_ren := ⟨by kernel_rfl, by kernel_rfl, by kernel_rfl, by kernel_rfl, by kernel_rfl, by kernel_rfl, by kernel_rfl, by kernel_rfl⟩
theorem err_of_laid {W : World} (h : laidMet Tryz.prog laidL W) : ErrIs W := by
  have h4 := laidMet.tail (laidMet.tail (laidMet.tail (laidMet.tail h)))
  obtain ⟨a0, s0, hv0, -, -, -⟩ := laid_sentinel (n := "strconv.ErrRange") (g := 2) h4 (by kernel_rfl) (by kernel_rfl) Tryz.underlying134 rowErr Tryz.underlying217 Tryz.underlying219 rfl rfl Tryz.underlying9 (by kernel_rfl) (by kernel_rfl)
  exact ⟨_, _, hv0⟩
theorem top_of_shape {W : World} (h : W.ShapedOpen Tryz.prog) : ∃ m, W.cell? ⟨3, 0, none⟩ = some (.int .i64 m) :=
  cell_of_shapedOpen_int h (of_decide_eq_true (by kernel_rfl)) (zero := #[.int .i64 0]) (t := 3) (by kernel_rfl) rfl (by kernel_rfl) (by kernel_rfl) Tryz.underlying3
theorem env_of_laid {W : World} (hs : W.ShapedOpen Tryz.prog) (hH : laidMetH Tryz.prog laidL W) : Env W := by
  rw [MakeChecks.laidMetH_plain _ _ _ plainL] at hH
  have rd : ∀ n d, (n, d) ∈ laidL → VarReads Tryz.prog W n d := fun n d hm => laidMet.reads hH hm
  refine ⟨err_of_laid hH, ?_, ?_, ?_, ?_, top_of_shape hs⟩
  · exact tab_of_reads (g := 7) (by kernel_rfl) (by kernel_rfl) Tryz.underlying250 Tryz.underlying161 (by kernel_rfl) (by kernel_rfl) (dPow ▸ rd _ _ (by simp [laidL, Rows.topTwiceRow]))
  · exact tab_of_reads (g := 0) (by kernel_rfl) (by kernel_rfl) Tryz.underlying186 Tryz.underlying5 (by kernel_rfl) (by kernel_rfl) (dSpc ▸ rd _ _ (by simp [laidL, Rows.topTwiceRow]))
  · exact utf8Tabs_of_reads Tryz.lays260 u8x (Pinned.utf8First_eq ▸ rd "unicode/utf8.first" Rows.laid_unicode_utf8_first (by simp [laidL, Rows.topTwiceRow])) (dAcc ▸ rd _ _ (by simp [laidL, Rows.topTwiceRow]))
  · exact whiteTab_of_reads Tryz.lays199 whx (dWht ▸ rd _ _ (by simp [laidL, Rows.topTwiceRow]))

/-! ### the builder, the world's shape and the listed variables kept -/
theorem returns_of {H : Type} {enc : TypeId × Value → H} {a : Assume} {C : Checked} {os : Os} {f : FuncId} {fn : Func} {s : ChangeSpec} {conds : List PathCond} {apart fresh handsOn again : Bool} {X : World → Array Value → Prop}
    (hX : ∀ (w w' : World) (args : Array Value), w.heap = w'.heap → X w args → X w' args)
    (own : ownKnob C.prog.godebug = none) (started : os.Started) (noInit : C.prog.inits.idxOf? f = none) (hfn : C.prog.funcs[f]? = some fn)
    (witness : ∃ (w : World) (tape : Tape) (i : Input), w.os = os ∧ (w.forCall tape i).Shaped C.prog ∧ i.vars = [] ∧ Input.okWide C.prog (w.forCall tape i) .any w.heap.size f i ∧
      ((s.pre enc C.prog fn conds apart (w.forCall tape i).memory i.args ∧ X (w.forCall tape i).memory i.args) ∧ sizedMet enc C.prog fn (OpenSpec.ofChange s) apart (w.forCall tape i).memory i.args) ∧ a.holds C.prog (lone (Frame.enter C.prog f i.args .normal) [] (w.forCall tape i)))
    (contract : ∀ (W : World) (base : Nat) (args : Array Value) (ds gs : List (DataW H)) (before : List MemPlace),
      (∀ (j : Nat) t v, fn.params[j]? = some t → args[j]? = some v → Value.okWide C.prog W .any base t v) →
      DataW.Whole enc C.prog fn.params.toList s.vars apart W args.toList ds gs before →
      (DataW.weightsEach C.prog (fn.params.toList ++ s.plain.varTypes C.prog) (ds ++ gs)).all (· ≤ reachBytes) = true → X W args → W.ShapedOpen C.prog →
      Calls C.prog f args W fun e W' => ∃ v, e = .returned v ∧ s.post enc C.prog fn apart fresh handsOn again W args v W') :
    ReturnsInHanded a C os f .any (fun w args => (s.pre enc C.prog fn conds apart w args ∧ X w args) ∧ sizedMet enc C.prog fn (OpenSpec.ofChange s) apart w args) (s.post enc C.prog fn apart fresh handsOn again) := by
  refine returnsInHanded_of_calls own started noInit witness ?_
  intro w tape i _ hsh _ hok hpre hholds
  obtain ⟨_, _, _, fn', hfn', _, _, _, _, hval⟩ := hok
  have e : fn' = fn := Option.some.inj (hfn'.symm.trans hfn)
  subst e
  obtain ⟨⟨⟨ds, gs, before, hw, hc⟩, hx⟩, hz⟩ := hpre
  have hw' := DataW.Whole.of_heap (w' := w.forCall tape i) (by rfl) hw
  refine (contract (w.forCall tape i) w.heap.size i.args ds gs before hval hw' (hz.weights hw) (hX _ _ _ (by rfl) hx) hsh).mono fun e W' ⟨v, he, hp⟩ => ?_
  subst he
  exact ChangeSpec.post_blind hp

/-! ### a start that fits: the heap that the program's own door leaves, the pinned table laid beside -/
noncomputable def startW (os : Os) : World :=
  { World.doorLaid Tryz.prog 96 os with heap := (World.doorLaid Tryz.prog 96 os).heap.modify 5 (fun o => match o with | .cells _ t f => .cells (firstTab.map fun z => Value.int .u8 z).toArray t f | o => o) }
theorem start_in (os : Os) (args : Array Value) : LaidIn Tryz.prog ((startW os).forCall (fun _ _ => 0) ⟨#[], args, []⟩).memory laidL (List.range 400) :=
  LaidIn.of_run (List.range 400) 8 (by kernel_rfl) (by kernel_rfl) (by kernel_rfl) (by kernel_rfl)
theorem start_met (os : Os) (args : Array Value) : laidMetH Tryz.prog laidL ((startW os).forCall (fun _ _ => 0) ⟨#[], args, []⟩).memory := by
  rw [MakeChecks.laidMetH_plain _ _ _ plainL]
  exact (start_in os args).met
theorem start_shaped (os : Os) (args : Array Value) : ((startW os).forCall (fun _ _ => 0) ⟨#[], args, []⟩).Shaped Tryz.prog :=
  World.shaped_of_RefB (by kernel_rfl) (by kernel_rfl)
theorem wf_u8 {n : Int} (h : (Lit.int .u8 n).wf = true) : 0 ≤ n ∧ n < 256 := by
  simp only [Lit.wf, Bool.and_eq_true, decide_eq_true_eq] at h
  have h1 : (0 : Int) ≤ n := h.1
  have h2 : n ≤ 255 := h.2
  omega
theorem wf_u16 {n : Int} (h : (Lit.int .u16 n).wf = true) : 0 ≤ n ∧ n < 65536 := by
  simp only [Lit.wf, Bool.and_eq_true, decide_eq_true_eq] at h
  have h1 : (0 : Int) ≤ n := h.1
  have h2 : n ≤ 65535 := h.2
  omega
theorem own : ownKnob Tryz.prog.godebug = none := by kernel_rfl
theorem laidOut : laidOutB Tryz.prog = true := by kernel_rfl
end Go.Proofs.YtknnleiinhdklaaGreatDoor
