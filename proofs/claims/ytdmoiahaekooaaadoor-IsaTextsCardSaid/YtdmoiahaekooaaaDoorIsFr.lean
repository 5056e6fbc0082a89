/-
  The frame of the laws of layer 16: from a row's listed variables to what the walks ask of the world; a start that fits. No condition.
-/
import Derived.Test.YtdmoiahaekooaaaDoorRows
import Derived.Test.YtdmoiahaekooaaaDoorIsH
import Derived.ProofKit
import Derived.LaidMore
import Derived.OpenShut
import Derived.ShutString
import Derived.ChangeOld
import Derived.MakeChecks
import Derived.PinnedBridge
import Derived.Lib.LaidU8
import Derived.Lib.LaidIn
import Derived.Stop.LaidErr
import Derived.HandedShaped
import Derived.Shelf.Vars
import Derived.ChangeBears2
import Derived.Lib.SmallJoins
namespace Go.Proofs.YtdmoiahaekooaaaDoor
open Go.ChangeShapes Go.WideShapes Go.ChangeAt Go.RowKit Go.Lib Go.Shelf Go.Joins Go.Deep

/-- The list of every row of this seat. -/
def laidL : List (String × DataW Unit) := Rows.isaTextsRow.laid
theorem plainL : (laidL.all fun x => x.2.handleName?.isNone) = true := by kernel_rfl
theorem star : "*" ++ "errors.errorString" = "*errors.errorString" := by decide
theorem rowErr (u : TypeId) (h : Tryd.prog.typeName? 3 u = some "*errors.errorString") : u = 115 :=
  typeName_ptr_named (nm := "errors.errorString") (by rw [star]; kernel_rfl) (by kernel_rfl) (by decide) u (by rw [star]; exact h)
theorem dPow : (Rows.laid_internal_strconv_uint64pow10 : DataW Unit) = tabData .u64 pow10Tab := by kernel_rfl
theorem tab_of_reads {P : Program} {W : World} {name : String} {k : IntKind} {zs : List Int} {g : Nat} {t e : TypeId} {n : Nat}
    (hg : P.globalNamed name = some g) (hty : (P.globals[g]?).map (·.type) = some t) (ht : P.underlying t = some (.array n e)) (he : P.underlying e = some (.int k)) (hce : P.cellsOf e = 1) (hct : P.cellsOf t = n)
    (h : VarReads P W name (tabData k zs)) : TabIs P W name k zs := by
  obtain ⟨g', t', cs, fuel, p, hg', ht', hvar, hd⟩ := h
  obtain rfl := Option.some.inj (hg.symm.trans hg')
  obtain rfl := Option.some.inj (hty.symm.trans ht')
  unfold TabIs
  rw [hvar, ← cells_of_tab ht he hce hct hd]
theorem errs_of_laid {W : World} (h : laidMet Tryd.prog laidL W) : (∃ t p, W.cell? ⟨1, 0, none⟩ = some (.iface t p)) ∧ ∃ t p, W.cell? ⟨2, 0, none⟩ = some (.iface t p) := by
  have h4 := laidMet.tail (laidMet.tail (laidMet.tail (laidMet.tail h)))
  obtain ⟨a0, s0, hv0, -, -, -⟩ := laid_sentinel (n := "strconv.ErrRange") (g := 2) h4 (by kernel_rfl) (by kernel_rfl) Tryd.underlying55 rowErr Tryd.underlying115 Tryd.underlying117 rfl rfl Tryd.underlying9 (by kernel_rfl) (by kernel_rfl)
  have h5 := laidMet.tail h4
  obtain ⟨a1, s1, hv1, -, -, -⟩ := laid_sentinel (n := "strconv.ErrSyntax") (g := 1) h5 (by kernel_rfl) (by kernel_rfl) Tryd.underlying55 rowErr Tryd.underlying115 Tryd.underlying117 rfl rfl Tryd.underlying9 (by kernel_rfl) (by kernel_rfl)
  exact ⟨⟨_, _, var?_cell (g := 1) (by kernel_rfl) hv1 0⟩, ⟨_, _, var?_cell (g := 2) (by kernel_rfl) hv0 0⟩⟩
theorem top_of_shape {W : World} (h : W.ShapedOpen Tryd.prog) : ∃ m, W.cell? ⟨0, 0, none⟩ = some (.int .i64 m) :=
  cell_of_shapedOpen_int h (of_decide_eq_true (by kernel_rfl)) (zero := #[.int .i64 0]) (t := 3) (by kernel_rfl) rfl (by kernel_rfl) (by kernel_rfl) Tryd.underlying3
theorem env_of_laid {W : World} (hs : W.ShapedOpen Tryd.prog) (hH : laidMetH Tryd.prog laidL W) : IsEnv W := by
  rw [MakeChecks.laidMetH_plain _ _ _ plainL] at hH
  obtain ⟨h1, h2⟩ := errs_of_laid hH
  refine ⟨?_, h1, h2, top_of_shape hs⟩
  exact tab_of_reads (g := 3) (by kernel_rfl) (by kernel_rfl) Tryd.underlying109 Tryd.underlying31 (by kernel_rfl) (by kernel_rfl) (dPow ▸ laidMet.reads hH (by simp [laidL, Rows.isaTextsRow]))

/-! ### an instruction that came in -/
theorem wf_u8 {n : Int} (h : (Lit.int .u8 n).wf = true) : 0 ≤ n ∧ n < 256 := by
  simp only [Lit.wf, Bool.and_eq_true, decide_eq_true_eq] at h
  have h1 : (0 : Int) ≤ n := h.1
  have h2 : n ≤ 255 := h.2
  omega
theorem wf_i32 {n : Int} (h : (Lit.int .i32 n).wf = true) : -2147483648 ≤ n ∧ n ≤ 2147483647 := by
  simp only [Lit.wf, Bool.and_eq_true, decide_eq_true_eq] at h
  exact h
theorem wf_u64 {n : Int} (h : (Lit.int .u64 n).wf = true) : 0 ≤ n ∧ n < 18446744073709551616 := by
  simp only [Lit.wf, Bool.and_eq_true, decide_eq_true_eq] at h
  have h1 : (0 : Int) ≤ n := h.1
  have h2 : n ≤ 18446744073709551615 := h.2
  omega
section
variable {H : Type} {enc : TypeId × Value → H} {w : World} {base : Nat} {spare : Nat → Bool} {held : Bool}
set_option maxRecDepth 100000 in
theorem open_ins {r : Reach} {b0 : Nat} {v : Value} {d : DataW H} {p : List MemPlace} (hv : Value.okWide Tryd.prog w r b0 23 v) (h : DataW.Trod enc Tryd.prog w base spare held 23 v d p) : ∃ i : Ins, v = insV i ∧ i.ok := by
  have hC : Tryd.prog.cellsOf 23 = 5 := by kernel_rfl
  have k8 : Tryd.prog.cellsOf 5 = 1 := by kernel_rfl
  have k32 : Tryd.prog.cellsOf 21 = 1 := by kernel_rfl
  obtain ⟨cs, rfl, hsz⟩ := okWide_struct Tryd.underlying23 hv
  obtain ⟨l⟩ := cs
  have hl : l.length = 5 := hsz.trans hC
  obtain ⟨x0, x1, x2, x3, x4, rfl⟩ : ∃ x0 x1 x2 x3 x4, l = [x0, x1, x2, x3, x4] := by
    match l, hl with
    | [x0, x1, x2, x3, x4], _ => exact ⟨x0, x1, x2, x3, x4, rfl⟩
  obtain ⟨fuel, hf⟩ := h
  obtain ⟨ys, n, _, _, _, hlen, hg⟩ := DataW.trod_struct Tryd.underlying23 hf
  match ys, hlen with
  | [y0, y1, y2, y3, y4], _ =>
    have g0 : DataW.trod enc Tryd.prog w base spare held n 5 [x0] = some y0 := by simpa [Value.cells, k8] using hg 0 _ rfl
    have g1 : DataW.trod enc Tryd.prog w base spare held n 5 [x1] = some y1 := by simpa [Value.cells, k8] using hg 1 _ rfl
    have g2 : DataW.trod enc Tryd.prog w base spare held n 5 [x2] = some y2 := by simpa [Value.cells, k8] using hg 2 _ rfl
    have g3 : DataW.trod enc Tryd.prog w base spare held n 5 [x3] = some y3 := by simpa [Value.cells, k8] using hg 3 _ rfl
    have g4 : DataW.trod enc Tryd.prog w base spare held n 21 [x4] = some y4 := by simpa [Value.cells, k32] using hg 4 _ rfl
    obtain ⟨n0, e0, -, w0⟩ := DataW.trod_int Tryd.underlying5 g0
    obtain ⟨n1, e1, -, w1⟩ := DataW.trod_int Tryd.underlying5 g1
    obtain ⟨n2, e2, -, w2⟩ := DataW.trod_int Tryd.underlying5 g2
    obtain ⟨n3, e3, -, w3⟩ := DataW.trod_int Tryd.underlying5 g3
    obtain ⟨n4, e4, -, w4⟩ := DataW.trod_int Tryd.underlying21 g4
    injection e0 with e0
    injection e1 with e1
    injection e2 with e2
    injection e3 with e3
    injection e4 with e4
    subst e0 e1 e2 e3 e4
    have b0 := wf_u8 w0
    have b1 := wf_u8 w1
    have b2 := wf_u8 w2
    have b3 := wf_u8 w3
    have b4 := wf_i32 w4
    obtain ⟨m0, rfl⟩ := Int.eq_ofNat_of_zero_le b0.1
    obtain ⟨m1, rfl⟩ := Int.eq_ofNat_of_zero_le b1.1
    obtain ⟨m2, rfl⟩ := Int.eq_ofNat_of_zero_le b2.1
    obtain ⟨m3, rfl⟩ := Int.eq_ofNat_of_zero_le b3.1
    exact ⟨⟨m0, m1, m2, m3, n4⟩, rfl, by show m0 < 256; omega, by show m1 < 256; omega, by show m2 < 256; omega, by show m3 < 256; omega, b4.1, b4.2⟩
end

/-! ### the builder, the world's shape and the listed variables kept -/
theorem returns_of {H : Type} {enc : TypeId × Value → H} {a : Assume} {C : Checked} {os : Os} {f : FuncId} {fn : Func} {s : ChangeSpec} {conds : List PathCond} {apart fresh handsOn again : Bool} {X : World → Array Value → Prop}
    (hX : ∀ (w w' : World) (args : Array Value), w.heap = w'.heap → X w args → X w' args)
    (own : ownKnob C.prog.godebug = none) (started : os.Started) (noInit : C.prog.inits.idxOf? f = none) (hfn : C.prog.funcs[f]? = some fn)
    (witness : ∃ (w : World) (tape : Tape) (i : Input), w.os = os ∧ (w.forCall tape i).Shaped C.prog ∧ i.vars = [] ∧ Input.okWide C.prog (w.forCall tape i) .any w.heap.size f i ∧
      ((s.pre enc C.prog fn conds apart (w.forCall tape i).memory i.args ∧ X (w.forCall tape i).memory i.args) ∧ sizedMet enc C.prog fn (OpenSpec.ofChange s) apart (w.forCall tape i).memory i.args) ∧ a.holds C.prog (lone (Frame.enter C.prog f i.args .normal) [] (w.forCall tape i)))
    (contract : ∀ (W : World) (base : Nat) (args : Array Value) (ds gs : List (DataW H)) (before : List MemPlace),
      (∀ (j : Nat) t v, fn.params[j]? = some t → args[j]? = some v → Value.okWide C.prog W .any base t v) →
      DataW.Whole enc C.prog fn.params.toList s.vars apart W args.toList ds gs before →
      (DataW.weightsEach C.prog (fn.params.toList ++ s.plain.varTypes C.prog) (ds ++ gs)).all (· ≤ reachBytes) = true → X W args → W.ShapedOpen C.prog →
      Calls C.prog f args W fun e W' => ∃ v, e = .returned v ∧ s.post enc C.prog fn apart fresh handsOn again W args v W') :
    ReturnsInHanded a C os f .any (fun w args => (s.pre enc C.prog fn conds apart w args ∧ X w args) ∧ sizedMet enc C.prog fn (OpenSpec.ofChange s) apart w args) (s.post enc C.prog fn apart fresh handsOn again) := by
  refine returnsInHanded_of_calls own started noInit witness ?_
  intro w tape i _ hsh _ hok hpre hholds
  obtain ⟨_, _, _, fn', hfn', _, _, _, _, hval⟩ := hok
  have e : fn' = fn := Option.some.inj (hfn'.symm.trans hfn)
  subst e
  obtain ⟨⟨⟨ds, gs, before, hw, hc⟩, hx⟩, hz⟩ := hpre
  have hw' := DataW.Whole.of_heap (w' := w.forCall tape i) (by rfl) hw
  refine (contract (w.forCall tape i) w.heap.size i.args ds gs before hval hw' (hz.weights hw) (hX _ _ _ (by rfl) hx) hsh).mono fun e W' ⟨v, he, hp⟩ => ?_
  subst he
  exact ChangeSpec.post_blind hp

/-! ### a start that fits: the heap that the program's own door leaves, the pinned table laid beside -/
noncomputable def startW (os : Os) : World :=
  { World.doorLaid Tryd.prog 96 os with heap := (World.doorLaid Tryd.prog 96 os).heap.modify 4 (fun o => match o with | .cells _ t f => .cells (firstTab.map fun z => Value.int .u8 z).toArray t f | o => o) }
theorem start_in (os : Os) (args : Array Value) : LaidIn Tryd.prog ((startW os).forCall (fun _ _ => 0) ⟨#[], args, []⟩).memory laidL (List.range 400) :=
  LaidIn.of_run (List.range 400) 8 (by kernel_rfl) (by kernel_rfl) (by kernel_rfl) (by kernel_rfl)
theorem start_met (os : Os) (args : Array Value) : laidMetH Tryd.prog laidL ((startW os).forCall (fun _ _ => 0) ⟨#[], args, []⟩).memory := by
  rw [MakeChecks.laidMetH_plain _ _ _ plainL]
  exact (start_in os args).met
theorem start_shaped (os : Os) (args : Array Value) : ((startW os).forCall (fun _ _ => 0) ⟨#[], args, []⟩).Shaped Tryd.prog :=
  World.shaped_of_RefB (by kernel_rfl) (by kernel_rfl)
theorem own : ownKnob Tryd.prog.godebug = none := by kernel_rfl
theorem laidOut : laidOutB Tryd.prog = true := by kernel_rfl
end Go.Proofs.YtdmoiahaekooaaaDoor
