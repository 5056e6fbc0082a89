/-
  Walk of windrowlaw04.ParseVerbs: it answers true. Condition: the text is no longer than a string may be; strconv.ErrRange holds an error.
-/
import Derived.Test.YtfpneopobbfabaaDoorPwA
import Derived.Test.YtfpneopobbfabaaDoorPwN
namespace Go.Proofs.YtfpneopobbfabaaDoor
open Go.RowKit Go.Shelf Go.Sort

set_option maxHeartbeats 4000000 in
set_option maxRecDepth 100000 in
theorem PVerbs_any (s : ByteArray) (two : Bool) (w : World) (hs : s.size ≤ maxLen) (hE : ErrIs w) : Calls Tryd.prog 4 #[.string s, .bool two] w fun e w' => e = .returned (.bool true) ∧ Below w.heap.size w w' := by
  have HSh := Lib.hid (fun w h => shown_any w h)
  have H1 := Lib.hid (fun w => Verb_any s two w)
  have H2 := Lib.hid (fun w => rVerb_any s two w)
  have H3 := Lib.hid (fun w h => Name_any s w hs h)
  have H4 := Lib.hid (fun w => rName_any s w hs)
  generalize verbF s.data.toList two = f at *
  generalize (f != 0) = y at *
  generalize nameB s.data.toList = n at *
  go_enter Tryd.func4, Tryd.ntmps4
  go_wp2_with fail
  refine (HSh.out w hE).mono ?_
  rintro _ w1 ⟨rfl, hb1⟩
  have HB1 := Lib.hid hb1
  have HE1 := Lib.hid (hE.kept hb1)
  clear hb1
  go_wp2_with fail
  refine (H1.out _).mono ?_
  rintro _ _ ⟨rfl, rfl⟩
  go_wp2_with fail
  refine (H2.out _).mono ?_
  rintro _ _ ⟨rfl, rfl⟩
  go_wp2_with fail
  refine (H3.out _ HE1.out).mono ?_
  rintro _ w2 ⟨rfl, hb2⟩
  have HB2 := Lib.hid (HB1.out.trans (hb2.mono HB1.out.size))
  clear hb2
  go_wp2_with (go_at_call 18; refine (H4.out _).mono ?_; rintro _ w3 ⟨rfl, hb3⟩)
  have HB3 := Lib.hid (HB2.out.trans (hb3.mono HB2.out.size))
  clear hb3
  cases y <;> cases n
  all_goals
    go_wp2
    go_ret
    exact ⟨rfl, HB3.out⟩
end Go.Proofs.YtfpneopobbfabaaDoor
