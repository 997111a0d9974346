/- The walk of FstNil. -/
import Derived.Test.YtheickndnniomaaDoorAwake
import Derived.Test.YtheickndnniomaaDoorNodeg
namespace Go.Proofs.YtheickndnniomaaDoor
open Go.RowKit Go.Maps

set_option maxRecDepth 100000 in
set_option maxHeartbeats 4000000 in
theorem nil_walk (w : World) (p : ByteArray) (_ : p.size ≤ maxLen) (_ : p.data.toList.length ≤ reachBytes) (n : Int) (_ : (Lit.int .i64 n).wf = true) (ht : Tab w) : Calls Tryd.prog 7 #[.string p, .int .i64 n] w fun e w' => e = .returned (.bool true) ∧ Below w.heap.size w w' := by
  obtain ⟨t, rfl⟩ : ∃ t : List UInt8, p = ⟨t.toArray⟩ := ⟨p.data.toList, by cases p; simp⟩
  have HT := Lib.hid ht
  clear ht
  go_enter Tryd.func7, Tryd.ntmps7
  go_wp2_with fail
  refine (get_nil _ t).mono ?_
  rintro e _ ⟨rfl, rfl⟩
  go_wp2_with fail
  refine (count_nil _).mono ?_
  rintro e _ ⟨rfl, rfl⟩
  go_wp2_with fail
  refine (root_nil _).mono ?_
  rintro e _ ⟨rfl, rfl⟩
  go_wp2_with fail
  refine (gnode_nil _ n).mono ?_
  rintro e w1 ⟨rfl, hb1⟩
  have HB1 := Lib.hid hb1
  clear hb1
  unfold zeroN
  go_wp2_with fail
  refine (awake_any _ (HT.out.below (bnew HB1.out _))).mono ?_
  rintro e w2 ⟨rfl, hb2⟩
  have HB2 := Lib.hid (bcall (bnew HB1.out _) hb2)
  clear hb2 HB1
  go_wp2_with fail
  refine (all_nil w2).mono ?_
  rintro e w3 ⟨rfl, hb3⟩
  have HB3 := Lib.hid (bcall HB2.out hb3)
  clear hb3 HB2
  go_wp2_with fail
  go_ret
  exact ⟨rfl, HB3.out⟩
end Go.Proofs.YtheickndnniomaaDoor
