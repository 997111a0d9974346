/- The walk of VfsNil. -/
import Derived.Test.YtfiphjhpjaddcaaNil
import Derived.Test.YtfiphjhpjaddcaaAwake
namespace Go.Proofs.Ytfiphjhpjaddcaa
open Go.RowKit Go.Maps

set_option maxRecDepth 100000 in
set_option maxHeartbeats 4000000 in
theorem nil_walk (w : World) (p : ByteArray) (_ : p.size ≤ maxLen) (_ : p.data.toList.length ≤ reachBytes) (n : Int) (_ : (Lit.int .i64 n).wf = true) : Calls Try.prog 7 #[.string p, .int .i64 n] w fun e w' => e = .returned (.bool true) ∧ Below w.heap.size w w' := by
  have hz : ((⟨#[]⟩ : ByteArray).toList == []) = true := by decide +kernel
  go_enter Try.func7, Try.ntmps7
  go_wp2_with fail
  refine (nil_read _ p).mono ?_
  rintro e w1 ⟨rfl, hb⟩
  go_wp2_with fail
  refine (nil_calm _).mono ?_
  rintro e _ ⟨rfl, rfl⟩
  go_wp2_with fail
  refine (awake_any _).mono ?_
  rintro e w2 ⟨rfl, hb2⟩
  replace hb := bcall hb hb2
  clear hb2
  go_wp2_with fail
  refine (nil_create _ p).mono ?_
  rintro e w3 ⟨rfl, hb2⟩
  replace hb := bcall hb hb2
  clear hb2
  go_wp2_with fail
  refine (nil_append _ p p).mono ?_
  rintro e w4 ⟨rfl, hb2⟩
  replace hb := bcall hb hb2
  clear hb2
  go_wp2_with fail
  refine (nil_sync _ p).mono ?_
  rintro e w5 ⟨rfl, hb2⟩
  replace hb := bcall hb hb2
  clear hb2
  go_wp2_with fail
  refine (nil_rename _ p p).mono ?_
  rintro e w6 ⟨rfl, hb2⟩
  replace hb := bcall hb hb2
  clear hb2
  go_wp2_with fail
  refine (nil_remove _ p).mono ?_
  rintro e w7 ⟨rfl, hb2⟩
  replace hb := bcall hb hb2
  clear hb2
  go_wp2_with fail
  refine (nil_syncDir _).mono ?_
  rintro e w8 ⟨rfl, hb2⟩
  replace hb := bcall hb hb2
  clear hb2
  go_wp2_with fail
  refine (nil_restart _ n).mono ?_
  rintro e w9 ⟨rfl, hb2⟩
  replace hb := bcall hb hb2
  clear hb2
  go_wp2_with fail
  refine (nil_arm _ n 14).mono ?_
  rintro e _ ⟨rfl, rfl⟩
  go_wp2_with fail
  refine (nil_list _).mono ?_
  rintro e w10 ⟨rfl, hb2⟩
  replace hb := bcall hb hb2
  clear hb2
  go_wp2_with fail
  refine (nil_steps _).mono ?_
  rintro e _ ⟨rfl, rfl⟩
  go_wp2_with fail
  refine (nil_down _).mono ?_
  rintro e _ ⟨rfl, rfl⟩
  go_wp2_with fail
  go_ret
  exact ⟨rfl, hb⟩
end Go.Proofs.Ytfiphjhpjaddcaa
