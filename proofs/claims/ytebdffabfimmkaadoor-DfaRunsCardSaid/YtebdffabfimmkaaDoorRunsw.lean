/- The walk of DfaRuns. -/
import Derived.Test.YtebdffabfimmkaaDoorAwake
import Derived.Test.YtebdffabfimmkaaDoorArgs
import Derived.Test.YtebdffabfimmkaaDoorRcheck
namespace Go.Proofs.YtebdffabfimmkaaDoor
open Go.RowKit Go.Maps

set_option maxRecDepth 100000 in
set_option maxHeartbeats 8000000 in
theorem runs_walk (w : World) (A : Option Addr) (n c : Nat) (x : Nat → tState.den) (hd : StsIn w w.heap.size A n c (shL n x)) (p : ByteArray) (_ : p.size ≤ maxLen) (hp : p.data.toList.length ≤ reachBytes) (z : Int) (_ : (Lit.int .i64 z).wf = true) (ch : Int) (hc : (Lit.int .u8 ch).wf = true) (ht : Tab w) :
    Calls Tryd.prog 3 #[.slice A n c, .string p, .int .i64 z, .int .u8 ch] w fun e w' => e = .returned (.bool true) ∧ Below w.heap.size w w' := by
  obtain ⟨t, rfl⟩ : ∃ t : List UInt8, p = ⟨t.toArray⟩ := ⟨p.data.toList, by cases p; simp⟩
  have hpl : t.length ≤ 1125899906842624 := by
    have : (⟨t.toArray⟩ : ByteArray).data.toList.length = t.length := by simp
    unfold reachBytes at hp
    omega
  have hcb := bounds_u8 hc
  have HD := Lib.hid hd
  have HT := Lib.hid ht
  obtain ⟨H, hH⟩ : ∃ H, shL n x = H := ⟨_, rfl⟩
  rw [hH] at HD
  have hck : checkE (H.map (·.d)) = 0 ∨ checkE (H.map (·.d)) = 1 ∨ checkE (H.map (·.d)) = 3 ∨ checkE (H.map (·.d)) = 8 := by
    unfold checkE
    split
    · simp
    · split
      · simp
      · split <;> simp
  have HCK := Lib.hid hck
  have q0 : IntKind.i64.wrap ch = ch := IntWalk.i64_in _ (by omega)
  clear hd ht hH hp hck
  go_enter Tryd.func3, Tryd.ntmps3
  go_wp2_with fail
  refine (awake_any w HT.out).mono ?_
  rintro e w1 ⟨rfl, hb1⟩
  have HB1 := Lib.hid hb1
  have HD1 := Lib.hid (HD.out.keep hb1 hb1.size)
  clear hb1 HD
  go_wp2_with fail
  refine (dcheck_any w1 w1.heap.size (Nat.le_refl _) A n c H HD1.out).mono ?_
  rintro e w2 ⟨rfl, hb2⟩
  have HB2 := Lib.hid (bcall HB1.out hb2)
  have HD2 := Lib.hid (HD1.out.keep hb2 hb2.size)
  clear hb2 HD1 HB1
  obtain ⟨ck, hcke⟩ : ∃ k, checkE (H.map (·.d)) = k := ⟨_, rfl⟩
  have HCE := Lib.hid hcke
  have hckb : 0 ≤ ck ∧ ck ≤ 8 := by rw [← hcke]; have := HCK.out; omega
  rw [hcke]
  have q1 : IntKind.i64.wrap ck = ck := IntWalk.i64_in _ (by omega)
  clear hcke
  go_wp2_with fail
  refine (rcheck_any w2 w2.heap.size (Nat.le_refl _) A n c H HD2.out).mono ?_
  rw [HCE.out]
  rintro e w3 ⟨rfl, hb3⟩
  have HB3 := Lib.hid (bcall HB2.out hb3)
  have HD3 := Lib.hid (HD2.out.keep hb3 hb3.size)
  clear hb3 HD2 HB2
  go_wp2_with fail
  refine (accepts_any w3 w3.heap.size (Nat.le_refl _) A n c H HD3.out t hpl).mono ?_
  rintro e w4 ⟨rfl, hb4⟩
  have HB4 := Lib.hid (bcall HB3.out hb4)
  have HD4 := Lib.hid (HD3.out.keep hb4 hb4.size)
  clear hb4 HD3 HB3
  obtain ⟨tb, htb⟩ : ∃ k, takesB (H.map (·.d)) t = k := ⟨_, rfl⟩
  have HTB := Lib.hid htb
  rw [htb]
  clear htb
  go_wp2_with fail
  refine (raccepts_any w4 w4.heap.size (Nat.le_refl _) A n c H HD4.out t hpl).mono ?_
  rw [HTB.out]
  rintro e w5 ⟨rfl, hb5⟩
  have HB5 := Lib.hid (bcall HB4.out hb5)
  have HD5 := Lib.hid (HD4.out.keep hb5 hb5.size)
  clear hb5 HD4 HB4
  go_wp2_with fail
  refine (dstep_any w5 w5.heap.size (Nat.le_refl _) A n c H HD5.out z ch (by omega)).mono ?_
  rintro e w6 ⟨rfl, hb6⟩
  have HB6 := Lib.hid (bcall HB5.out hb6)
  have HD6 := Lib.hid (HD5.out.keep hb6 hb6.size)
  clear hb6 HD5 HB5
  obtain ⟨st, hst⟩ : ∃ k, stepI (H.map (·.d)) z ch = k := ⟨_, rfl⟩
  have HST := Lib.hid hst
  rw [hst]
  clear hst
  go_wp2_with fail
  refine (rstep_any w6 w6.heap.size (Nat.le_refl _) A n c H HD6.out z ch).mono ?_
  rw [HST.out]
  rintro e w7 ⟨rfl, hb7⟩
  have HB7 := Lib.hid (bcall HB6.out hb7)
  clear hb7 HD6 HB6
  go_wp2_with fail
  go_ret
  exact ⟨by first | rfl | (simp; done), HB7.out⟩
end Go.Proofs.YtebdffabfimmkaaDoor
