/- The walk of DfaTight. -/
import Derived.Test.YtebdffabfimmkaaDoorHDfaTight47
import Derived.Test.YtebdffabfimmkaaDoorRows
namespace Go.Proofs.YtebdffabfimmkaaDoor
open Go.RowKit Go.Maps

theorem StsIn.lower {w : World} {A : Option Addr} {n c : Nat} {hs : List Sh} {b : Nat} {v : Value} (h : OwnSts w b v hs) (hv : v = .slice A n c) (hl : hs.length = n) (hn : n ≤ 20000) (hs2 : ∀ x ∈ hs, x.d.2.length ≤ 256) : StsIn w w.heap.size A n c hs := by
  subst hv
  exact h.sts hl (by omega) fun x hx => by have := hs2 x hx; omega
set_option linter.unusedVariables false in
set_option maxRecDepth 100000 in
set_option maxHeartbeats 8000000 in
theorem tightlaw_walk (w : World) (A : Option Addr) (n c : Nat) (H : List Lsh) (h : LoIn w w.heap.size A n c H) (most : Int) (ht : Tab w) :
    Calls Tryd.prog 4 #[.slice A n c, .int .i64 most] w fun e w' => e = .returned (.bool true) ∧ Below w.heap.size w w' := by
  have HS := Lib.hid h
  have HT := Lib.hid ht
  have hcm := h.cm
  clear h ht
  go_enter Tryd.func4, Tryd.ntmps4
  go_wp2_with fail
  refine (awake_any _ HT.out).mono ?_
  rintro e w1 ⟨rfl, hb1⟩
  have HB1 := Lib.hid hb1
  clear hb1
  have hcase : 8 < n ∨ (n ≤ 8 ∧ 400 < most) ∨ (n ≤ 8 ∧ most ≤ 400) := by omega
  rcases hcase with hn | ⟨hn, hmo⟩ | ⟨hn, hmo⟩
  · have q1 : decide ((n : Int) > 8) = true := decide_eq_true (by omega)
    have q11 : decide (n > 8) = true := decide_eq_true hn
    clear HS
    go_wp2_with fail
    refine (awake_any _ (HT.out.below HB1.out)).mono ?_
    rintro e w9 ⟨rfl, hb9⟩
    have HB9 := Lib.hid (bcall HB1.out hb9)
    clear hb9
    go_wp2_with fail
    go_ret
    exact ⟨rfl, HB9.out⟩
  · have q1 : decide ((n : Int) > 8) = false := decide_eq_false (by omega)
    have q11 : decide (n > 8) = false := decide_eq_false (by omega)
    have q2 : decide (most > 400) = true := decide_eq_true hmo
    clear HS
    go_wp2_with fail
    refine (awake_any _ (HT.out.below HB1.out)).mono ?_
    rintro e w9 ⟨rfl, hb9⟩
    have HB9 := Lib.hid (bcall HB1.out hb9)
    clear hb9
    go_wp2_with fail
    go_ret
    exact ⟨rfl, HB9.out⟩
  · have q1 : decide ((n : Int) > 8) = false := decide_eq_false (by omega)
    have q11 : decide (n > 8) = false := decide_eq_false (by omega)
    have q2 : decide (most > 400) = false := decide_eq_false (by omega)
    have hbs1 := HB1.out.size
    go_wp2_with fail
    refine (tightE_any w1 w.heap.size hbs1 A n c H (HS.out.keep HB1.out (Nat.le_refl _)) (by omega) most (by omega) (HT.out.below HB1.out)).mono ?_
    rintro e w4 ⟨Aa, na, ca, X, ce, rfl, hoa, hxl, hna, hx2, hia, hb4⟩
    have HOA := Lib.hid hoa
    have HXL := Lib.hid hxl
    have HX2 := Lib.hid hx2
    have HIA := Lib.hid hia
    have HB4 := Lib.hid (bcall HB1.out hb4)
    have hbs4 := HB4.out.size
    clear hoa hxl hx2 hia hb4
    go_wp2_with fail
    refine (reftightE_any w4 w.heap.size hbs4 A n c H (HS.out.keep HB4.out (Nat.le_refl _)) most (by omega)).mono ?_
    rintro e w5 ⟨Ab, nb, cb, Y, cf, rfl, hob, hyl, hnb, hy2, hib, hb5⟩
    obtain ⟨hcc, hxy⟩ := HIA.out.one hib
    subst hcc
    have HOB := Lib.hid hob
    have HYL := Lib.hid hyl
    have HY2 := Lib.hid hy2
    have HXY := Lib.hid hxy
    have HB45 := Lib.hid hb5
    have HB5 := Lib.hid (bcall HB4.out hb5)
    have hbs5 := HB5.out.size
    have hb45 := hb5.size
    clear hob hyl hy2 hib hb5 hxy
    go_wp2_with fail
    refine (tightE_any w5 w.heap.size hbs5 A n c H (HS.out.keep HB5.out (Nat.le_refl _)) (by omega) most (by omega) (HT.out.below HB5.out)).mono ?_
    rintro e w6 ⟨Ac, nc, cc, Z, cg, rfl, hoc, hzl, hnc, hz2, hic, hb6⟩
    obtain ⟨hcc, hxz⟩ := HIA.out.one hic
    subst hcc
    have HOC := Lib.hid (hoc.lower hb45)
    have HZL := Lib.hid hzl
    have HZ2 := Lib.hid hz2
    have HXZ := Lib.hid hxz
    have HB6 := Lib.hid (bcall HB5.out hb6)
    have hbs6 := HB6.out.size
    have HOA6 := Lib.hid (((HOA.out.keep HB45.out).keep hb6).lower hbs1)
    have HOB6 := Lib.hid (HOB.out.keep hb6)
    have HLOW : Hid (∀ x ∈ X, ∀ g, (Value.slice x.A x.d.2.length x.c).ownBlock = some g → g < w4.heap.size) := fun x hx g hg => (World.ownsRow.lt (HOA.out.fam.own x.row (List.mem_map.2 ⟨x, hx, rfl⟩)) g hg).2
    clear hoc hzl hz2 hic hb6 hxz HIA HOA HOB
    go_wp2_with fail
    refine (rsame_any w6 w6.heap.size (Nat.le_refl _) Aa Ab na ca nb cb X Y (StsIn.lower HOA6.out rfl HXL.out hna HX2.out) (StsIn.lower HOB6.out rfl HYL.out hnb HY2.out)).mono ?_
    rintro e w7 ⟨rfl, hb7⟩
    rw [decide_eq_true HXY.out]
    have HB7 := Lib.hid (bcall HB6.out hb7)
    have HOA7 := Lib.hid (HOA6.out.keep hb7)
    have HOB7 := Lib.hid (HOB6.out.keep hb7)
    have HOC7 := Lib.hid (HOC.out.keep hb7)
    clear hb7 HOA6 HOB6 HOC
    have HZY : Hid (Z.map (·.d) = Y.map (·.d)) := HXZ.out.symm.trans HXY.out
    by_cases hna0 : na = 0
    · subst hna0
      go_wp2_with fail
      go_loopw [11] (fun iv wr => iv = .int .i64 (0 : Int) ∧ Hid (wr = w7)) (fun _ _ => 0)
      case atStart => exact ⟨rfl, rfl⟩
      case round =>
        obtain ⟨rfl, hw⟩ := hrel
        obtain rfl : wr = w7 := hw.out
        go_wp2_with fail
        refine (rsame_any wr wr.heap.size (Nat.le_refl _) Ac Ab nc cc nb cb Z Y (StsIn.lower HOC7.out rfl HZL.out hnc HZ2.out) (StsIn.lower HOB7.out rfl HYL.out hnb HY2.out)).mono ?_
        rintro e w8 ⟨rfl, hb8⟩
        rw [decide_eq_true HZY.out]
        have HB8 := Lib.hid (bcall HB7.out hb8)
        clear hb8
        go_wp2_with fail
        go_ret
        exact ⟨rfl, HB8.out⟩
    · obtain ⟨ga, rfl, _, _⟩ := own_head (by have h1 := HOA7.out.out; rw [HXL.out] at h1; exact h1) (show 0 < na by omega)
      have HR7 : Hid (TlR w w7 w4.heap.size ga na ca X (X.map Sh.row) (.slice Ab nb cb) (.slice Ac nc cc) Y Z) := ⟨HB7.out, by have h1 := HOA7.out.out; rw [HXL.out] at h1; exact h1, HOA7.out.fam, HOB7.out, HOC7.out⟩
      clear HOA7 HOB7 HOC7 hna0
      go_wp2_with fail
      go_loopw [11] (fun iv wr => ∃ i : Nat, i ≤ na ∧ iv = .int .i64 i ∧ Hid (TlR w wr w4.heap.size ga na ca X ((X.drop i).map Sh.row) (.slice Ab nb cb) (.slice Ac nc cc) Y Z)) (fun iv _ => na - (intOf iv).toNat)
      case atStart => exact ⟨0, Nat.zero_le _, rfl, HR7⟩
      case round =>
        clear HR7
        obtain ⟨i, hi, rfl, HR⟩ := hrel
        by_cases hin : i < na
        · obtain ⟨x, hx⟩ : ∃ x, X[i]? = some x := ⟨X[i]'(by rw [HXL.out]; exact hin), List.getElem?_eq_getElem _⟩
          have HX := Lib.hid hx
          have hxm := HX2.out x (List.mem_of_getElem? hx)
          have HLX := Lib.hid (HLOW.out x (List.mem_of_getElem? hx))
          have HRX : Hid (TlR w wr w4.heap.size ga na ca X (x.row :: (X.drop (i + 1)).map Sh.row) (.slice Ab nb cb) (.slice Ac nc cc) Y Z) := by
            have h1 := HR.out
            have h2 := List.getElem?_eq_some_iff.1 hx
            rw [List.drop_eq_getElem_cons h2.1, h2.2] at h1
            exact h1
          clear hx HR
          go_wp2_with fail
          refine tightl_k w wr w4.heap.size ga na ca i hin hna X x HX _ _ _ Y Z HLX hxm HRX _ _ _ _ _ _ _ _ _ _ _ _ _ _ _ _ _ _ _ _ _ _ _ _ _ _ _ _ _ _ _ _ _ _ _ _ _ _ _ _ _ _ _ _ _ _ _ _ _ _ _ _ _ _ _ _ _ _ _ _ _ _ _ _ _ _ _ _ _ _ _ _ _ _ _ _ _ _ _ _ _ _ _ _ _ _ _ _ _ _ (fun c a a' w hd h => by cases a; cases a'; cases hd; exact h) ?_
          intro l W x12 u59 u60 u61 u62 u63 u64 u65 u66 u67 u68 u69 u70 u71 u72 u73 u74 u75 u76 HRY
          obtain ⟨_, c1⟩ := state_cell HRY.out.out HX.out
          have hgaw := (own_blk HRY.out.out).2.1
          obtain ⟨m, hm⟩ : ∃ m, x.d.2.length = m := ⟨_, rfl⟩
          rw [hm] at c1 hxm HRY HLX
          have hin2 : (i : Int) < (na : Int) := by omega
          have hrow : W.ownsRow w.heap.size 41 3 (.slice x.A m x.c) m (arcsC l) := HRY.out.fam.own _ (List.mem_cons_self ..)
          have HROW := Lib.hid hrow
          have HBL := Lib.hid HRY.out.bel
          have hbsW := HBL.out.size
          have q7 : decide (((m + 2 : Nat) : Int) < 2) = false := decide_eq_false (by omega)
          have q8 : decide (m + 2 < 2) = false := decide_eq_false (by omega)
          clear hrow hm HRX
          go_wp2_with (at_builtin; refine wpList_pushm w W _ rfl _ _ _ rfl el_arc _ _ _ rfl HROW.out (m := 2) rfl (by simp) rfl (by simp [Value.oneCell']) (by unfold maxLen; omega) (by omega) hbsW HBL.out ?_; intro v9 w9 hown9 _ hg9 hor9; obtain ⟨A9, c9, rfl, _⟩ := own_shape hown9; have HO9 := Lib.hid hown9; have HG9 := Lib.hid hg9; have HOR9 := Lib.hid hor9; clear hown9 hg9 hor9)
          have HRZ := Lib.hid (HRY.out.head (y := ⟨.slice A9 (m + 2) c9, m + 2, _⟩) HG9.out HLX.out HO9.out HOR9.out).tail
          clear HRY HO9 HG9 HOR9 c1
          go_wp2_with fail
          go_roundw
          case rel => exact ⟨i + 1, by omega, by go_num, HRZ⟩
          case measure => simp [intOf]; omega
        · obtain rfl : i = na := by omega
          have HBW := Lib.hid HR.out.bel
          go_wp2_with fail
          refine (rsame_any wr wr.heap.size (Nat.le_refl _) Ac Ab nc cc nb cb Z Y (StsIn.lower HR.out.oc rfl HZL.out hnc HZ2.out) (StsIn.lower HR.out.ob rfl HYL.out hnb HY2.out)).mono ?_
          rintro e w8 ⟨rfl, hb8⟩
          rw [decide_eq_true HZY.out]
          have HB8 := Lib.hid (bcall HBW.out hb8)
          clear hb8
          go_wp2_with fail
          go_ret
          exact ⟨rfl, HB8.out⟩
theorem tightlaw_all (w : World) (A : Option Addr) (n c : Nat) (x : Nat → tLoose.den) (h : LoIn w w.heap.size A n c (looL n x)) (z : Int) (_ : (Lit.int .i64 z).wf = true) (ht : Tab w) :
    Calls Tryd.prog 4 #[.slice A n c, .int .i64 z] w fun e w' => e = .returned (.bool true) ∧ Below w.heap.size w w' := tightlaw_walk w A n c _ h z ht
end Go.Proofs.YtebdffabfimmkaaDoor
/- What the bound on the bulk gives. -/
namespace Go.Proofs.YtebdffabfimmkaaDoor

theorem bulk_one {H : Type} (d : DataW H) : 1 ≤ Rows.uptoBulk d := by
  cases d with
  | lit l => cases l <;> simp [Rows.uptoBulk]
  | nil => simp [Rows.uptoBulk]
  | ptr d => simp [Rows.uptoBulk]
  | slice elems spare => simp [Rows.uptoBulk]
  | agg parts => simp [Rows.uptoBulk]
  | iface t d => simp [Rows.uptoBulk]
  | map entries => simp [Rows.uptoBulk]
  | held h => simp [Rows.uptoBulk]
theorem bulk_mem {H : Type} {d : DataW H} {l : List (DataW H)} (h : d ∈ l) : Rows.uptoBulk d ≤ Rows.uptoBulkAll l := by
  induction l with
  | nil => cases h
  | cons x r ih =>
    simp only [Rows.uptoBulkAll]
    rcases List.mem_cons.1 h with e | e
    · subst e; omega
    · have := ih e; omega
theorem bulk_len {H : Type} (l : List (DataW H)) : l.length ≤ Rows.uptoBulkAll l := by
  induction l with
  | nil => simp [Rows.uptoBulkAll]
  | cons x r ih => have := bulk_one x; simp only [Rows.uptoBulkAll, List.length_cons]; omega
theorem bulk_law (H : Type) : BulkLaw (H := H) Rows.uptoBulk where
  len := fun es sp => by
    have := bulk_len es
    simp only [Rows.uptoBulk]
    omega
  elem := fun es sp d hd => by
    have := bulk_mem hd
    simp only [Rows.uptoBulk]
    omega
  part := fun ps d hd => by
    have := bulk_mem hd
    simp only [Rows.uptoBulk]
    omega
  str := fun s => by simp [Rows.uptoBulk]
theorem bulk_part {H : Type} {l : List (DataW H)} (hk : Rows.uptoSmall H l = true) {d : DataW H} (hd : d ∈ l) : Rows.uptoBulk d ≤ 1048576 := by
  have h1 : Rows.uptoBulkAll l ≤ 1048576 := of_decide_eq_true hk
  exact Nat.le_trans (bulk_mem hd) h1
end Go.Proofs.YtebdffabfimmkaaDoor
