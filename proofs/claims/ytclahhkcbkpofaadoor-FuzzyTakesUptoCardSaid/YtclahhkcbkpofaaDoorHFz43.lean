/- dfa.least. -/
import Derived.Test.YtclahhkcbkpofaaDoorHFz40
import Derived.Test.YtclahhkcbkpofaaDoorHFz41
import Derived.Test.YtclahhkcbkpofaaDoorHFz42
namespace Go.Proofs.YtclahhkcbkpofaaDoor
open Go.RowKit Go.Maps
/-- What a round of least holds. -/
structure LeR (w W : World) (n : Nat) (Ao : Option Addr) (co : Nat) (L : List Bool) (cb : Nat) (C : List Int) (kb nn : Nat) (N : DataW Unit) (nb : Nat) (X : List Int) : Prop where
  bel : Below w.heap.size w W
  lv : W.ownsRow w.heap.size 4 1 (.slice Ao n co) n (L.map .bool)
  cl : W.ownsRow w.heap.size 3 1 (.slice (some ⟨cb, 0, none⟩) n n) n (C.map (.int .i64))
  kn : siMap W kb nn N
  nx : W.ownsRow w.heap.size 3 1 (.slice (some ⟨nb, 0, none⟩) n n) n (X.map (.int .i64))
  klo : w.heap.size ≤ kb
  ne : cb ≠ nb
theorem LeR.keep {w W W' : World} {n : Nat} {Ao : Option Addr} {co : Nat} {L : List Bool} {cb : Nat} {C : List Int} {kb nn : Nat} {N : DataW Unit} {nb : Nat} {X : List Int} (h : LeR w W n Ao co L cb C kb nn N nb X) (hb : Below W.heap.size W W') : LeR w W' n Ao co L cb C kb nn N nb X :=
  ⟨bcall h.bel hb, own_kept h.lv hb, own_kept h.cl hb, map_keep h.kn hb, own_kept h.nx hb, h.klo, h.ne⟩
theorem LeR.putK {w W W' : World} {n : Nat} {Ao : Option Addr} {co : Nat} {L : List Bool} {cb : Nat} {C : List Int} {kb nn : Nat} {N N' : DataW Unit} {nb : Nat} {X : List Int} (h : LeR w W n Ao co L cb C kb nn N nb X) (hm : siMap W' kb (nn + 1) N') (hg : W.grownBy W' (some kb)) : LeR w W' n Ao co L cb C kb (nn + 1) N' nb X :=
  ⟨h.bel.grown hg h.bel.size (fun r hr => by injection hr with hr; have := h.klo; omega), h.lv.kept hg (row_not_map h.lv h.kn), h.cl.kept hg (row_not_map h.cl h.kn), hm, h.nx.kept hg (row_not_map h.nx h.kn), h.klo, h.ne⟩
theorem LeR.setN {w W : World} {n : Nat} {Ao : Option Addr} {co : Nat} {L : List Bool} {cb : Nat} {C : List Int} {kb nn : Nat} {N : DataW Unit} {nb : Nat} {X : List Int} (h : LeR w W n Ao co L cb C kb nn N nb X) (i : Nat) (z : Int) : LeR w (W.setCell ⟨nb, i, none⟩ (.int .i64 z)) n Ao co L cb C kb nn N nb (X.set i z) := by
  obtain ⟨q1, q2, cs, q3⟩ := own_blk h.nx
  refine ⟨below_set h.bel q1 (Nat.le_refl _), own_other h.lv q3 (by decide), h.cl.kept (set_grown _ _ _) (.inr ?_), h.kn.kept (set_grown _ _ _) ?_, ?_, h.klo, h.ne⟩
  · intro e
    simp only [Value.ownBlock, Option.some.injEq] at e
    exact h.ne e
  · intro e
    injection e with e
    obtain ⟨es, clock, hb, _⟩ := h.kn
    rw [e, q3] at hb
    cases hb
  · rw [List.map_set]
    exact own_put h.nx
theorem txt_len {d : List St} {L : List Bool} {C : List Int} (hg : Good d) (hcp : ∀ x ∈ C, 0 ≤ x ∧ x ≤ 1000000) (x : Nat) : (txt d L C x).length ≤ 30000 := by
  unfold txt
  split
  · have hasc : Asc (d.getD x (false, [])).2 256 := by
      rw [List.getD_eq_getElem?_getD]
      cases hx : d[x]? with
      | none => exact ⟨List.Pairwise.nil, fun a ha => absurd ha List.not_mem_nil⟩
      | some s => exact hg.asc s (List.mem_of_getElem? hx)
    have hl := arcsT_len (led_in (L := L) hasc hcp)
    have h256 := Nat.le_trans (ledA_len (ledF L C) (d.getD x (false, [])).2) (asc_few hasc)
    have hc : 0 ≤ C.getD x 0 ∧ C.getD x 0 ≤ 1000000 := by
      rw [List.getD_eq_getElem?_getD]
      cases hx : C[x]? with
      | none => exact ⟨by simp, by simp⟩
      | some z => exact hcp z (List.mem_of_getElem? hx)
    have hi := Lib.itoa_length_le (C.getD x 0) (by omega) (by omega)
    unfold sigT
    rw [List.length_append, List.length_append]
    have : (if (d.getD x (false, [])).1 = true then [(33 : UInt8)] else []).length ≤ 1 := by split <;> simp
    omega
  · simp
set_option maxRecDepth 100000 in
set_option maxHeartbeats 8000000 in
theorem dleast_any (w : World) (B : Nat) (hB : B ≤ w.heap.size) (A : Option Addr) (n c : Nat) (H : List Sh) (h : StsIn w B A n c H) (hn : 0 < n) (hgood : Good (H.map (·.d))) (ht : Tab w) :
    Calls Tryd.prog 42 #[.slice A n c] w fun e w' => ∃ v hs, e = .returned v ∧ OwnSts w' w.heap.size v hs ∧ LeastIs (auOf (H.map (·.d))) 0 (hs.map (·.d)) ∧ hs.length ≤ n ∧ Below w.heap.size w w' := by
  have HS := Lib.hid h
  have HG := Lib.hid hgood
  have HT := Lib.hid ht
  have hdl : (H.map (·.d)).length = n := by rw [List.length_map]; exact h.len
  obtain ⟨d, hd⟩ : ∃ d, H.map (·.d) = d := ⟨_, rfl⟩
  have HD := Lib.hid hd
  rw [hd] at hdl HG
  rw [hd]
  have HDL := Lib.hid hdl
  have hn2 : n ≤ 20000 := by rw [← hdl]; exact HG.out.few
  have m1 := fun w => make_int n (by omega) w
  have hmm := @run_makeMap Tryd.prog
  clear h hgood ht hd hdl
  go_enter Tryd.func42, Tryd.ntmps42
  go_wp2_with fail
  refine (alive_any w B hB A n c H HS.out hn (by rw [HD.out]; exact HG.out)).mono ?_
  rintro e w1 ⟨Ao, co, L, rfl, hown1, hlen1, hlive1, hb1⟩
  rw [HD.out] at hlive1
  have HL1 := Lib.hid hown1
  have HLL := Lib.hid hlen1
  have HLV := Lib.hid hlive1
  have HB1 := Lib.hid hb1
  clear hown1 hlen1 hlive1 hb1
  go_wp2_with fail
  have HB2 := Lib.hid (bnew HB1.out (.cells (madeCells #[.int .i64 0] n) 3))
  have HL2 := Lib.hid (own_kept HL1.out (bnew (brefl w1) (.cells (madeCells #[.int .i64 0] n) 3)))
  have HC2 := Lib.hid (own_made w1 (.int .i64 0) n (by omega) 3 rfl HB1.out.size)
  clear HL1 HB1
  generalize w1.alloc (.cells (madeCells #[.int .i64 0] n) 3) = W2 at *
  generalize w1.heap.size = cb0 at *
  have HCI : Hid (ClsIn n (List.replicate n 0)) := ⟨by simp, fun x hx => by rw [(List.mem_replicate.1 hx).2]; omega⟩
  have HCO : Hid (Coarse (auOf d) n (clsOf (List.replicate n 0))) := fun x hx y hy _ => by
    unfold clsOf
    rw [List.getD_eq_getElem?_getD, List.getD_eq_getElem?_getD, List.getElem?_replicate, List.getElem?_replicate, if_pos hx, if_pos hy]
  have HC3 : Hid (W2.ownsRow w.heap.size 3 1 (.slice (some ⟨cb0, 0, none⟩) n n) n ((List.replicate n (0 : Int)).map (.int .i64))) := by rw [List.map_replicate]; exact HC2.out
  clear HC2
  go_loopw [4, 5] (fun cv nv wr => ∃ (cb count : Nat) (C : List Int), cv = .slice (some ⟨cb, 0, none⟩) n n ∧ nv = .int .i64 count ∧ count ≤ n ∧ Hid (Below w.heap.size w wr) ∧ Hid (wr.ownsRow w.heap.size 4 1 (.slice Ao n co) n (L.map .bool)) ∧ Hid (wr.ownsRow w.heap.size 3 1 (.slice (some ⟨cb, 0, none⟩) n n) n (C.map (.int .i64))) ∧ Hid (ClsIn n C ∧ Coarse (auOf d) n (clsOf C) ∧ (count = 0 ∨ Onto n (clsOf C) count))) (fun _ nv _ => n + 1 - (intOf nv).toNat)
  case atStart => exact ⟨cb0, 0, _, rfl, rfl, Nat.zero_le _, HB2, HL2, HC3, HCI.out, HCO.out, .inl rfl⟩
  case round =>
    clear HB2 HL2 HC3 HCI HCO
    obtain ⟨cb, count, C, rfl, rfl, hcn, HB, HLV1, HCL, HP⟩ := hrel
    have hcbl := (own_blk HCL.out).2.1
    have hws := HB.out.size
    have i0 : (0 : Int) ≤ (n : Int) := by omega
    have hm0 := World.ownsMap_made (H := Unit) wr Tryd.prog 9 (plainElem Tryd.prog 3)
    have HR0 : Hid (LeR w ((wr.alloc (.map #[] 0)).alloc (.cells (madeCells #[.int .i64 0] n) 3)) n Ao co L cb C wr.heap.size 0 (.map []) (wr.heap.size + 1) (List.replicate n 0)) := by
      refine ⟨bnew (bnew HB.out _) _, own_kept (own_kept HLV1.out (bnew (brefl _) _)) (bnew (brefl _) _), own_kept (own_kept HCL.out (bnew (brefl _) _)) (bnew (brefl _) _), hm0.alloc _, ?_, hws, by omega⟩
      rw [List.map_replicate]
      exact own_made _ (.int .i64 0) n (by omega) 3 (by simp) (by simp; omega)
    clear hm0
    go_wp2_with fail
    have HT0 := Lib.hid (TxtP.start (txt d L C) (List.replicate n 0))
    have HX0 : Hid ((List.replicate n (0 : Int)).length = n) := List.length_replicate
    have HK0 : Hid (KnownN (.map []) []) := knownN_nil
    clear hcbl hws HB HLV1 HCL
    generalize (wr.alloc (.map #[] 0)).alloc (.cells (madeCells #[.int .i64 0] n) 3) = W3 at *
    generalize wr.heap.size = kb at *
    go_loopw [23] (fun iv wj => ∃ (i nn : Nat) (N : DataW Unit) (ss : List (List UInt8)) (X : List Int), iv = .int .i64 i ∧ i ≤ n ∧ nn ≤ i ∧ Hid (LeR w wj n Ao co L cb C kb nn N (kb + 1) X) ∧ Hid (KnownN N ss) ∧ Hid (TxtP (txt d L C) i ss X ∧ X.length = n)) (fun iv _ => n - (intOf iv).toNat)
    case atStart => exact ⟨0, 0, _, _, _, rfl, Nat.zero_le _, Nat.le_refl _, HR0, HK0, HT0.out, HX0.out⟩
    case round =>
      clear HR0 HK0 HT0 HX0
      obtain ⟨i, nn, N, ss, X, rfl, hin, hnn, HR, HK, HX⟩ := hrel
      by_cases hlt : i < n
      · obtain ⟨x, hx⟩ : ∃ x, H[i]? = some x := ⟨H[i]'(by have := HS.out.len; omega), List.getElem?_eq_getElem _⟩
        have hdx : d[i]? = some x.d := by rw [← HD.out, List.getElem?_map, hx]; rfl
        obtain ⟨lv, hlv⟩ : ∃ b, L[i]? = some b := ⟨L[i]'(by rw [HLL.out]; exact hlt), List.getElem?_eq_getElem _⟩
        obtain ⟨cv, hcv⟩ : ∃ z, C[i]? = some z := ⟨C[i]'(by rw [HP.out.1.len]; exact hlt), List.getElem?_eq_getElem _⟩
        have HTX := Lib.hid (txt_at (L := L) (C := C) hdx hlv hcv)
        have hcp : ∀ z ∈ C, 0 ≤ z ∧ z ≤ 1000000 := fun z hz => by have := HP.out.1.in_ z hz; omega
        have hgd := HG.out
        have hxs := hgd.asc _ (List.mem_of_getElem? hdx)
        have hxt : ∀ a ∈ x.d.2, 0 ≤ a.2.2 ∧ a.2.2 < (n : Int) := by rw [← HDL.out]; exact hgd.to_ _ (List.mem_of_getElem? hdx)
        have hbs := HR.out.bel.size
        have HSG := Lib.hid (dsign_any wr wr.heap.size (Nat.le_refl _) A n c H (HS.out.keep (HR.out.bel.mono hB) (Nat.le_trans hB hbs)) (by omega) Ao co L ⟨HLL.out, Sl.of_own HR.out.lv⟩ (some ⟨cb, 0, none⟩) n C ⟨HP.out.1.len, Sl.of_own HR.out.cl⟩ hcp i x hx hxs hxt (HT.out.below HR.out.bel) cv hcv lv hlv)
        rw [← HTX.out] at HSG
        have htl := txt_len (L := L) hgd hcp i
        obtain ⟨t, ht⟩ : ∃ t, txt d L C i = t := ⟨_, rfl⟩
        have HTT := Lib.hid ht
        rw [ht] at HSG htl
        have i1 : (0 : Int) ≤ (i : Int) := by omega
        have i2 : (i : Int) < (n : Int) := by omega
        clear hx hdx hlv hcv hcp hgd hxs hxt ht HTX hbs
        go_wp2_with fail
        refine HSG.out.mono ?_
        rintro e w6 ⟨rfl, hb6⟩
        have HR6 := Lib.hid (HR.out.keep hb6)
        clear hb6 HR HSG
        have hn6 := own_free HR6.out.nx i
        have hn6l := (own_blk HR6.out.nx).2.1
        have HTL : Hid (t.length ≤ maxLen) := by show _ ≤ _; unfold maxLen; omega
        have hkn := HK.out.1.2 t
        obtain ⟨xi, hxi⟩ : ∃ z, X[i]? = some z := ⟨X[i]'(by rw [HX.out.2]; exact hlt), List.getElem?_eq_getElem _⟩
        have hn6c := own_cell (j := i) (u := .int .i64 xi) HR6.out.nx (by rw [List.getElem?_map, hxi]; rfl)
        have HXI := Lib.hid hxi
        clear hxi
        cases hq : idx ss t with
        | some q =>
          rw [hq] at hkn
          have hlk := look_si HR6.out.kn t HTL.out
          have hlk1 := look_si1 HR6.out.kn t HTL.out
          rw [hkn.1, hkn.2] at hlk
          rw [hkn.2] at hlk1
          have HXN : Hid (TxtP (txt d L C) (i + 1) ss (X.set i (q : Int)) ∧ (X.set i (q : Int)).length = n) := ⟨HX.out.1.old (by rw [HTT.out]; exact hq) (by rw [HX.out.2]; exact hlt), by rw [List.length_set]; exact HX.out.2⟩
          have HRN := Lib.hid (HR6.out.setN i (q : Int))
          clear hkn hq HX
          go_wp2_with fail
          go_roundw
          case rel => exact ⟨i + 1, nn, N, ss, _, by go_num, by omega, by omega, HRN, HK, HXN⟩
          case measure => simp [intOf]; omega
        | none =>
          rw [hq] at hkn
          have hlk := look_si HR6.out.kn t HTL.out
          rw [hkn] at hlk
          have hlen := len_si HR6.out.kn
          rw [HK.out.2] at hlen
          have hss : ss.length ≤ 20000 := by have := HX.out.1.few; omega
          obtain ⟨K, hKe⟩ : ∃ K : ByteArray, ⟨t.toArray⟩ = K := ⟨_, rfl⟩
          have hKd : K.data.toList = t := by rw [← hKe]
          have hKz : K.size ≤ maxLen := by rw [← hKe, size_mk]; exact HTL.out
          obtain ⟨w7, run7, ho7, ht7⟩ := World.ownsMap.store (w := w6) HR6.out.kn lawS Tryd.underlying69 (by unfold maxLen; omega) (key := .string K) (val := .int .i64 (ss.length : Nat)) (Go.WideMaps.keyOf_string_mk Tryd.underlying9 hKz) (plainElem_int Tryd.underlying3 (WalkArith.wf_i64 (by omega)))
          rw [hKd] at ho7
          have HR7 := Lib.hid (HR6.out.putK ho7 ht7.grown)
          have HKN := Lib.hid (HK.out.snoc (HR6.out.kn.tidy lawS) hq)
          have hlk1 := look_si1 HR7.out.kn t HTL.out
          have hnum : numD (N.put (.string t) (.lit (.int .i64 (ss.length : Nat)))) t = (ss.length : Int) := by
            have h1 := HKN.out.1.2 t
            rw [idx_snoc, hq] at h1
            simp only [if_true] at h1
            exact h1.2
          rw [hnum] at hlk1
          have hn7 := own_free HR7.out.nx i
          have hn7l := (own_blk HR7.out.nx).2.1
          have hn7c := own_cell (j := i) (u := .int .i64 xi) HR7.out.nx (by rw [List.getElem?_map, HXI.out]; rfl)
          have HXN : Hid (TxtP (txt d L C) (i + 1) (ss ++ [t]) (X.set i (ss.length : Nat)) ∧ (X.set i (ss.length : Nat)).length = n) := ⟨by have h1 := HX.out.1.new (i := i) (by rw [HTT.out]; exact hq) (by rw [HX.out.2]; exact hlt); rw [HTT.out] at h1; exact h1, by rw [List.length_set]; exact HX.out.2⟩
          have HRN := Lib.hid (HR7.out.setN i (ss.length : Nat))
          rw [hKe] at hlk hlk1 ⊢
          clear hkn hq HX ho7 ht7 hnum hKe hKd hKz hn6c hn6 hn6l
          go_wp2_with fail
          go_roundw
          case rel => exact ⟨i + 1, nn + 1, _, ss ++ [t], _, by go_num, by omega, by omega, HRN, HKN, HXN⟩
          case measure => simp [intOf]; omega
      · obtain rfl : n = i := by omega
        have HRD := Lib.hid (TxtP.round HG.out HLV.out (by rw [HDL.out]; exact HLL.out) (by rw [HDL.out]; exact HP.out.1) (by rw [HDL.out]; exact HX.out.2) (by rw [HDL.out]; exact HX.out.1))
        rw [HDL.out] at HRD
        have hle := onto_le HRD.out.1.onto
        have hpos : 0 < ss.length := Nat.lt_of_le_of_lt (Nat.zero_le _) (HRD.out.1.onto.1 0 hn)
        have HPOS := Lib.hid hpos
        have HW : Hid (Within (auOf d) n) := by rw [← HDL.out]; exact HG.out.within
        have hlen := len_si HR.out.kn
        rw [HK.out.2] at hlen
        obtain ⟨m, hm⟩ : ∃ m, ss.length = m := ⟨_, rfl⟩
        rw [hm] at HRD hle hlen HPOS
        clear hm hpos
        by_cases he : m = count
        · subst he
          have HON : Hid (Onto n (clsOf C) m) := by
            rcases HP.out.2.2 with h0 | h0
            · have := HPOS.out; omega
            · exact h0
          have HARG : Hid (NuArgs wr wr.heap.size A n c H Ao L (some ⟨kb + 1, 0, none⟩) X) := by
            refine ⟨HS.out.keep (HR.out.bel.mono hB) (Nat.le_trans hB HR.out.bel.size), hn, ⟨HLL.out, Sl.of_own HR.out.lv⟩, ⟨HX.out.2, Sl.of_own HR.out.nx⟩, by rw [HD.out]; exact HG.out, by rw [HD.out]; exact HLV.out, HRD.out.2.in_, ?_⟩
            rw [HD.out]
            intro x hx y hy
            exact HRD.out.1.last HW.out HP.out.2.1 HON.out hx hy
          go_wp2_with fail
          refine (numbered_any wr wr.heap.size (Nat.le_refl _) A n c H Ao co L (some ⟨kb + 1, 0, none⟩) n X HARG.out).mono ?_
          rintro e w9 ⟨v, hs, rfl, hown, hli, hln, hb9⟩
          rw [HD.out] at hli
          have HLI := Lib.hid hli
          have HO := Lib.hid hown
          have HB9 := Lib.hid hb9
          clear hown hli hb9
          go_wp2_with fail
          go_ret
          exact ⟨_, hs, rfl, ⟨own_lower HO.out.out HR.out.bel.size, fun z hz => own_lower (HO.out.fam.own z hz) HR.out.bel.size, HO.out.fam.ap⟩, HLI.out, hln, bcall HR.out.bel HB9.out⟩
        · have q1 : ((m : Int) == (count : Int)) = false := by simp; omega
          have q2 : (m == count) = false := by simpa using he
          have HCN : Hid (count < m) := by
            show _ < _
            rcases HP.out.2.2 with h0 | h0
            · have := HPOS.out; omega
            · have := HRD.out.1.more HP.out.2.1 h0
              omega
          have HCO := Lib.hid (HRD.out.1.coarse HW.out HP.out.2.1)
          have HB := Lib.hid HR.out.bel
          have HL9 := Lib.hid HR.out.lv
          have HX9 := Lib.hid HR.out.nx
          clear he HX
          go_wp2_with fail
          go_roundw
          case rel => exact ⟨kb + 1, m, X, rfl, rfl, hle, HB, HL9, HX9, HRD.out.2, HCO.out, .inr HRD.out.1.onto⟩
          case measure => have := HCN.out; simp [intOf]; omega
end Go.Proofs.YtclahhkcbkpofaaDoor
