/- The law SpansHold: its walk. -/
import Derived.Test.YtnccbmbicgkhmaaAllp
import Derived.Test.YtnccbmbicgkhmaaRef
namespace Go.Proofs.Ytnccbmbicgkhmaa
open Go.RowKit

structure RdRows (w : World) (g : Nat) (l : List RR) : Prop where
  hd : ∀ (i : Nat) (R : RR), l[i]? = some R → w.cell? ⟨g, i, none⟩ = some R.val
  rd : ∀ R ∈ l, Rd w R.b R.r
theorem RdRows.keep {w w' : World} {g : Nat} {l : List RR} (h : RdRows w g l) (hb : Below w.heap.size w w') : RdRows w' g l :=
  ⟨fun i R hR => by
    have := h.hd i R hR
    exact (hb.cell (p := ⟨g, i, none⟩) (lt_of_cell this).1).trans this, fun R hR q u hu => by
    have := h.rd R hR q u hu
    exact (hb.cell (p := ⟨R.b, q, none⟩) (lt_of_cell this).1).trans this⟩
theorem RdRows.of {w : World} {base g c : Nat} {l : List RR} (h : RowsAt w base (.slice (some ⟨g, 0, none⟩) l.length c) l) : RdRows w g l :=
  ⟨fun i R hR => own_cell h.own i _ (by simp [hR]), fun R hR q u hu => own_cell (h.inn R hR).2 q u hu⟩
theorem holdsR_snoc (l : List (List (Int × Int))) (r : List (Int × Int)) (zs : List Int) : holdsR (l ++ [r]) zs = holdsR l zs + if fitsR r zs then 1 else 0 := by
  rw [holdsR_append]
  congr 1
  unfold holdsR
  rw [List.filter_cons]
  split
  · rfl
  · rfl
theorem holdsR_le (l : List (List (Int × Int))) (zs : List Int) : 0 ≤ holdsR l zs ∧ holdsR l zs ≤ l.length := by
  unfold holdsR
  have := List.length_filter_le (fun r => fitsR r zs) l
  omega
theorem take_map {l : List RR} {k : Nat} {R : RR} (h : l[k]? = some R) : (l.take (k + 1)).map RR.r = (l.take k).map RR.r ++ [R.r] := by
  obtain ⟨hk, rfl⟩ := List.getElem?_eq_some_iff.1 h
  rw [List.take_succ_eq_append_getElem hk, List.map_append]
  rfl
set_option maxRecDepth 100000 in
set_option maxHeartbeats 4000000 in
theorem holds_any (A : Option Addr) (g cap n : Nat) (l : List RR) (s : ByteArray) (zs : List Int) (w : World) (h : RdRows w g l) (hn : l.length = n) (hA : 0 < n → A = some ⟨g, 0, none⟩) (hl : n ≤ 20) (h4 : ∀ R ∈ l, R.r.length ≤ 4) (hs : s = strOfNums zs) (hz : ∀ z ∈ zs, 0 ≤ z ∧ z ≤ 255) :
    Calls Try.prog 11 #[.slice A n cap, .string s] w fun e w' => e = .returned (.int .i64 (holdsR (l.map RR.r) zs)) ∧ Below w.heap.size w w' := by
  have HH := Lib.hid h
  have HN := Lib.hid hn
  have H4 := Lib.hid h4
  have HS := Lib.hid hs
  have HZ := Lib.hid hz
  clear h hn h4 hs hz
  go_enter Try.func11, Try.ntmps11
  go_wp2_with fail
  go_loopw [5, 6] (fun v i wr => ∃ k : Nat, k ≤ n ∧ i = .int .i64 k ∧ v = .int .i64 (holdsR ((l.take k).map RR.r) zs) ∧ Below w.heap.size w wr) (fun _ i _ => n - (intOf i).toNat)
  case atStart => exact ⟨0, Nat.zero_le _, rfl, rfl, brefl w⟩
  case round =>
    obtain ⟨k, hk, rfl, rfl, hb⟩ := hrel
    by_cases hlt : k < n
    · obtain rfl := hA (by omega)
      obtain ⟨R, hR⟩ : ∃ R, l[k]? = some R := ⟨l[k]'(by rw [HN.out]; exact hlt), List.getElem?_eq_getElem _⟩
      have hm := List.mem_of_getElem? hR
      have hh := HH.out.keep hb
      have f1 := hh.hd k R hR
      unfold RR.val at f1
      have HF := Lib.hid (fits_any R.b R.cap R.r s zs wr (hh.rd R hm) (H4.out R hm) HS.out HZ.out)
      have hle := holdsR_le ((l.take k).map RR.r) zs
      rw [List.length_map, List.length_take] at hle
      have hsn := holdsR_snoc ((l.take k).map RR.r) R.r zs
      rw [← take_map hR] at hsn
      have HSN := Lib.hid hsn
      have HB := Lib.hid hb
      clear hsn hR hm hh hb hA
      generalize holdsR ((l.take k).map RR.r) zs = p at *
      have p0 : 0 ≤ p := hle.1
      have p1 : p ≤ 20 := by omega
      clear hle
      cases hf : fitsR R.r zs with
      | true =>
        have HFT := Lib.hid hf
        clear hf
        go_wp2_with fail
        refine HF.out.mono ?_
        rw [HFT.out]
        rintro e w1 ⟨rfl, hb1⟩
        go_wp2_with fail
        go_roundw
        case rel => exact ⟨k + 1, by omega, by go_num, by rw [HSN.out, HFT.out]; rfl, bcall HB.out hb1⟩
        case measure => simp [intOf]; omega
      | false =>
        have HFT := Lib.hid hf
        clear hf
        go_wp2_with fail
        refine HF.out.mono ?_
        rw [HFT.out]
        rintro e w1 ⟨rfl, hb1⟩
        go_wp2_with fail
        go_roundw
        case rel => exact ⟨k + 1, by omega, by go_num, by rw [HSN.out, HFT.out]; simp, bcall HB.out hb1⟩
        case measure => simp [intOf]; omega
    · obtain rfl : k = n := by omega
      have ht : l.take k = l := List.take_of_length_le (by rw [HN.out]; exact Nat.le_refl _)
      rw [ht]
      clear ht
      go_wp2_with fail
      go_ret
      exact ⟨rfl, hb⟩

theorem sum_small {l : List (List (Int × Int))} (h : ∀ r ∈ l, rowOk r) : 0 ≤ sumC l ∧ sumC l ≤ l.length * 4294967296 := by
  induction l with
  | nil => simp [sumC]
  | cons r l ih =>
    obtain ⟨a, b⟩ := ih (fun x hx => h x (List.mem_cons_of_mem _ hx))
    have hr := h r (List.mem_cons_self ..)
    have c := count_small hr (k := r.length) (Nat.le_refl _)
    rw [List.take_length] at c
    have e : sumC (r :: l) = countR r + sumC l := by simp [sumC]
    rw [e, List.length_cons]
    omega

set_option maxRecDepth 100000 in
set_option maxHeartbeats 16000000 in
theorem hold_walk (w : World) (lo : Int) (wl : (Lit.int .i64 lo).wf = true) (hi : Int) (wh : (Lit.int .i64 hi).wf = true) (c : Int) (_ : (Lit.int .i64 c).wf = true) : Calls Try.prog 3 #[.int .i64 lo, .int .i64 hi, .int .i64 c] w fun e w' => e = .returned (.bool true) ∧ Below w.heap.size w w' := by
  have H1 := Lib.hid (all_any lo hi)
  have HCH := Lib.hid (fun w => chars_any lo hi w wl wh)
  have hlen := all_len lo hi
  have hok := Lib.hid (all_ok lo hi)
  have hcount := Lib.hid (all_count lo hi)
  clear wl wh
  go_enter Try.func3, Try.ntmps3
  go_wp2_with fail
  refine (H1.out _).mono ?_
  rintro e w1 ⟨v1, l, rfl, hr1, hm1, hb1⟩
  obtain ⟨A, cp, rfl, hcp⟩ := own_shape hr1.own
  obtain ⟨n, hn⟩ : ∃ n, l.length = n := ⟨_, rfl⟩
  have hn1 : n ≤ 20 := by rw [← hn, ← List.length_map RR.r, hm1]; exact hlen
  have hgA : ∃ g, (0 < n → A = some ⟨g, 0, none⟩) ∧ RdRows w1 g l := by
    by_cases h0 : 0 < n
    · obtain ⟨g, rfl, _, _⟩ := own_head hr1.own (by omega)
      exact ⟨g, fun _ => rfl, RdRows.of hr1⟩
    · have : l = [] := List.eq_nil_of_length_eq_zero (by omega)
      subst this
      exact ⟨0, fun h => absurd h h0, ⟨fun i R hR => by simp at hR, fun R hR => by simp at hR⟩⟩
  obtain ⟨g, hA, hrd⟩ := hgA
  have HRD := Lib.hid hrd
  have HB1 := Lib.hid hb1
  have HOK := Lib.hid (show ∀ R ∈ l, rowOk R.r from fun R hR => hok.out R.r (by rw [← hm1]; exact List.mem_map_of_mem hR))
  have HSUM := Lib.hid (show sumC (l.map RR.r) = spanA lo hi by rw [hm1, hcount.out]; rfl)
  have HM1 := Lib.hid hm1
  have HN := Lib.hid hn
  rw [hn] at hcp ⊢
  clear hr1 hm1 hb1 hrd hok hcount H1 hlen hn
  go_wp2_with fail
  go_loopw [8, 9] (fun v i wr => ∃ k : Nat, k ≤ n ∧ i = .int .i64 k ∧ v = .int .i64 (sumC ((l.take k).map RR.r)) ∧ Below w1.heap.size w1 wr) (fun _ i _ => n - (intOf i).toNat)
  case atStart => exact ⟨0, Nat.zero_le _, rfl, rfl, brefl w1⟩
  case round =>
    obtain ⟨k, hk, rfl, rfl, hb⟩ := hrel
    by_cases hlt : k < n
    · obtain rfl := hA (by omega)
      obtain ⟨R, hR⟩ : ∃ R, l[k]? = some R := ⟨l[k]'(by rw [HN.out]; exact hlt), List.getElem?_eq_getElem _⟩
      have hm := List.mem_of_getElem? hR
      have hro := HOK.out R hm
      obtain ⟨m, hmm⟩ : ∃ m, R.r.length = m := ⟨_, rfl⟩
      have hm1 : 1 ≤ m := by have := hro.1; omega
      have hm4 : m ≤ 4 := by have := hro.2.1; omega
      have f1 := (HRD.out.keep hb).hd k R hR
      unfold RR.val at f1
      rw [hmm] at f1
      have hss := sum_small (l := (l.take k).map RR.r) (fun r hr => by
        obtain ⟨S, hS, rfl⟩ := List.mem_map.1 hr
        exact HOK.out S (List.mem_of_mem_take hS))
      rw [List.length_map, List.length_take] at hss
      have hcs := count_small hro (k := R.r.length) (Nat.le_refl _)
      rw [List.take_length] at hcs
      have hsn : sumC ((l.take (k + 1)).map RR.r) = sumC ((l.take k).map RR.r) + countR R.r := by rw [take_map hR, sumC_append]; simp [sumC]
      have HSN := Lib.hid hsn
      generalize sumC ((l.take k).map RR.r) = p at *
      have p0 : 0 ≤ p := hss.1
      have p1 : p ≤ 85899345920 := by omega
      obtain ⟨d, hd⟩ : ∃ d, countR R.r = d := ⟨_, rfl⟩
      rw [hd] at hcs
      obtain ⟨d0, d1⟩ := hcs
      have HD := Lib.hid hd
      have HRO := Lib.hid hro
      have HMM := Lib.hid hmm
      have HMEM := Lib.hid hm
      have HR := Lib.hid hR
      have HB := Lib.hid hb
      have q1 : decide ((m : Int) < 1) = false := by simp; omega
      have q2 : decide ((4 : Int) < (m : Int)) = false := by simp; omega
      clear hsn hss hd hro hmm hm hR hb hA
      go_wp2_with fail
      have hin : ∃ q, wr = wr.drewN q := ⟨0, rfl⟩
      obtain ⟨wo, hwo⟩ : ∃ wo, wr = wo := ⟨_, rfl⟩
      clear hin
      subst hwo
      go_loopw [10] (fun j wq => ∃ jj : Nat, jj ≤ m ∧ j = .int .i64 jj ∧ Below w1.heap.size w1 wq) (fun j _ => m - (intOf j).toNat)
      case atStart => exact ⟨0, Nat.zero_le _, rfl, HB.out⟩
      case round =>
        obtain ⟨jj, hj, rfl, hbq⟩ := hrel
        have hkeep := HRD.out.keep hbq
        have f1 := hkeep.hd k R HR.out
        unfold RR.val at f1
        rw [HMM.out] at f1
        by_cases hjm : jj < m
        · obtain ⟨⟨x, y⟩, hxy⟩ : ∃ p, R.r[jj]? = some p := ⟨R.r[jj]'(by rw [HMM.out]; exact hjm), List.getElem?_eq_getElem _⟩
          obtain ⟨x0, x1, x2⟩ := HRO.out.2.2 (x, y) (List.mem_of_getElem? hxy)
          dsimp only at x0 x1 x2
          obtain ⟨e1, e2⟩ := flatR_at' hxy
          have b1 := hkeep.rd R HMEM.out _ _ e1
          have b2 := hkeep.rd R HMEM.out _ _ e2
          have i0 : (0 : Int) ≤ (k : Int) := by omega
          have i1 : (k : Int) < (n : Int) := by omega
          have i2 : (0 : Int) ≤ (jj : Int) := by omega
          have i3 : (jj : Int) < (m : Int) := by omega
          have q3 : decide (x < 0) = false := by simp; omega
          have q4 : decide (255 < y) = false := by simp; omega
          have q5 : decide (y < x) = false := by simp; omega
          have HBQ := Lib.hid hbq
          clear e1 e2 hxy hkeep hbq
          go_wp2_with fail
          go_quiet (fail)
          go_wp2_with fail
          go_roundw
          case rel => exact ⟨jj + 1, by omega, by go_num, below_drewN HBQ.out _⟩
          case measure => simp [intOf]; omega
        · obtain rfl : jj = m := by omega
          have HC := Lib.hid (count_any R.b R.cap R.r wr (hkeep.rd R HMEM.out) HRO.out)
          rw [HMM.out, HD.out] at HC
          have HBQ := Lib.hid hbq
          clear hkeep hbq
          go_wp2_with fail
          refine HC.out.mono ?_
          rintro e w3 ⟨rfl, hb3⟩
          go_wp2_with fail
          go_roundw
          case rel => exact ⟨k + 1, by omega, by go_num, by rw [HSN.out, HD.out], bcall HBQ.out hb3⟩
          case measure => simp [intOf]; omega
    · obtain rfl : k = n := by omega
      have ht : l.take k = l := List.take_of_length_le (by rw [HN.out]; exact Nat.le_refl _)
      rw [ht, HSUM.out]
      obtain ⟨sp, hsp⟩ : ∃ sp, spanA lo hi = sp := ⟨_, rfl⟩
      rw [hsp] at HCH
      rw [hsp]
      have z1 : (sp == sp) = true := by simp
      have z2 : (sp != sp) = false := by simp
      have HBK := Lib.hid hb
      have HHO := Lib.hid (fun (w' : World) (hbw : Below w1.heap.size w1 w') (zs : List Int) (hz : ∀ z ∈ zs, 0 ≤ z ∧ z ≤ 255) => holds_any A g cp k l (strOfNums zs) zs w' (HRD.out.keep hbw) HN.out hA hn1 (fun R hR => (HOK.out R hR).2.1) rfl hz)
      clear ht hsp hA hb
      go_wp2_with fail
      refine (awake_any _).mono ?_
      rintro e w2 ⟨rfl, hb2⟩
      go_wp2_with fail
      refine (HCH.out _).mono ?_
      rintro e w3 ⟨rfl, hb3⟩
      have HB3 := Lib.hid (bcall HBK.out (bcall hb2 hb3))
      clear hb2 hb3 HCH
      go_wp2_with fail
      have HWH := Lib.hid (rwhole_any c)
      have HBY := Lib.hid (bytes_any c)
      by_cases hwh : wholeB c = true
      · have HW := Lib.hid hwh
        have hv := all_holds lo hi c hwh
        obtain ⟨hc0, hc1, _⟩ := whole_of hwh
        have HV := Lib.hid (show holdsR (l.map RR.r) (encC c) = inB lo hi c by rw [HM1.out]; exact hv)
        have HZ := Lib.hid (encC_byte hc0 hc1)
        clear hwh hv hc0 hc1
        by_cases hin : lo ≤ c ∧ c ≤ hi
        · have HIN := Lib.hid (show inB lo hi c = 1 by unfold inB; rw [if_pos hin])
          obtain ⟨hin1, hin2⟩ := hin
          refine (HWH.out _).mono ?_
          rw [HW.out]
          rintro e w4 ⟨rfl, rfl⟩
          go_wp2_with fail
          refine (HWH.out _).mono ?_
          rw [HW.out]
          rintro e w5 ⟨rfl, rfl⟩
          go_wp2_with fail
          refine (HBY.out HW.out _).mono ?_
          rintro e w6 ⟨rfl, hb6⟩
          have HB6 := Lib.hid (bcall HB3.out hb6)
          clear hb6
          go_wp2_with fail
          refine (HHO.out _ HB6.out (encC c) HZ.out).mono ?_
          rw [HV.out, HIN.out]
          rintro e w7 ⟨rfl, hb7⟩
          have HB7 := Lib.hid (bcall HB1.out (bcall HB6.out hb7))
          clear hb7
          go_wp2_with fail
          go_ret
          exact ⟨rfl, HB7.out⟩
        · have HIN := Lib.hid (show inB lo hi c = 0 by unfold inB; rw [if_neg hin])
          by_cases hlo : c < lo
          all_goals
            have hhi : c < lo ∨ hi < c := by omega
            have HHI := Lib.hid hhi
            try (have hx : hi < c := by omega)
            clear hin hhi
            refine (HWH.out _).mono ?_
            rw [HW.out]
            rintro e w4 ⟨rfl, rfl⟩
            go_wp2_with fail
            refine (HWH.out _).mono ?_
            rw [HW.out]
            rintro e w5 ⟨rfl, rfl⟩
            go_wp2_with fail
            refine (HBY.out HW.out _).mono ?_
            rintro e w6 ⟨rfl, hb6⟩
            have HB6 := Lib.hid (bcall HB3.out hb6)
            clear hb6
            go_wp2_with fail
            refine (HHO.out _ HB6.out (encC c) HZ.out).mono ?_
            rw [HV.out, HIN.out]
            rintro e w7 ⟨rfl, hb7⟩
            have HB7 := Lib.hid (bcall HB1.out (bcall HB6.out hb7))
            clear hb7
            go_wp2_with fail
            go_ret
            exact ⟨rfl, HB7.out⟩
      · have hf : wholeB c = false := by simpa using hwh
        have HW := Lib.hid hf
        clear hf hwh
        refine (HWH.out _).mono ?_
        rw [HW.out]
        rintro e w4 ⟨rfl, rfl⟩
        go_wp2_with fail
        refine (HWH.out _).mono ?_
        rw [HW.out]
        rintro e w5 ⟨rfl, rfl⟩
        go_wp2_with fail
        go_ret
        exact ⟨rfl, bcall HB1.out HB3.out⟩
end Go.Proofs.Ytnccbmbicgkhmaa
