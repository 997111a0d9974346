/- wild.made: the automaton of a pattern. -/
import Derived.Test.YtclahhkcbkpofaaDoorHFt25
import Derived.Test.YtclahhkcbkpofaaDoorHFt28
import Derived.Test.YtclahhkcbkpofaaDoorHFt44
import Derived.Test.YtclahhkcbkpofaaDoorHFt37
import Derived.Test.YtclahhkcbkpofaaDoorHFt6
import Derived.Lib.Slices
import Derived.Test.YtclahhkcbkpofaaDoorHFt31
namespace Go.Proofs.YtclahhkcbkpofaaDoor
open Go.RowKit
open Sp
set_option linter.unusedVariables false
theorem sts_use {W : World} {base : Nat} {v : Value} {hs : List Sh} (h : OwnSts W base v hs) (hl : hs.length ≤ 20000) (hg : Good (hs.map (·.d))) : ∃ A c, v = .slice A hs.length c ∧ StsIn W W.heap.size A hs.length c hs := by
  obtain ⟨A, c, rfl, _⟩ := own_shape h.out
  refine ⟨A, c, rfl, h.sts rfl (by omega) fun x hx => ?_⟩
  have h1 := hg.asc x.d (List.mem_map_of_mem hx)
  have := asc_few h1
  omega
end Go.Proofs.YtclahhkcbkpofaaDoor
/- wild.wide at patterns whose only star is the last; Wild and Prefix. -/
namespace Go.Proofs.YtclahhkcbkpofaaDoor
open Go.RowKit
open Sp
set_option linter.unusedVariables false
theorem lets_zero {f : List Int} {m : List UInt8} (h : letsE f m = 0) : f.length ≤ 16 ∧ 0 < f.length ∧ f.all (okC m) = true := by
  unfold letsE at h
  split at h
  · omega
  · split at h
    · omega
    · split at h
      · exact ⟨by omega, by omega, by assumption⟩
      · omega
theorem ok_letter {c : Int} (h : okC [] c = true) : letB c = true := by
  unfold okC at h
  simpa using h
theorem all_letter {f : List Int} (h : f.all (okC []) = true) {c : Int} (hc : c ∈ f) : letB c = true := ok_letter (List.all_eq_true.1 h c hc)
end Go.Proofs.YtclahhkcbkpofaaDoor
/- fuzzy.Fuzzy. -/
namespace Go.Proofs.YtclahhkcbkpofaaDoor
open Go.RowKit
open Sp
set_option linter.unusedVariables false
/-- The automaton of a word with edits, before it is made tight. -/
def fuzA (f : List Int) (E X : Nat) : List Lst := leadsL (fuzL f.length E X ((f.length + 1) * (E + 1))) (fuzE f E X ((f.length + 1) * (E + 1)))
theorem fuzE_ok (f : List Int) (E X : Nat) : OkE (fuzL f.length E X ((f.length + 1) * (E + 1))).length (fuzE f E X ((f.length + 1) * (E + 1))) := fun e he => by
  obtain ⟨j, hj, he⟩ := List.mem_flatMap.1 he
  have hj := List.mem_range.1 hj
  rw [fuzL_len]
  have hW : 0 < E + 1 := by omega
  have hd := Nat.div_add_mod j (E + 1)
  have hm := Nat.mod_lt j hW
  obtain ⟨i, hi⟩ : ∃ i, j / (E + 1) = i := ⟨_, rfl⟩
  obtain ⟨k, hk⟩ : ∃ k, j % (E + 1) = k := ⟨_, rfl⟩
  rw [hi, hk] at hd
  rw [hk] at hm
  rw [Nat.mul_comm] at hd
  have hin : i ≤ f.length := by
    by_cases h : i ≤ f.length
    · exact h
    · have : (f.length + 1) * (E + 1) ≤ i * (E + 1) := Nat.mul_le_mul_right _ (by omega)
      omega
  unfold edAt at he
  rw [hi, hk] at he
  have hlt : ∀ c, f[i]? = some c → j + E + 2 ≤ (f.length + 1) * (E + 1) ∧ (k < E → j + E + 2 < (f.length + 1) * (E + 1)) := fun c hc => by
    have hif := (List.getElem?_eq_some_iff.1 hc).1
    have h1 := at_lt2 (n := f.length) (E := E) (i := i) (k := k) hif (by omega)
    refine ⟨by omega, fun hkE => ?_⟩
    have h2 := at_lt2 (n := f.length) (E := E) (i := i) (k := k + 1) hif (by omega)
    omega
  have hedA : ∀ e ∈ edA f[i]? j (j + E + 1), e.1 < (f.length + 1) * (E + 1) ∧ e.2.1 < (f.length + 1) * (E + 1) := fun e he => by
    cases hc : f[i]? with
    | none => rw [hc] at he; cases he
    | some c =>
      rw [hc] at he
      rw [List.mem_singleton.1 he]
      have := (hlt c hc).1
      exact ⟨hj, by show j + E + 1 < _; omega⟩
  rcases List.mem_append.1 he with he | he
  · exact hedA e he
  · split at he
    · cases he
    · rename_i hno
      have hkE : k < E := by omega
      rcases List.mem_cons.1 he with rfl | he
      · have := at_lt (n := f.length) (E := E) (i := i) (k := k + 1) hin (by omega)
        exact ⟨hj, by show j + 1 < _; omega⟩
      · cases hc : f[i]? with
        | none => rw [hc] at he; cases he
        | some c =>
          rw [hc] at he
          rw [List.mem_singleton.1 he]
          exact ⟨hj, (hlt c hc).2 hkE⟩
theorem fuzL_fewT (n E X cur : Nat) : FewT 0 1 (fuzL n E X cur) := fun s hs => by
  obtain ⟨j, hj⟩ := List.mem_iff_getElem?.1 hs
  have hl := (List.getElem?_eq_some_iff.1 hj).1
  rw [fuzL_len] at hl
  rw [fuzL_at hl] at hj
  injection hj with hj
  rw [← hj]
  split
  · unfold fuzSt
    refine ⟨Nat.le_refl _, ?_⟩
    show List.length (if _ then _ else _) ≤ 1
    split <;> simp
  · exact ⟨Nat.le_refl _, Nat.zero_le _⟩
theorem fuzL_good (n E X : Nat) (hE : 0 < (n + 1) * (E + 1)) : LGood (fuzL n E X ((n + 1) * (E + 1))) := by
  have hlen := fuzL_len n E X ((n + 1) * (E + 1))
  have key : ∀ s ∈ fuzL n E X ((n + 1) * (E + 1)), s.arcs = [] ∧ ∀ t ∈ s.free, 0 ≤ t ∧ t < (((n + 1) * (E + 1) : Nat) : Int) := fun s hs => by
    obtain ⟨j, hj⟩ := List.mem_iff_getElem?.1 hs
    have hl := (List.getElem?_eq_some_iff.1 hj).1
    rw [hlen] at hl
    rw [fuzL_at hl, if_pos hl] at hj
    injection hj with hj
    rw [← hj]
    refine ⟨rfl, fun t ht => ?_⟩
    unfold fuzSt at ht
    simp only at ht
    split at ht
    · rename_i h
      rw [List.mem_singleton.1 ht]
      have hW : 0 < E + 1 := by omega
      have hd := Nat.div_add_mod j (E + 1)
      obtain ⟨i, hi⟩ : ∃ i, j / (E + 1) = i := ⟨_, rfl⟩
      obtain ⟨k, hk⟩ : ∃ k, j % (E + 1) = k := ⟨_, rfl⟩
      rw [hi, hk] at hd h
      rw [Nat.mul_comm] at hd
      have := at_lt2 (n := n) (E := E) (i := i) (k := k + 1) h.2.2 (by omega)
      refine ⟨by omega, ?_⟩
      have h5 : j + E + 2 < (n + 1) * (E + 1) := by omega
      exact_mod_cast h5
    · cases ht
  refine ⟨fun e => ?_, fun s hs a ha => ?_, fun s hs t ht => ?_⟩
  · have := congrArg List.length e
    rw [hlen, List.length_nil] at this
    omega
  · rw [(key s hs).1] at ha
    cases ha
  · rw [hlen]
    exact (key s hs).2 t ht
/-- What Fuzzy answers of a word, where few sets are met. -/
def FuzR (w : World) (f : List Int) (E X : Nat) : Ending → World → Prop := fun e w' => Below w.heap.size w w' ∧ ∃ (A : Option Addr) (c : Nat) (hs : List Sh), e = .returned (.tuple #[.slice A hs.length c, .int .i64 0]) ∧ StsIn w' w'.heap.size A hs.length c hs ∧ hs.length ≤ 20000 ∧ Good (hs.map (·.d)) ∧ ∀ t : List UInt8, takesB (hs.map (·.d)) t = looseTakes (fuzA f E X) t
set_option maxRecDepth 100000 in
set_option maxHeartbeats 8000000 in
theorem fuzzy_any (w : World) (t : List UInt8) (ht : t.length ≤ 17592186044414) (hT : Tab w) (l : List Int) (hl : Dec (bytesN t) l) (he : letsE (l.map foldI) [] = 0) (f : List Int) (hf : l.map foldI = f) (E X : Nat) (hE : E ≤ 2) (hX : X ≤ f.length)
    (hfew : ∀ g : Nat, ((subW (fuzA f E X)).run g 0 [setL (fuzA f E X).length (Clo (fuzA f E X) fun x => x = 0)]).length ≤ 20000) :
    Calls Tryd.prog 24 #[.string ⟨t.toArray⟩, .int .i64 (E : Int), .int .i64 (X : Int)] w (FuzR w f E X) := by
  have HD := Lib.hid (letters_any w t [] ht (by simp))
  have HT := Lib.hid hT
  have HDE := Lib.hid hl
  have HEE := Lib.hid he
  have HF := Lib.hid hf
  have HFEW := Lib.hid hfew
  clear hT ht hl he hfew
  go_enter Tryd.func24, Tryd.ntmps24
  go_wp2_with fail
  refine HD.out.mono ?_
  rintro e w1 ⟨hb1, ⟨v, l2, rfl, hd, hl, ho⟩ | ⟨l2, z, rfl, hz, hd, hl⟩ | ⟨rfl, hno⟩⟩
  · obtain rfl := hd.inj HDE.out
    obtain ⟨z1, z2, _⟩ := lets_zero hl
    have hfl : f.length = l2.length := by rw [← hf, List.length_map]
    obtain ⟨n, hn⟩ : ∃ n, l2.length = n := ⟨_, rfl⟩
    rw [hf] at ho z1 z2
    rw [hn] at ho hfl
    rw [hfl] at z1 z2 hX
    obtain ⟨A, cp, rfl, hcp⟩ := own_shape ho
    have HSL := Lib.hid (Sl.of_own ho)
    have HB1 := Lib.hid hb1
    have HFL := Lib.hid hfl
    obtain ⟨wb, hwb⟩ : ∃ b, b = w1.heap.size := ⟨_, rfl⟩
    obtain ⟨N, hN⟩ : ∃ N, (n + 1) * (E + 1) = N := ⟨_, rfl⟩
    have HN := Lib.hid hN.symm
    have hNb : N ≤ 51 := by rw [← hN]; exact Nat.le_trans (Nat.mul_le_mul (show n + 1 ≤ 17 by omega) (show E + 1 ≤ 3 by omega)) (by omega)
    have hN0 : 0 < N := by rw [← hN]; exact Nat.mul_pos (by omega) (by omega)
    have hprod : ((n : Int) + 1) * ((E : Int) + 1) = (N : Int) := by rw [← hN, Int.natCast_mul]; rfl
    have hmul : IntKind.i64.wrap (((n : Int) + 1) * ((E : Int) + 1)) = (N : Int) := by rw [hprod, IntKind.wrap_i64]; omega
    have hmk := fun W => make_looseN N (by omega) W
    obtain ⟨w2, hw2⟩ : ∃ W, w1.alloc (.cells #[.int .i64 ((E : Int) + 1)] 3) = W := ⟨_, rfl⟩
    have hb2 : Below w1.heap.size w1 w2 := by rw [← hw2]; exact bnew (brefl w1) _
    have hsz2 : w2.heap.size = w1.heap.size + 1 := by rw [← hw2]; simp
    have hc2 : w2.cell? ⟨wb, 0, none⟩ = some (.int .i64 ((E : Int) + 1)) := by
      rw [← hw2, hwb]
      have := (own_new w1 #[.int .i64 ((E : Int) + 1)] 3 1 1 rfl (by unfold maxLen; omega) (nb := w1.heap.size) rfl (base := 0) (Nat.zero_le _)).cells (g := w1.heap.size) rfl 0 (.int .i64 ((E : Int) + 1)) rfl
      rwa [Addr.add_lit] at this
    have hl2 := loose_bare w2 N (by omega)
    have HW2 := Lib.hid hc2
    have HWB2 : Hid (wb < w2.heap.size) := by show wb < _; rw [hsz2, hwb]; exact Nat.lt_succ_self _
    have HBB := Lib.hid (bcall HB1.out hb2)
    have HS2 := Lib.hid ((HSL.out.below hb2).more hb2.size)
    obtain ⟨go, hgo⟩ : ∃ g, g = w2.heap.size := ⟨_, rfl⟩
    rw [← hgo] at hl2
    have HL2 := Lib.hid hl2
    have HM0 : Hid ((List.replicate N bareH).map (·.d) = fuzL n E X 0) := by
      show _ = _
      rw [List.map_replicate, fuzL_zero, hN]
      rfl
    have HWW := Lib.hid hw2
    have HWBE := Lib.hid hwb
    have HGOE := Lib.hid hgo
    clear hd hl ho hn hb1 hN hprod hb2 hc2 hl2 hw2 hsz2 hwb hgo hf hfl z2
    go_wp2_with fail
    have hg : go = w1.heap.size + 1 := by rw [HGOE.out, ← HWW.out]; simp
    rw [← hg, ← HWBE.out, HWW.out]
    clear hg
    refine fz_i1 w2 _ go N N _ HL2 n E X wb hE z1 (by omega) HN HW2 HWB2 HM0 A cp _ _ _ _ _ _ _ _ _ _ _ _ _ _ _ _ _ _ _ _ _ _ _ _ _ _ _ _ _ _ _ _ _ _ _ _ _ _ _ _ _ _ _ _ _ _ _ _ _ _ _ _ _ _ _ _ _ _ _ _ _ _ _ _ _ _ _ _ _ _ _ _ _ _ _ _ _ _ _ _ _ _ _ _ _ _ _ _ _ _ _ _ _ _ _ _ _ _ _ _ _ _ _ _ _ _ _ _ _ _ _ _ _ _ _ _ _ _ _ _ _ _ _ _ _ _ _ _ _ _ _ _ _ _ _ _ _ _ _ _ _ _ _ _ _ _ _ _ _ _ _ _ _ _ _ _ _ _ _ _ _ _ _ _ _ _ (fun c a a' w hd h => by cases a; cases a'; cases hd; exact h) ?_
    intro W3 hs3 x53 u13 u14 u54 u55 u56 u57 u58 u59 u60 u61 u62 u63 u64 u65 u66 u67 u68 u69 u70 u71 u72 u73 u74 u75 u76 u77 u78 u79 u80 u81 u82 u83 u84 u85 u86 u87 u88 u89 u90 u91 u92 u93 u94 u95 u96 u97 u98 HR3 HM3
    clear HL2 HM0 hmul hmk
    go_wp2_with fail
    have HFZ : Hid (FzS w2 W3 (fuzL n E X N) [] go N N) := ⟨w2, hs3, HR3.out, HM3.out, HR3.out.bel⟩
    refine fz_i3 w2 W3 go N N f (fuzL n E X N) n E X wb (by rw [fuzL_len]) (fuzL_fewT _ _ _ _) HFL hE z1 (by omega) HFZ HW2 HWB2 A cp HS2 _ _ _ _ _ _ _ _ _ _ _ _ _ _ _ _ _ _ _ _ _ _ _ _ _ _ _ _ _ _ _ _ _ _ _ _ _ _ _ _ _ _ _ _ _ _ _ _ _ _ _ _ _ _ _ _ _ _ _ _ _ _ _ _ _ _ _ _ _ _ _ _ _ _ _ _ _ _ _ _ _ _ _ _ _ _ _ _ _ _ _ _ _ _ _ _ _ _ _ _ _ _ _ _ _ _ _ _ _ _ _ _ _ _ _ _ _ _ _ _ _ _ _ _ _ _ _ _ _ _ _ _ _ _ _ _ _ _ _ _ _ _ _ _ _ _ _ _ _ _ _ _ _ _ _ _ _ _ _ _ _ _ _ _ _ _ (fun c a a' w hd h => by cases a; cases a'; cases hd; exact h) ?_
    intro W4 go4 m4 cp4 x102 u15 u16 u103 u104 u105 u106 u107 u108 u109 u110 u111 u112 u113 u114 u115 u116 u117 u118 u119 u120 u121 u122 u123 u124 u125 u126 u127 u128 u129 u130 u131 u132 u133 u134 u135 u136 u137 u138 u139 u140 u141 u142 u143 u144 u145 u146 u147 u148 u149 u150 u151 u152 u153 u154 u155 u156 u157 u158 u159 u160 u161 u162 u163 u164 u165 u166 u167 u168 HR4
    clear HFZ HR3 HM3
    have hb4 := HR4.out.bel
    obtain ⟨hs4, h1, h2, h3, h4, h5, h6⟩ := HR4.out.lo (fuzL_fewT _ _ _ _) (by rw [fuzL_len, ← HN.out]; omega) (Nat.le_trans (fuzE_len _ _ _ _) (by rw [← HN.out]; omega))
    have hA : fuzA f E X = hs4.map (·.d) := by rw [h2, HN.out, ← HFL.out]; rfl
    have HGD : Hid (LGood (hs4.map (·.d))) := by
      rw [← hA]
      exact leads_good _ _ (fuzE_ok f E X) (fuzL_good _ _ _ (Nat.mul_pos (by omega) (by omega)))
    have hml : (fuzA f E X).length = m4 := by rw [hA, List.length_map, h3]
    have HNF : Hid (∀ g : Nat, ¬ ((20000 : Int) < (((subW (hs4.map (·.d))).run g 0 [setL m4 (Clo (hs4.map (·.d)) fun x => x = 0)]).length : Nat))) := fun g => by
      have h := HFEW.out g
      rw [hml, hA] at h
      omega
    have HFA := Lib.hid hA
    have HML := Lib.hid hml
    have HTG := Lib.hid (tight_any W4 W4.heap.size (Nat.le_refl _) (some ⟨go4, 0, none⟩) m4 cp4 hs4 h1 (by omega) HGD.out 20000 (by omega) (HT.out.below (bcall HBB.out hb4)))
    have HB4 := Lib.hid (bcall HBB.out hb4)
    clear h1 h2 h4 h5 h6 hA hml hb4 HR4
    go_wp2_with fail
    refine HTG.out.mono ?_
    rintro e w7 (⟨⟨f', hf'⟩, _, _⟩ | ⟨_, v7, XX, dd, rfl, hown7, hl7, hq7, hle7, hd7, hb7⟩)
    · exact absurd hf' (by have := HNF.out f'; omega)
    · have hxl : XX.length ≤ 20000 := by omega
      have hxl2 : (XX.map (·.d)).length ≤ 20000 := by rw [List.length_map]; exact hxl
      have hxg := hl7.good hxl2
      have HXT : Hid (∀ t : List UInt8, takesB (XX.map (·.d)) t = looseTakes (fuzA f E X) t) := fun t => by
        rw [HFA.out]
        exact tight_takes (l := hs4.map (·.d)) hl7 (by rw [List.length_map, h3]; exact hq7) hxl2 t
      obtain ⟨Ax, cx, rfl, hx7⟩ := sts_use hown7 hxl hxg
      have HPOST : Hid (FuzR w f E X (.returned (.tuple #[.slice Ax XX.length cx, .int .i64 0])) w7) := ⟨bcall HB4.out hb7, Ax, cx, XX, rfl, hx7, hxl, hxg, HXT.out⟩
      clear hown7 hl7 hq7 hle7 hd7 hxl hxl2 hxg hx7 hb7 HTG HNF HGD HXT
      go_wp2_with fail
      go_ret2
      exact HPOST.out
  · obtain rfl := hd.inj HDE.out
    exact absurd (hl.symm.trans HEE.out) hz
  · exact absurd HDE.out (hno l)
end Go.Proofs.YtclahhkcbkpofaaDoor
/- The reference's Letters. -/
namespace Go.Proofs.YtclahhkcbkpofaaDoor
open Go.RowKit
open Sp
set_option linter.unusedVariables false
set_option maxRecDepth 100000 in
set_option maxHeartbeats 8000000 in
theorem rletters_any (w : World) (t m : List UInt8) (ht : t.length ≤ 17592186044414) (hm : m.length ≤ 17592186044414) : Calls Tryd.prog 18 #[.string ⟨t.toArray⟩, .string ⟨m.toArray⟩] w (LetsP w t m) := by
  have HD := Lib.hid (rfolded_any w t ht)
  have hz : (⟨m.toArray⟩ : ByteArray).size = m.length := by show m.toArray.size = _; simp
  have HBY := Lib.hid (fun j b h => @mark_at m j b h)
  obtain ⟨M, hM⟩ : ∃ M, m.length = M := ⟨_, rfl⟩
  rw [hM] at hz hm
  have HML := Lib.hid hM
  clear hM ht
  go_enter Tryd.func18, Tryd.ntmps18
  go_wp2_with fail
  refine HD.out.mono ?_
  rintro e w1 ⟨hb1, ⟨v, l, rfl, hd1, ho1⟩ | ⟨rfl, hno⟩⟩
  · have HB1 := Lib.hid hb1
    obtain ⟨A, cp, rfl, hcp⟩ := own_shape ho1
    obtain ⟨f, hf⟩ : ∃ f, l.map foldI = f := ⟨_, rfl⟩
    have hfl : f.length = l.length := by rw [← hf, List.length_map]
    obtain ⟨n, hn⟩ : ∃ n, l.length = n := ⟨_, rfl⟩
    have HPB : Hid (∀ z : Int, z ≠ 0 → letsE f m = z → ∀ W, Below w1.heap.size w1 W → LetsP w t m (.returned (.tuple #[.slice none 0 0, .int .i64 z])) W) := fun z hz h W hW => ⟨bcall hb1 hW, .inr (.inl ⟨l, z, rfl, hz, hd1, by rw [hf]; exact h⟩)⟩
    have HPO : Hid (letsE f m = 0 → ∀ W, Below w1.heap.size w1 W → LetsP w t m (.returned (.tuple #[.slice A n cp, .int .i64 0])) W) := fun h W hW => ⟨bcall hb1 hW, .inl ⟨.slice A n cp, l, rfl, hd1, by rw [hf]; exact h, by have := own_kept ho1 hW; rwa [hn] at this ⊢⟩⟩
    rw [hf, hn] at ho1
    rw [hn] at hfl hcp ⊢
    have HO1 := Lib.hid (Sl.of_own ho1)
    have HFL := Lib.hid hfl
    clear hb1 hd1 ho1 hn HD hf hfl
    by_cases c1 : 16 < n
    · have HX := Lib.hid (HPB.out 4 (by omega) (by unfold letsE; rw [if_pos (by rw [HFL.out]; exact c1)]) w1 (brefl w1))
      have q1 : decide (16 < n) = true := decide_eq_true c1
      have q2 : decide ((n : Int) > 16) = true := decide_eq_true (by omega)
      go_wp2_with fail
      go_ret2
      exact HX.out
    have q1 : decide (16 < n) = false := decide_eq_false c1
    have q2 : decide ((n : Int) > 16) = false := decide_eq_false (by omega)
    by_cases c2 : n = 0
    · have HX := Lib.hid (HPB.out 20 (by omega) (by unfold letsE; rw [HFL.out, if_neg c1, if_pos c2]) w1 (brefl w1))
      subst c2
      go_wp2_with fail
      go_ret2
      exact HX.out
    have q3 : ((n : Int) == 0) = false := by rw [beq_eq_false_iff_ne]; omega
    have q4 : (n == 0) = false := by rw [beq_eq_false_iff_ne]; exact c2
    have HNB : Hid (f.all (okC m) = false → letsE f m = 20) := fun h => by unfold letsE; rw [HFL.out, if_neg c1, if_neg c2, h]; rfl
    have HNG : Hid (f.all (okC m) = true → letsE f m = 0) := fun h => by unfold letsE; rw [HFL.out, if_neg c1, if_neg c2, h]; rfl
    have hn16 : n ≤ 16 := by omega
    clear c1
    go_wp2_with fail
    go_loopw [8] (fun iv wr => ∃ j : Nat, j ≤ n ∧ iv = .int .i64 (j : Int) ∧ Hid (Below w1.heap.size w1 wr) ∧ Hid ((f.take j).all (okC m) = true)) (fun iv _ => n - (intOf iv).toNat)
    case atStart => exact ⟨0, Nat.zero_le _, rfl, brefl w1, rfl⟩
    case round =>
      obtain ⟨j, hj, rfl, HB, HA⟩ := hrel
      by_cases hjn : j < n
      · obtain ⟨c, hc⟩ : ∃ c, f[j]? = some c := ⟨f[j]'(by rw [HFL.out]; exact hjn), List.getElem?_eq_getElem _⟩
        obtain ⟨b0, off, rfl, hb0, hcl0⟩ := HO1.out.at_ hjn
        have HCE : Hid (∀ W, Below w1.heap.size w1 W → W.cell? ⟨b0, off + j, none⟩ = some (.int .i64 c) ∧ b0 < W.heap.size) := fun W hW => ⟨(hW.cell (p := ⟨b0, off + j, none⟩) hb0).trans (hcl0 j (.int .i64 c) (by rw [List.getElem?_map, hc]; rfl)), Nat.lt_of_lt_of_le hb0 hW.size⟩
        obtain ⟨r0, hbw⟩ := HCE.out wr HB.out
        have hq : decide (j < n) = true := decide_eq_true hjn
        have HC := Lib.hid hc
        clear hc hcl0
        go_wp2_with fail
        refine (rletter_any c _).mono ?_
        rintro e w2 ⟨rfl, hb2⟩
        have HB2 := Lib.hid (bcall HB.out hb2)
        clear hb2 r0 hbw HB
        go_wp2_with fail
        go_loopw [9, 10] (fun okv iv w3 => ∃ k : Nat, k ≤ M ∧ iv = .int .i64 (k : Int) ∧ okv = .bool (letB c || (m.take k).any fun b => c == (b.toNat : Int)) ∧ Hid (Below w1.heap.size w1 w3)) (fun _ iv _ => M - (intOf iv).toNat)
        case atStart => exact ⟨0, Nat.zero_le _, rfl, by simp, HB2⟩
        case round =>
          obtain ⟨k, hk, rfl, rfl, HB3⟩ := hrel
          clear HB2
          obtain ⟨r0, hbw⟩ := HCE.out wr HB3.out
          obtain ⟨ob, hob⟩ : ∃ ob, (letB c || (m.take k).any fun b => c == (b.toNat : Int)) = ob := ⟨_, rfl⟩
          have HOB := Lib.hid hob
          simp only [hob]
          clear hob
          by_cases hkm : k < M
          · obtain ⟨b, hb⟩ : ∃ b, m[k]? = some b := ⟨m[k]'(by rw [HML.out]; exact hkm), List.getElem?_eq_getElem _⟩
            have hy := HBY.out k b hb
            obtain ⟨z, hzb⟩ : ∃ z : Int, (b.toNat : Int) = z := ⟨_, rfl⟩
            rw [hzb] at hy
            have hz0 : 0 ≤ z := by omega
            have hz1 : z ≤ 255 := by have := b.toNat_lt; omega
            obtain ⟨x, hx⟩ : ∃ x, (c == z) = x := ⟨_, rfl⟩
            have HON : Hid ((letB c || (m.take (k + 1)).any fun b => c == (b.toNat : Int)) = (ob || x)) := by
              show _ = _
              rw [any_take hb, ← Bool.or_assoc, HOB.out, hzb, hx]
            have hq2 : decide (k < M) = true := decide_eq_true hkm
            clear hb hzb HOB
            cases ob
            · go_wp2_with fail
              go_region
              go_wp2_with fail
              go_roundw
              case rel => exact ⟨k + 1, by omega, by go_num, by rw [HON.out]; simp, HB3.out.drew⟩
              case measure => simp [intOf]; omega
            · clear hx
              go_wp2_with fail
              go_region
              go_wp2_with fail
              go_roundw
              case rel => exact ⟨k + 1, by omega, by go_num, by rw [HON.out]; simp, HB3.out.drew⟩
              case measure => simp [intOf]; omega
          · obtain rfl : k = M := by omega
            have HOK : Hid (okC m c = ob) := by
              have := HOB.out
              rw [← HML.out, List.take_length] at this
              exact this
            have hq2 : decide (k < k) = false := decide_eq_false hkm
            clear HOB
            cases ob
            · have HX := Lib.hid (HPB.out 20 (by omega) (HNB.out (all_no (List.mem_of_getElem? HC.out) HOK.out)) wr HB3.out)
              go_wp2_with fail
              go_ret2
              exact HX.out
            · have HAN := Lib.hid (all_take HC.out HA.out HOK.out)
              go_wp2_with fail
              go_roundw
              case rel => exact ⟨j + 1, by omega, by go_num, HB3, HAN⟩
              case measure => simp [intOf]; omega
      · obtain rfl : j = n := by omega
        have HX := Lib.hid (HPO.out (HNG.out (by have := HA.out; rwa [← HFL.out, List.take_length] at this)) wr HB.out)
        have hq : decide (j < j) = false := decide_eq_false hjn
        go_wp2_with fail
        go_ret2
        exact HX.out
  · have HPOST : Hid (LetsP w t m (.returned (.tuple #[.slice none 0 0, .int .i64 7])) w1) := ⟨hb1, .inr (.inr ⟨rfl, hno⟩)⟩
    clear hb1 hno HD
    go_wp2_with fail
    go_ret2
    exact HPOST.out
end Go.Proofs.YtclahhkcbkpofaaDoor
