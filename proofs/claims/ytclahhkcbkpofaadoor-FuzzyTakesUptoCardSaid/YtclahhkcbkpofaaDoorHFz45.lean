/- wild.made: the automaton of a pattern. -/
import Derived.Test.YtclahhkcbkpofaaDoorHFz25
import Derived.Test.YtclahhkcbkpofaaDoorHFz28
import Derived.Test.YtclahhkcbkpofaaDoorHFz44
import Derived.Test.YtclahhkcbkpofaaDoorHFz37
import Derived.Test.YtclahhkcbkpofaaDoorHFz6
import Derived.Lib.Slices
import Derived.Test.YtclahhkcbkpofaaDoorHFz31
import Derived.Test.YtclahhkcbkpofaaDoorHFz22
import Derived.Test.YtclahhkcbkpofaaDoorHFz20
import Derived.Test.YtclahhkcbkpofaaDoorHFz32
namespace Go.Proofs.YtclahhkcbkpofaaDoor
open Go.RowKit
open Sp
set_option linter.unusedVariables false
theorem sts_use {W : World} {base : Nat} {v : Value} {hs : List Sh} (h : OwnSts W base v hs) (hl : hs.length ≤ 20000) (hg : Good (hs.map (·.d))) : ∃ A c, v = .slice A hs.length c ∧ StsIn W W.heap.size A hs.length c hs := by
  obtain ⟨A, c, rfl, _⟩ := own_shape h.out
  refine ⟨A, c, rfl, h.sts rfl (by omega) fun x hx => ?_⟩
  have h1 := hg.asc x.d (List.mem_map_of_mem hx)
  have := asc_few h1
  omega
end Go.Proofs.YtclahhkcbkpofaaDoor
/- wild.wide at patterns whose only star is the last; Wild and Prefix. -/
namespace Go.Proofs.YtclahhkcbkpofaaDoor
open Go.RowKit
open Sp
set_option linter.unusedVariables false
theorem lets_zero {f : List Int} {m : List UInt8} (h : letsE f m = 0) : f.length ≤ 16 ∧ 0 < f.length ∧ f.all (okC m) = true := by
  unfold letsE at h
  split at h
  · omega
  · split at h
    · omega
    · split at h
      · exact ⟨by omega, by omega, by assumption⟩
      · omega
theorem ok_letter {c : Int} (h : okC [] c = true) : letB c = true := by
  unfold okC at h
  simpa using h
theorem all_letter {f : List Int} (h : f.all (okC []) = true) {c : Int} (hc : c ∈ f) : letB c = true := ok_letter (List.all_eq_true.1 h c hc)
end Go.Proofs.YtclahhkcbkpofaaDoor
/- fuzzy.Fuzzy. -/
namespace Go.Proofs.YtclahhkcbkpofaaDoor
open Go.RowKit
open Sp
set_option linter.unusedVariables false
/-- The automaton of a word with edits, before it is made tight. -/
def fuzA (f : List Int) (E X : Nat) : List Lst := leadsL (fuzL f.length E X ((f.length + 1) * (E + 1))) (fuzE f E X ((f.length + 1) * (E + 1)))
theorem fuzE_ok (f : List Int) (E X : Nat) : OkE (fuzL f.length E X ((f.length + 1) * (E + 1))).length (fuzE f E X ((f.length + 1) * (E + 1))) := fun e he => by
  obtain ⟨j, hj, he⟩ := List.mem_flatMap.1 he
  have hj := List.mem_range.1 hj
  rw [fuzL_len]
  have hW : 0 < E + 1 := by omega
  have hd := Nat.div_add_mod j (E + 1)
  have hm := Nat.mod_lt j hW
  obtain ⟨i, hi⟩ : ∃ i, j / (E + 1) = i := ⟨_, rfl⟩
  obtain ⟨k, hk⟩ : ∃ k, j % (E + 1) = k := ⟨_, rfl⟩
  rw [hi, hk] at hd
  rw [hk] at hm
  rw [Nat.mul_comm] at hd
  have hin : i ≤ f.length := by
    by_cases h : i ≤ f.length
    · exact h
    · have : (f.length + 1) * (E + 1) ≤ i * (E + 1) := Nat.mul_le_mul_right _ (by omega)
      omega
  unfold edAt at he
  rw [hi, hk] at he
  have hlt : ∀ c, f[i]? = some c → j + E + 2 ≤ (f.length + 1) * (E + 1) ∧ (k < E → j + E + 2 < (f.length + 1) * (E + 1)) := fun c hc => by
    have hif := (List.getElem?_eq_some_iff.1 hc).1
    have h1 := at_lt2 (n := f.length) (E := E) (i := i) (k := k) hif (by omega)
    refine ⟨by omega, fun hkE => ?_⟩
    have h2 := at_lt2 (n := f.length) (E := E) (i := i) (k := k + 1) hif (by omega)
    omega
  have hedA : ∀ e ∈ edA f[i]? j (j + E + 1), e.1 < (f.length + 1) * (E + 1) ∧ e.2.1 < (f.length + 1) * (E + 1) := fun e he => by
    cases hc : f[i]? with
    | none => rw [hc] at he; cases he
    | some c =>
      rw [hc] at he
      rw [List.mem_singleton.1 he]
      have := (hlt c hc).1
      exact ⟨hj, by show j + E + 1 < _; omega⟩
  rcases List.mem_append.1 he with he | he
  · exact hedA e he
  · split at he
    · cases he
    · rename_i hno
      have hkE : k < E := by omega
      rcases List.mem_cons.1 he with rfl | he
      · have := at_lt (n := f.length) (E := E) (i := i) (k := k + 1) hin (by omega)
        exact ⟨hj, by show j + 1 < _; omega⟩
      · cases hc : f[i]? with
        | none => rw [hc] at he; cases he
        | some c =>
          rw [hc] at he
          rw [List.mem_singleton.1 he]
          exact ⟨hj, (hlt c hc).2 hkE⟩
theorem fuzL_fewT (n E X cur : Nat) : FewT 0 1 (fuzL n E X cur) := fun s hs => by
  obtain ⟨j, hj⟩ := List.mem_iff_getElem?.1 hs
  have hl := (List.getElem?_eq_some_iff.1 hj).1
  rw [fuzL_len] at hl
  rw [fuzL_at hl] at hj
  injection hj with hj
  rw [← hj]
  split
  · unfold fuzSt
    refine ⟨Nat.le_refl _, ?_⟩
    show List.length (if _ then _ else _) ≤ 1
    split <;> simp
  · exact ⟨Nat.le_refl _, Nat.zero_le _⟩
theorem fuzL_good (n E X : Nat) (hE : 0 < (n + 1) * (E + 1)) : LGood (fuzL n E X ((n + 1) * (E + 1))) := by
  have hlen := fuzL_len n E X ((n + 1) * (E + 1))
  have key : ∀ s ∈ fuzL n E X ((n + 1) * (E + 1)), s.arcs = [] ∧ ∀ t ∈ s.free, 0 ≤ t ∧ t < (((n + 1) * (E + 1) : Nat) : Int) := fun s hs => by
    obtain ⟨j, hj⟩ := List.mem_iff_getElem?.1 hs
    have hl := (List.getElem?_eq_some_iff.1 hj).1
    rw [hlen] at hl
    rw [fuzL_at hl, if_pos hl] at hj
    injection hj with hj
    rw [← hj]
    refine ⟨rfl, fun t ht => ?_⟩
    unfold fuzSt at ht
    simp only at ht
    split at ht
    · rename_i h
      rw [List.mem_singleton.1 ht]
      have hW : 0 < E + 1 := by omega
      have hd := Nat.div_add_mod j (E + 1)
      obtain ⟨i, hi⟩ : ∃ i, j / (E + 1) = i := ⟨_, rfl⟩
      obtain ⟨k, hk⟩ : ∃ k, j % (E + 1) = k := ⟨_, rfl⟩
      rw [hi, hk] at hd h
      rw [Nat.mul_comm] at hd
      have := at_lt2 (n := n) (E := E) (i := i) (k := k + 1) h.2.2 (by omega)
      refine ⟨by omega, ?_⟩
      have h5 : j + E + 2 < (n + 1) * (E + 1) := by omega
      exact_mod_cast h5
    · cases ht
  refine ⟨fun e => ?_, fun s hs a ha => ?_, fun s hs t ht => ?_⟩
  · have := congrArg List.length e
    rw [hlen, List.length_nil] at this
    omega
  · rw [(key s hs).1] at ha
    cases ha
  · rw [hlen]
    exact (key s hs).2 t ht
/-- What Fuzzy answers of a word, where few sets are met. -/
def FuzR (w : World) (f : List Int) (E X : Nat) : Ending → World → Prop := fun e w' => Below w.heap.size w w' ∧ ∃ (A : Option Addr) (c : Nat) (hs : List Sh), e = .returned (.tuple #[.slice A hs.length c, .int .i64 0]) ∧ StsIn w' w'.heap.size A hs.length c hs ∧ hs.length ≤ 20000 ∧ Good (hs.map (·.d)) ∧ ∀ t : List UInt8, takesB (hs.map (·.d)) t = looseTakes (fuzA f E X) t
set_option maxRecDepth 100000 in
set_option maxHeartbeats 8000000 in
theorem fuzzy_any (w : World) (t : List UInt8) (ht : t.length ≤ 17592186044414) (hT : Tab w) (l : List Int) (hl : Dec (bytesN t) l) (he : letsE (l.map foldI) [] = 0) (f : List Int) (hf : l.map foldI = f) (E X : Nat) (hE : E ≤ 2) (hX : X ≤ f.length)
    (hfew : ∀ g : Nat, ((subW (fuzA f E X)).run g 0 [setL (fuzA f E X).length (Clo (fuzA f E X) fun x => x = 0)]).length ≤ 20000) :
    Calls Tryd.prog 24 #[.string ⟨t.toArray⟩, .int .i64 (E : Int), .int .i64 (X : Int)] w (FuzR w f E X) := by
  have HD := Lib.hid (letters_any w t [] ht (by simp))
  have HT := Lib.hid hT
  have HDE := Lib.hid hl
  have HEE := Lib.hid he
  have HF := Lib.hid hf
  have HFEW := Lib.hid hfew
  clear hT ht hl he hfew
  go_enter Tryd.func24, Tryd.ntmps24
  go_wp2_with fail
  refine HD.out.mono ?_
  rintro e w1 ⟨hb1, ⟨v, l2, rfl, hd, hl, ho⟩ | ⟨l2, z, rfl, hz, hd, hl⟩ | ⟨rfl, hno⟩⟩
  · obtain rfl := hd.inj HDE.out
    obtain ⟨z1, z2, _⟩ := lets_zero hl
    have hfl : f.length = l2.length := by rw [← hf, List.length_map]
    obtain ⟨n, hn⟩ : ∃ n, l2.length = n := ⟨_, rfl⟩
    rw [hf] at ho z1 z2
    rw [hn] at ho hfl
    rw [hfl] at z1 z2 hX
    obtain ⟨A, cp, rfl, hcp⟩ := own_shape ho
    have HSL := Lib.hid (Sl.of_own ho)
    have HB1 := Lib.hid hb1
    have HFL := Lib.hid hfl
    obtain ⟨wb, hwb⟩ : ∃ b, b = w1.heap.size := ⟨_, rfl⟩
    obtain ⟨N, hN⟩ : ∃ N, (n + 1) * (E + 1) = N := ⟨_, rfl⟩
    have HN := Lib.hid hN.symm
    have hNb : N ≤ 51 := by rw [← hN]; exact Nat.le_trans (Nat.mul_le_mul (show n + 1 ≤ 17 by omega) (show E + 1 ≤ 3 by omega)) (by omega)
    have hN0 : 0 < N := by rw [← hN]; exact Nat.mul_pos (by omega) (by omega)
    have hprod : ((n : Int) + 1) * ((E : Int) + 1) = (N : Int) := by rw [← hN, Int.natCast_mul]; rfl
    have hmul : IntKind.i64.wrap (((n : Int) + 1) * ((E : Int) + 1)) = (N : Int) := by rw [hprod, IntKind.wrap_i64]; omega
    have hmk := fun W => make_looseN N (by omega) W
    obtain ⟨w2, hw2⟩ : ∃ W, w1.alloc (.cells #[.int .i64 ((E : Int) + 1)] 3) = W := ⟨_, rfl⟩
    have hb2 : Below w1.heap.size w1 w2 := by rw [← hw2]; exact bnew (brefl w1) _
    have hsz2 : w2.heap.size = w1.heap.size + 1 := by rw [← hw2]; simp
    have hc2 : w2.cell? ⟨wb, 0, none⟩ = some (.int .i64 ((E : Int) + 1)) := by
      rw [← hw2, hwb]
      have := (own_new w1 #[.int .i64 ((E : Int) + 1)] 3 1 1 rfl (by unfold maxLen; omega) (nb := w1.heap.size) rfl (base := 0) (Nat.zero_le _)).cells (g := w1.heap.size) rfl 0 (.int .i64 ((E : Int) + 1)) rfl
      rwa [Addr.add_lit] at this
    have hl2 := loose_bare w2 N (by omega)
    have HW2 := Lib.hid hc2
    have HWB2 : Hid (wb < w2.heap.size) := by show wb < _; rw [hsz2, hwb]; exact Nat.lt_succ_self _
    have HBB := Lib.hid (bcall HB1.out hb2)
    have HS2 := Lib.hid ((HSL.out.below hb2).more hb2.size)
    obtain ⟨go, hgo⟩ : ∃ g, g = w2.heap.size := ⟨_, rfl⟩
    rw [← hgo] at hl2
    have HL2 := Lib.hid hl2
    have HM0 : Hid ((List.replicate N bareH).map (·.d) = fuzL n E X 0) := by
      show _ = _
      rw [List.map_replicate, fuzL_zero, hN]
      rfl
    have HWW := Lib.hid hw2
    have HWBE := Lib.hid hwb
    have HGOE := Lib.hid hgo
    clear hd hl ho hn hb1 hN hprod hb2 hc2 hl2 hw2 hsz2 hwb hgo hf hfl z2
    go_wp2_with fail
    have hg : go = w1.heap.size + 1 := by rw [HGOE.out, ← HWW.out]; simp
    rw [← hg, ← HWBE.out, HWW.out]
    clear hg
    refine fz_i1 w2 _ go N N _ HL2 n E X wb hE z1 (by omega) HN HW2 HWB2 HM0 A cp _ _ _ _ _ _ _ _ _ _ _ _ _ _ _ _ _ _ _ _ _ _ _ _ _ _ _ _ _ _ _ _ _ _ _ _ _ _ _ _ _ _ _ _ _ _ _ _ _ _ _ _ _ _ _ _ _ _ _ _ _ _ _ _ _ _ _ _ _ _ _ _ _ _ _ _ _ _ _ _ _ _ _ _ _ _ _ _ _ _ _ _ _ _ _ _ _ _ _ _ _ _ _ _ _ _ _ _ _ _ _ _ _ _ _ _ _ _ _ _ _ _ _ _ _ _ _ _ _ _ _ _ _ _ _ _ _ _ _ _ _ _ _ _ _ _ _ _ _ _ _ _ _ _ _ _ _ _ _ _ _ _ _ _ _ _ (fun c a a' w hd h => by cases a; cases a'; cases hd; exact h) ?_
    intro W3 hs3 x53 u13 u14 u54 u55 u56 u57 u58 u59 u60 u61 u62 u63 u64 u65 u66 u67 u68 u69 u70 u71 u72 u73 u74 u75 u76 u77 u78 u79 u80 u81 u82 u83 u84 u85 u86 u87 u88 u89 u90 u91 u92 u93 u94 u95 u96 u97 u98 HR3 HM3
    clear HL2 HM0 hmul hmk
    go_wp2_with fail
    have HFZ : Hid (FzS w2 W3 (fuzL n E X N) [] go N N) := ⟨w2, hs3, HR3.out, HM3.out, HR3.out.bel⟩
    refine fz_i3 w2 W3 go N N f (fuzL n E X N) n E X wb (by rw [fuzL_len]) (fuzL_fewT _ _ _ _) HFL hE z1 (by omega) HFZ HW2 HWB2 A cp HS2 _ _ _ _ _ _ _ _ _ _ _ _ _ _ _ _ _ _ _ _ _ _ _ _ _ _ _ _ _ _ _ _ _ _ _ _ _ _ _ _ _ _ _ _ _ _ _ _ _ _ _ _ _ _ _ _ _ _ _ _ _ _ _ _ _ _ _ _ _ _ _ _ _ _ _ _ _ _ _ _ _ _ _ _ _ _ _ _ _ _ _ _ _ _ _ _ _ _ _ _ _ _ _ _ _ _ _ _ _ _ _ _ _ _ _ _ _ _ _ _ _ _ _ _ _ _ _ _ _ _ _ _ _ _ _ _ _ _ _ _ _ _ _ _ _ _ _ _ _ _ _ _ _ _ _ _ _ _ _ _ _ _ _ _ _ _ (fun c a a' w hd h => by cases a; cases a'; cases hd; exact h) ?_
    intro W4 go4 m4 cp4 x102 u15 u16 u103 u104 u105 u106 u107 u108 u109 u110 u111 u112 u113 u114 u115 u116 u117 u118 u119 u120 u121 u122 u123 u124 u125 u126 u127 u128 u129 u130 u131 u132 u133 u134 u135 u136 u137 u138 u139 u140 u141 u142 u143 u144 u145 u146 u147 u148 u149 u150 u151 u152 u153 u154 u155 u156 u157 u158 u159 u160 u161 u162 u163 u164 u165 u166 u167 u168 HR4
    clear HFZ HR3 HM3
    have hb4 := HR4.out.bel
    obtain ⟨hs4, h1, h2, h3, h4, h5, h6⟩ := HR4.out.lo (fuzL_fewT _ _ _ _) (by rw [fuzL_len, ← HN.out]; omega) (Nat.le_trans (fuzE_len _ _ _ _) (by rw [← HN.out]; omega))
    have hA : fuzA f E X = hs4.map (·.d) := by rw [h2, HN.out, ← HFL.out]; rfl
    have HGD : Hid (LGood (hs4.map (·.d))) := by
      rw [← hA]
      exact leads_good _ _ (fuzE_ok f E X) (fuzL_good _ _ _ (Nat.mul_pos (by omega) (by omega)))
    have hml : (fuzA f E X).length = m4 := by rw [hA, List.length_map, h3]
    have HNF : Hid (∀ g : Nat, ¬ ((20000 : Int) < (((subW (hs4.map (·.d))).run g 0 [setL m4 (Clo (hs4.map (·.d)) fun x => x = 0)]).length : Nat))) := fun g => by
      have h := HFEW.out g
      rw [hml, hA] at h
      omega
    have HFA := Lib.hid hA
    have HML := Lib.hid hml
    have HTG := Lib.hid (tight_any W4 W4.heap.size (Nat.le_refl _) (some ⟨go4, 0, none⟩) m4 cp4 hs4 h1 (by omega) HGD.out 20000 (by omega) (HT.out.below (bcall HBB.out hb4)))
    have HB4 := Lib.hid (bcall HBB.out hb4)
    clear h1 h2 h4 h5 h6 hA hml hb4 HR4
    go_wp2_with fail
    refine HTG.out.mono ?_
    rintro e w7 (⟨⟨f', hf'⟩, _, _⟩ | ⟨_, v7, XX, dd, rfl, hown7, hl7, hq7, hle7, hd7, hb7⟩)
    · exact absurd hf' (by have := HNF.out f'; omega)
    · have hxl : XX.length ≤ 20000 := by omega
      have hxl2 : (XX.map (·.d)).length ≤ 20000 := by rw [List.length_map]; exact hxl
      have hxg := hl7.good hxl2
      have HXT : Hid (∀ t : List UInt8, takesB (XX.map (·.d)) t = looseTakes (fuzA f E X) t) := fun t => by
        rw [HFA.out]
        exact tight_takes (l := hs4.map (·.d)) hl7 (by rw [List.length_map, h3]; exact hq7) hxl2 t
      obtain ⟨Ax, cx, rfl, hx7⟩ := sts_use hown7 hxl hxg
      have HPOST : Hid (FuzR w f E X (.returned (.tuple #[.slice Ax XX.length cx, .int .i64 0])) w7) := ⟨bcall HB4.out hb7, Ax, cx, XX, rfl, hx7, hxl, hxg, HXT.out⟩
      clear hown7 hl7 hq7 hle7 hd7 hxl hxl2 hxg hx7 hb7 HTG HNF HGD HXT
      go_wp2_with fail
      go_ret2
      exact HPOST.out
  · obtain rfl := hd.inj HDE.out
    exact absurd (hl.symm.trans HEE.out) hz
  · exact absurd HDE.out (hno l)
end Go.Proofs.YtclahhkcbkpofaaDoor
/- The word fox with an edit behind one character: how few sets are met, three texts (plain Lean). -/
namespace Go.Proofs.YtclahhkcbkpofaaDoor
open Sp
def foxL : List Lst := [⟨false, [], []⟩, ⟨false, [], []⟩, ⟨false, [], [5]⟩, ⟨false, [], []⟩, ⟨false, [], [7]⟩, ⟨false, [], []⟩, ⟨true, [], []⟩, ⟨true, [], []⟩]
def foxE : List Ld := [(0, 2, 102, 102), (1, 3, 102, 102), (2, 4, 111, 111), (2, 3, 0, 1114111), (2, 5, 0, 1114111), (3, 5, 111, 111), (4, 6, 120, 120), (4, 5, 0, 1114111), (4, 7, 0, 1114111), (5, 7, 120, 120), (6, 7, 0, 1114111)]
theorem fox_L : fuzL 3 1 1 ((3 + 1) * (1 + 1)) = foxL := by rfl
theorem fox_E : fuzE [102, 111, 120] 1 1 ((3 + 1) * (1 + 1)) = foxE := by decide
/-- Where one comes without a character. -/
def foxC (x y : Nat) : Bool := x == y || (x == 2 && y == 5) || (x == 4 && y == 7)
theorem fox_at {x : Nat} {s : Lst} (h : foxL[x]? = some s) : s.arcs = [] ∧ ∀ y : Nat, ((y : Nat) : Int) ∈ s.free ↔ (x = 2 ∧ y = 5) ∨ (x = 4 ∧ y = 7) := by
  have hx := (List.getElem?_eq_some_iff.1 h).1
  have hx : x < 8 := hx
  match x, hx, h with
  | 0, _, h => injection h with h; subst h; exact ⟨rfl, fun y => by simp⟩
  | 1, _, h => injection h with h; subst h; exact ⟨rfl, fun y => by simp⟩
  | 2, _, h => injection h with h; subst h; exact ⟨rfl, fun y => by simp; omega⟩
  | 3, _, h => injection h with h; subst h; exact ⟨rfl, fun y => by simp⟩
  | 4, _, h => injection h with h; subst h; exact ⟨rfl, fun y => by simp; omega⟩
  | 5, _, h => injection h with h; subst h; exact ⟨rfl, fun y => by simp⟩
  | 6, _, h => injection h with h; subst h; exact ⟨rfl, fun y => by simp⟩
  | 7, _, h => injection h with h; subst h; exact ⟨rfl, fun y => by simp⟩
def foxF (x y : Nat) : Prop := (x = 2 ∧ y = 5) ∨ (x = 4 ∧ y = 7)
theorem fox_edge (x : Nat) (t : List Nat) (y : Nat) : edgeL foxL x t y ↔ t = [] ∧ foxF x y := by
  constructor
  · rintro ⟨s, hs, h⟩
    obtain ⟨h1, h2⟩ := fox_at hs
    rcases h with ⟨h3, h4⟩ | ⟨_, _, a, h3, _⟩
    · exact ⟨h3, (h2 y).1 h4⟩
    · rw [h1] at h3; cases h3
  · rintro ⟨rfl, h⟩
    have hx : x < foxL.length := by
      show x < 8
      rcases h with ⟨rfl, _⟩ | ⟨rfl, _⟩ <;> omega
    obtain ⟨s, hs⟩ : ∃ s, foxL[x]? = some s := ⟨foxL[x], List.getElem?_eq_getElem hx⟩
    exact ⟨s, hs, .inl ⟨rfl, ((fox_at hs).2 y).2 h⟩⟩
theorem fox_clo (z y : Nat) : Way (orE (edgeL foxL) (esE foxE)) z [] y ↔ foxC z y = true := by
  have e : foxC z y = true ↔ z = y ∨ foxF z y := by
    unfold foxC foxF
    simp only [Bool.or_eq_true, Bool.and_eq_true, beq_iff_eq, or_assoc]
  rw [e]
  constructor
  · intro h
    have key : ∀ {z y : Nat} {t : List Nat}, Way (orE (edgeL foxL) (esE foxE)) z t y → t = [] → z = y ∨ foxF z y := by
      intro z y t h
      induction h with
      | nil => exact fun _ => .inl rfl
      | @cons x y z t u h1 _ ih =>
        intro ht
        obtain ⟨e1, e2⟩ := List.append_eq_nil_iff.1 ht
        rcases h1 with h1 | h1
        · obtain ⟨_, h2⟩ := (fox_edge _ _ _).1 h1
          rcases ih e2 with rfl | h3
          · exact .inr h2
          · exfalso
            unfold foxF at h2 h3
            omega
        · exact absurd e1 (seg_ne (esE_seg h1))
    exact key h rfl
  · rintro (rfl | h)
    · exact .nil _
    · exact .one (.inl ((fox_edge _ _ _).2 ⟨rfl, h⟩))
def foxS : List (List Nat) := [[], [0], [2, 5], [3, 4, 5, 7], [3, 5, 7], [3, 5], [5, 7], [5, 6, 7], [5], [7]]
def stepB (S : List Nat) (k : Nat) (y : Nat) : Bool := foxE.any fun e => S.contains e.1 && fires k e && foxC e.2.1 y
theorem fox_step : ∀ S ∈ foxS, ∀ k ∈ [102, 111, 120, 1000], ∃ T ∈ foxS, ∀ y ∈ List.range 8, T.contains y = stepB S k y := by decide
theorem fox_few : FewC foxL foxE foxC foxS [102, 111, 120, 1000] where
  ok := by
    intro e he
    show e.1 < 8 ∧ e.2.1 < 8
    have : ∀ e ∈ foxE, e.1 < 8 ∧ e.2.1 < 8 := by decide
    exact this e he
  emp := fun x t y h => ((fox_edge x t y).1 h).1
  inl := fun x t y h => by
    obtain ⟨_, h⟩ := (fox_edge x t y).1 h
    show x < 8 ∧ y < 8
    unfold foxF at h
    omega
  kind := by
    intro e he
    have : ∀ e ∈ foxE, (e.2.2.1 = 0 ∧ e.2.2.2 = 1114111) ∨ (0 ≤ e.2.2.1 ∧ e.2.2.1 < 128 ∧ e.2.2.2 = e.2.2.1) := by decide
    exact this e he
  clo := fun z y _ => fox_clo z y
  pos := by decide
  first := ⟨[0], by decide, fun y hy => by
    have hy : y < 8 := hy
    have : ∀ y ∈ List.range 8, y ∈ [0] ↔ foxC 0 y = true := by decide
    exact this y (List.mem_range.2 hy)⟩
  none := by decide
  keys := fun k => by
    have h : ∀ e ∈ foxE, e.2.2.2 = 1114111 ∨ e.2.2.1 = 102 ∨ e.2.2.1 = 111 ∨ e.2.2.1 = 120 := by decide
    by_cases h1 : k = 102
    · exact ⟨102, by decide, fun e _ => by rw [h1]⟩
    by_cases h2 : k = 111
    · exact ⟨111, by decide, fun e _ => by rw [h2]⟩
    by_cases h3 : k = 120
    · exact ⟨120, by decide, fun e _ => by rw [h3]⟩
    refine ⟨1000, by decide, fun e he => ?_⟩
    unfold fires
    rcases h e he with h | h | h | h
    · rw [h]; rfl
    all_goals
      rw [h, beq_eq_false_iff_ne.2 (show _ ≠ ((k : Nat) : Int) by omega), beq_eq_false_iff_ne.2 (show _ ≠ ((1000 : Nat) : Int) by omega)]
  step := fun S hS k hk => by
    obtain ⟨T, hT, h⟩ := fox_step S hS k hk
    refine ⟨T, hT, fun y hy => ?_⟩
    have h1 := h y (List.mem_range.2 hy)
    rw [← List.contains_iff_mem, h1]
    unfold stepB
    rw [List.any_eq_true]
    constructor
    · rintro ⟨e, he, h2⟩
      rw [Bool.and_eq_true, Bool.and_eq_true, List.contains_iff_mem] at h2
      exact ⟨e, he, h2.1.1, h2.1.2, h2.2⟩
    · rintro ⟨e, he, h2, h3, h4⟩
      refine ⟨e, he, ?_⟩
      rw [Bool.and_eq_true, Bool.and_eq_true, List.contains_iff_mem]
      exact ⟨⟨h2, h3⟩, h4⟩
theorem fox_sets (f : Nat) : ((subW (leadsL foxL foxE)).run f 0 [setL (leadsL foxL foxE).length (Clo (leadsL foxL foxE) fun x => x = 0)]).length ≤ 20000 := by
  have h1 := fox_few.few (fun S hS y hy => by
    have : ∀ S ∈ foxS, ∀ y ∈ S, y < 8 := by decide
    exact this S hS y hy) f
  have h2 : foxS.length * 601 ≤ 20000 := by decide
  exact Nat.le_trans h1 h2
/-- By characters. -/
theorem fox_takes {t : List UInt8} {l : List Int} (hd : Dec (bytesN t) l) : looseTakes (leadsL foxL foxE) t = true ↔ CW foxF foxE 0 l 6 ∨ CW foxF foxE 0 l 7 := by
  have h : looseTakes (leadsL foxL foxE) t = true ↔ ∃ z s, (leadsL foxL foxE)[z]? = some s ∧ s.fin = true ∧ Way (edgeL (leadsL foxL foxE)) 0 (bytesN t) z := takes_way
  have hw : ∀ z, z < 8 → (Way (edgeL (leadsL foxL foxE)) 0 (bytesN t) z ↔ CW foxF foxE 0 l z) := fun z hz => by
    rw [← noE_way, leads_way foxE foxL noE fox_few.ok fox_few.inl (noE_in _) (by decide) hz, orE_no, hd.2, cw_iff fox_edge hd.1]
  have hf : ∀ z, (∃ s, (leadsL foxL foxE)[z]? = some s ∧ s.fin = true) ↔ z = 6 ∨ z = 7 := fun z => by
    rw [leads_fin]
    constructor
    · rintro ⟨s, h1, h2⟩
      have hz : z < 8 := (List.getElem?_eq_some_iff.1 h1).1
      match z, hz, h1 with
      | 0, _, h1 => injection h1 with h1; subst h1; cases h2
      | 1, _, h1 => injection h1 with h1; subst h1; cases h2
      | 2, _, h1 => injection h1 with h1; subst h1; cases h2
      | 3, _, h1 => injection h1 with h1; subst h1; cases h2
      | 4, _, h1 => injection h1 with h1; subst h1; cases h2
      | 5, _, h1 => injection h1 with h1; subst h1; cases h2
      | 6, _, _ => exact .inl rfl
      | 7, _, _ => exact .inr rfl
    · rintro (rfl | rfl)
      · exact ⟨_, rfl, rfl⟩
      · exact ⟨_, rfl, rfl⟩
  rw [h]
  constructor
  · rintro ⟨z, s, h1, h2, h3⟩
    rcases (hf z).1 ⟨s, h1, h2⟩ with rfl | rfl
    · exact .inl ((hw 6 (by omega)).1 h3)
    · exact .inr ((hw 7 (by omega)).1 h3)
  · rintro (h1 | h1)
    · obtain ⟨s, h2, h3⟩ := (hf 6).2 (.inl rfl)
      exact ⟨6, s, h2, h3, (hw 6 (by omega)).2 h1⟩
    · obtain ⟨s, h2, h3⟩ := (hf 7).2 (.inr rfl)
      exact ⟨7, s, h2, h3, (hw 7 (by omega)).2 h1⟩
theorem foxE_mem {e : Ld} (h : e ∈ foxE) (c : Int) (l : List Int) {z : Nat} (h1 : e.2.2.1 ≤ c) (h2 : c ≤ e.2.2.2) (r : CW foxF foxE e.2.1 l z) : CW foxF foxE e.1 (c :: l) z := .char h h1 h2 r
theorem dec_fax : Dec (bytesN [102, 97, 120]) [102, 97, 120] := ⟨by decide, by decide⟩
theorem dec_foxy : Dec (bytesN [102, 111, 120, 121]) [102, 111, 120, 121] := ⟨by decide, by decide⟩
theorem dec_box : Dec (bytesN [98, 111, 120]) [98, 111, 120] := ⟨by decide, by decide⟩
theorem dec_word : Dec (bytesN [102, 111, 120]) [102, 111, 120] := ⟨by decide, by decide⟩
theorem fox_fax : looseTakes (leadsL foxL foxE) [102, 97, 120] = true := (fox_takes dec_fax).2 (.inr (
  foxE_mem (e := (0, 2, 102, 102)) (by decide) 102 _ (by decide) (by decide) (foxE_mem (e := (2, 5, 0, 1114111)) (by decide) 97 _ (by decide) (by decide) (foxE_mem (e := (5, 7, 120, 120)) (by decide) 120 _ (by decide) (by decide) (.nil 7)))))
theorem fox_foxy : looseTakes (leadsL foxL foxE) [102, 111, 120, 121] = true := (fox_takes dec_foxy).2 (.inr (
  foxE_mem (e := (0, 2, 102, 102)) (by decide) 102 _ (by decide) (by decide) (foxE_mem (e := (2, 4, 111, 111)) (by decide) 111 _ (by decide) (by decide) (foxE_mem (e := (4, 6, 120, 120)) (by decide) 120 _ (by decide) (by decide) (foxE_mem (e := (6, 7, 0, 1114111)) (by decide) 121 _ (by decide) (by decide) (.nil 7))))))
theorem fox_box : looseTakes (leadsL foxL foxE) [98, 111, 120] = false := by
  have key : ∀ {x z : Nat} {l : List Int}, CW foxF foxE x l z → x = 0 → ∀ c r, l = c :: r → c = 102 := by
    intro x z l h
    cases h with
    | nil => intro _ c r h; cases h
    | free h _ =>
      intro hx
      unfold foxF at h
      omega
    | @char z e d l he h1 h2 _ =>
      intro hx c r h
      injection h with h _
      subst h
      have : ∀ e ∈ foxE, e.1 = 0 → e.2.2.1 = 102 ∧ e.2.2.2 = 102 := by decide
      have := this e he hx
      omega
  cases hb : looseTakes (leadsL foxL foxE) [98, 111, 120]
  · rfl
  · rcases (fox_takes dec_box).1 hb with h | h
    · exact absurd (key h rfl _ _ rfl) (by decide)
    · exact absurd (key h rfl _ _ rfl) (by decide)
end Go.Proofs.YtclahhkcbkpofaaDoor
