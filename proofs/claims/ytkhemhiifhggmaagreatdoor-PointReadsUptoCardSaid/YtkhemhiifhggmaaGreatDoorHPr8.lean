/- point.Read: the whole. -/
import Derived.Test.YtkhemhiifhggmaaGreatDoorHPr7
import Derived.Test.YtkhemhiifhggmaaGreatDoorCards
import Derived.Test.YtkhemhiifhggmaaGreatDoorTie
import Derived.WalkKit
import Derived.ProofKit
import Derived.OpenShut
import Derived.ShutString
import Derived.ChangeOld
import Derived.SizedLaws
import Derived.Deep.DeepHandedRow
import Derived.Lib.LaidTab
import Derived.Lib.LaidU8
set_option maxRecDepth 100000
set_option maxHeartbeats 40000000
namespace Go.Proofs.YtkhemhiifhggmaaGreatDoor
open Go.RowKit Go.Maps
set_option linter.unusedVariables false
theorem readNum_in (t : List UInt8) (h : (readNum t).2.1 = 0) : (readNum t).1 ≤ 9223372036854775807 := by
 unfold readNum at h ⊢
 by_cases he : (numR t).2.2 = 0
 ·rw [if_pos he] at h ⊢
  show (numR t).1 ≤ _
  unfold numR at he ⊢
  by_cases hne : t = []
  ·rw [if_pos hne]; omega
  rw [if_neg hne] at he ⊢
  simp only at he ⊢
  have hb := byteN_in t 0
  by_cases h1 : 16 ≤ byteN t 0 ∧ byteN t 0 < 240
  ·rw [if_pos h1]; show (byteN t 0 : Int) - 128 ≤ _; omega
  rw [if_neg h1] at he ⊢
  by_cases h2 : byteN t 0 < 8 ∨ 247 < byteN t 0
  ·rw [if_pos h2] at he; cases he
  rw [if_neg h2] at he ⊢
  generalize (if byteN t 0 < 16 then 16 - byteN t 0 else byteN t 0 - 239) = K at *
  by_cases h3 : t.length ≤ K
  ·rw [if_pos h3] at he; cases he
  rw [if_neg h3] at he ⊢
  generalize decide (byteN t 0 < 16) = fl at *
  by_cases h4 : 1 < K ∧ flipN fl (byteN t 1) = 0
  ·rw [if_pos h4] at he; cases he
  rw [if_neg h4] at he ⊢
  by_cases h5 : accN fl t K ≤ 9223372036854775695
  ·rw [if_pos h5]
   by_cases h6 : byteN t 0 < 16
   ·rw [if_pos h6]; show -113 - (accN fl t K : Int) ≤ _; omega
   ·rw [if_neg h6]; show (accN fl t K : Int) + 112 ≤ _; omega
  ·rw [if_neg h5] at he; cases he
 ·rw [if_neg he] at h
  exact absurd h he
theorem readCnt_in (t : List UInt8) (h : (readCnt t).2.1 = 0) : pos63 (readCnt t).1 := by
 unfold readCnt at h ⊢
 split
 ·rename_i hc; rw [if_pos hc] at h; cases h
 ·rename_i hc
  rw [if_neg hc] at h
  have h1 := readNum_in t h
  have : ¬ (readNum t).1 < 0 := fun e => hc ⟨h, e⟩
  exact ⟨by omega, h1⟩
theorem cnt_rng (t : List UInt8) : 0 ≤ (readCnt t).1 ∧ (readCnt t).1 ≤ 9223372036854775807 := by
 by_cases h : (readCnt t).2.1 = 0
 ·exact readCnt_in t h
 ·have : (readCnt t).1 = 0 := by
   unfold readCnt at h ⊢
   split
   ·rfl
   ·rename_i hc
    rw [if_neg hc] at h
    unfold readNum at h ⊢
    by_cases he : (numR t).2.2 = 0
    ·rw [if_pos he] at h
     exact absurd rfl h
    ·rw [if_neg he]
  omega
theorem cells2 {W : World} {b : Nat} {a c : Value} {ty : TypeId} (h : W.heap[b]? = some (.cells #[a, c] ty (0, 0))) : W.cell? ⟨b, 0, none⟩ = some a ∧ W.cell? ⟨b, 1, none⟩ = some c ∧ W.frozen? ⟨b, 0, none⟩ = false ∧ W.frozen? ⟨b, 1, none⟩ = false := by
 have h0 := cell_of_row W b 0 _ _ (0, 0) h
 have h1 := cell_of_row W b 1 _ _ (0, 0) h
 simp at h0 h1
 exact ⟨h0, h1, by simp [World.frozen?, h], by simp [World.frozen?, h]⟩
theorem results_cell2 {fn : Func} {p t : Tmp} {ty : TypeId} (h : fn.results = #[.cell p ty, .tmp t]) {P : Program} (tmps : Array Value) (w : World) (g : Nat) (cs : Array Value)
  (hp : tmps.getD p undef = .pointer (some ⟨g, 0, none⟩)) (hl : (loadVar ty ⟨g, 0, none⟩).run P w = .ok (.agg cs) w) :
  (results fn tmps).run P w = .ok (.tuple #[.agg cs, tmps.getD t undef]) w := by
 have hp' : tmps[p]?.getD undef = .pointer (some ⟨g, 0, none⟩) := by simpa using hp
 simp [results, h, hp', asAddr, hl]
theorem load_point {w : World} {g : Nat} {cs : Array Value} {fr : Nat × Nat} (hg : w.heap[g]? = some (.cells cs 24 fr)) (hc : cs.size = 2) : (loadVar 24 ⟨g, 0, none⟩).run Tryz.prog w = .ok (.agg cs) w :=
 run_loadVar_row w g 24 24 cs fr _ hg Tryz.underlying24 rfl (by rw [hc]; kernel_rfl)
theorem two_set {W : World} {b : Nat} {x y : Value} {ty : TypeId} (h : W.heap[b]? = some (.cells #[x, y] ty (0, 0))) (x' y' : Value) : ((W.setCell ⟨b, 0, none⟩ x').setCell ⟨b, 1, none⟩ y').heap[b]? = some (.cells #[x', y'] ty (0, 0)) := by
 have := blk_set (j := 1) (blk_set (j := 0) h x') y'
 simpa using this
def readP (s : List UInt8) : Option (Int × List Sg) :=
 if (openB 2 s).2 = 0 then (cntR (openB 2 s).1).bind fun a => (cntR a.2).bind fun b => (segsR b.1.toNat b.2).bind fun r => if r.2 = [] ∧ PtOk a.1 r.1 then some (a.1, r.1) else none
 else none
def ReadPost (w : World) (o : Option (Int × List Sg)) (e : Ending) (w' : World) : Prop :=
 Below w.heap.size w w' ∧ match o with
  | none => e = .returned (.tuple #[.agg #[.int .i64 0, .slice none 0 0], .int .i64 18])
  | some (nx, l) => ∃ A n cp, e = .returned (.tuple #[.agg #[.int .i64 nx, .slice A n cp], .int .i64 0]) ∧ SegsIn w' w'.heap.size A n l ∧ n ≤ 1099511627000 ∧ n ≤ cp ∧ ∀ a, A = some a → w.heap.size ≤ a.block
theorem read_pt (w : World) (s : List UInt8) (hs : s.length ≤ 1099511627000) : Calls Tryz.prog 17 #[.string ⟨s.toArray⟩] w (ReadPost w (readP s)) := by
 have HO := Lib.hid (fun W => open_any W s (by omega) 2 (by omega))
 have HOL : Hid ((openB 2 s).1.length ≤ s.length) := by
  show _ ≤ _
  unfold openB
  split
  ·split
   ·split
    ·exact Nat.zero_le _
    ·split
     ·exact Nat.zero_le _
     ·split
      ·rename_i h _ _ _
       have h1 := (readBlk_short (s.drop 4)).resolve_right (fun hh => hh h)
       have h2 : (s.drop 4).length = s.length - 4 := List.length_drop ..
       show (readBlk (s.drop 4)).1.length ≤ _
       omega
      ·exact Nat.zero_le _
   ·exact Nat.zero_le _
  ·exact Nat.zero_le _
 obtain ⟨P, hP⟩ : ∃ P, readP s = P := ⟨_, rfl⟩
 rw [hP]
 unfold readP at hP
 generalize (openB 2 s).1 = c at *
 generalize (openB 2 s).2 = x at *
 by_cases hx : x = 0
 ·rw [if_pos hx] at hP
  rw [hx] at HO
  have HPP := Lib.hid hP
  have hcl := HOL.out
  clear hP hx
  go_enter Tryz.func17, Tryz.ntmps17
  go_wp2_with fail
  refine (HO.out _).mono ?_
  rintro e w1 ⟨rfl, hb1⟩
  have HA : Hid (Below w.heap.size w (w.alloc (.cells #[.int .i64 0, .slice none 0 0] 24)) ∧ (w.alloc (.cells #[.int .i64 0, .slice none 0 0] 24)).heap[w.heap.size]? = some (.cells #[.int .i64 0, .slice none 0 0] 24 (0, 0)) ∧ (w.alloc (.cells #[.int .i64 0, .slice none 0 0] 24)).heap.size = w.heap.size + 1) := ⟨bnew (brefl w) _, heap_alloc_new _ _, by simp⟩
  generalize w.alloc (.cells #[.int .i64 0, .slice none 0 0] 24) = wA at *
  have HB1 : Hid (Below wA.heap.size wA w1) := hb1
  clear hb1
  go_wp2_with fail
  refine (at_any _ c).mono ?_
  rintro e w2 ⟨rfl, h2, hb2⟩
  have HB2 := Lib.hid (bcall HB1.out hb2)
  have hl2 := (Array.getElem?_eq_some_iff.1 h2).1
  have hcw : wA.heap.size ≤ w1.heap.size := HB1.out.size
  generalize hcb : w1.heap.size = cb at *
  have H2 := Lib.hid h2
  clear h2 hb2
  have HNX : Hid (NxAt ((w2.alloc (.cells #[.pointer (some ⟨cb, 0, none⟩)] 69)).alloc (.cells #[.bool false] 4)) w2.heap.size cb (w2.heap.size + 1) c false) := by
   refine ⟨?_, ?_, ?_, by omega, by omega, by omega⟩
   ·exact (heap_alloc_old _ _ (by simp)).trans (heap_alloc_new _ _)
   ·have := heap_alloc_new (w2.alloc (.cells #[.pointer (some ⟨cb, 0, none⟩)] 69)) (.cells #[.bool false] 4)
    simpa using this
   ·exact (heap_alloc_old _ _ (by simp; omega)).trans ((heap_alloc_old _ _ hl2).trans H2.out)
  have HB3 : Hid (Below wA.heap.size wA ((w2.alloc (.cells #[.pointer (some ⟨cb, 0, none⟩)] 69)).alloc (.cells #[.bool false] 4))) := bnew (bnew HB2.out _) _
  have hszw := HB2.out.size
  have hcl2 : c.length ≤ 1099511627000 := by omega
  have hs3 : ((w2.alloc (.cells #[.pointer (some ⟨cb, 0, none⟩)] 69)).alloc (.cells #[.bool false] 4)).heap.size = w2.heap.size + 2 := by simp
  go_wp2_with fail
  generalize (w2.alloc (.cells #[.pointer (some ⟨cb, 0, none⟩)] 69)).alloc (.cells #[.bool false] 4) = W3 at *
  obtain ⟨rb, hrb⟩ : ∃ rb, w2.heap.size = rb := ⟨_, rfl⟩
  obtain ⟨bb, hbb⟩ : ∃ bb, w2.heap.size + 1 = bb := ⟨_, rfl⟩
  have HLB : Hid (wA.heap.size ≤ cb ∧ wA.heap.size ≤ bb ∧ wA.heap.size ≤ rb) := ⟨hcw, by omega, by omega⟩
  rw [hbb, hrb] at HNX
  rw [hbb, hrb]
  clear hrb hbb hs3 hcw hszw hl2 hcb H2 HB2
  refine (nxt_any W3 rb cb bb c false HNX.out (by omega)).mono ?_
  rintro e w4 ⟨rfl, hn4, hg4⟩
  have HB4 : Hid (Below wA.heap.size wA w4) := HB3.out.trans (hg4.below HB3.out.size (by rintro i (rfl | rfl) <;> (have := HLB.out; omega)))
  have HN4 := Lib.hid hn4
  have HR1 := Lib.hid (cnt_rng c)
  have HSH1 := Lib.hid (readCnt_short c)
  have HC1 : Hid (cntR c = if (readCnt c).2.1 = 0 then some ((readCnt c).1, (readCnt c).2.2) else none) := rfl
  generalize (readCnt c).1 = z1 at *
  generalize (readCnt c).2.1 = e1 at *
  generalize (readCnt c).2.2 = t1 at *
  clear hn4 hg4 HNX HB3
  go_wp2_with fail
  have hl4 := HB4.out.size
  have HN5 : Hid (NxAt (w4.alloc (.cells #[.int .i64 z1, .slice none 0 0] 24)) rb cb bb t1 (false || decide (e1 ≠ 0))) := HN4.out.below (bnew (brefl w4) _)
  refine (nxt_any _ rb cb bb t1 _ HN5.out (by have := HSH1.out; omega)).mono ?_
  rintro e w5 ⟨rfl, hn5, hg5⟩
  have HB5 : Hid (Below wA.heap.size wA w5) := (bnew HB4.out _).trans (hg5.below (by simp; omega) (by rintro i (rfl | rfl) <;> (have := HLB.out; omega)))
  have hc4 := (Array.getElem?_eq_some_iff.1 HN4.out.c).1
  have hb4 := (Array.getElem?_eq_some_iff.1 HN4.out.b).1
  have KP5 : Hid (w5.heap[w4.heap.size]? = some (.cells #[.int .i64 z1, .slice none 0 0] 24 (0, 0))) := hg5.at_ (heap_alloc_new _ _) (by rintro (h | h) <;> omega)
  have HRD : Hid (RdR wA w5 rb cb bb w4.heap.size z1 none 0 0 [] (readCnt t1).2.2 ((false || decide (e1 ≠ 0)) || decide ((readCnt t1).2.1 ≠ 0))) := ⟨hn5, KP5.out, ⟨rfl, .inl ⟨rfl, rfl⟩⟩, rfl, HB5.out, by have := HLB.out; omega, by have := HLB.out; omega, by omega⟩
  have HR2 := cnt_rng t1
  obtain ⟨N, hN⟩ := Int.eq_ofNat_of_zero_le HR2.1
  have hN63 : N ≤ 9223372036854775807 := by have := HR2.2; omega
  have HSH2 := Lib.hid (readCnt_short t1)
  have HC2 : Hid (cntR t1 = if (readCnt t1).2.1 = 0 then some ((readCnt t1).1, (readCnt t1).2.2) else none) := rfl
  rw [hN] at HC2
  rw [hN]
  generalize (readCnt t1).2.1 = e2 at *
  generalize (readCnt t1).2.2 = t2 at *
  have HPO : Hid (∃ O, RdL O N [] t2 ((false || decide (e1 ≠ 0)) || decide (e2 ≠ 0)) ∧ P = O.bind fun r => if r.2 = [] ∧ PtOk z1 r.1 then some (z1, r.1) else none) := by
   rw [← HPP.out, HC1.out]
   by_cases he1 : e1 = 0
   ·rw [if_pos he1, Option.bind_some]
    show ∃ O, _ ∧ (cntR t1).bind _ = _
    rw [HC2.out]
    by_cases he2 : e2 = 0
    ·rw [if_pos he2, Option.bind_some]
     refine ⟨segsR N t2, ?_, rfl⟩
     unfold RdL
     rw [if_neg (by simp [he1, he2])]
     simp
    ·rw [if_neg he2]
     refine ⟨none, ?_, rfl⟩
     unfold RdL
     rw [if_pos (by simp [he2])]
   ·rw [if_neg he1]
    refine ⟨none, ?_, rfl⟩
    unfold RdL
    rw [if_pos (by simp [he1])]
  obtain ⟨O, hO1, hO2⟩ := HPO.out
  have HL0 := Lib.hid hO1
  have HPO2 := Lib.hid hO2
  generalize ((false || decide (e1 ≠ 0)) || decide (e2 ≠ 0)) = bad0 at *
  have hpb := (Array.getElem?_eq_some_iff.1 KP5.out).1
  generalize hpbe : w4.heap.size = pb at *
  have ht2 : t2.length ≤ 1099511627000 := by have := HSH1.out; have := HSH2.out; omega
  clear hn5 hg5 HN4 HN5 HB4 hc4 hb4 HR2 hN HPP HC1 HC2 HPO hO1 hO2 HR1
  go_wp2_with fail
  refine read_o wA w5 t2 ht2 rb cb bb pb z1 O N hN63 bad0 HRD HL0 _ _ _ _ _ _ _ _ _ _ _ _ _ _ _ _ _ _ _ _ _ _ _ _ _ _ _ _ _ _ _ _ _ _ _ _ _ _ _ _ _ _ _ _ _ _ _ _ _ _ _ _ _ _ _ _ _ _ _ (fun c a a' w hd h => by cases a; cases a'; cases hd; exact h) ?_
  intro k m cp A L t bad W u27 u28 u29 u30 u31 u32 u33 u34 u35 u36 u37 u38 u39 u40 u41 u42 u43 u44 u45 u46 u47 u48 HX HL HK
  clear HRD HL0 HB5
  have hbel := HX.out.bel
  have KZ : Hid (W.heap[w.heap.size]? = some (.cells #[.int .i64 0, .slice none 0 0] 24 (0, 0))) := (hbel.block _ (by have := HA.out.2.2; omega)).trans HA.out.2.1
  obtain ⟨x0, x1, g0, g1⟩ := cells2 KZ.out
  have b0 := cell_of_row W bb 0 _ _ (0, 0) HX.out.nx.b
  have r0 := cell_of_row W rb 0 _ _ (0, 0) HX.out.nx.r
  simp at b0 r0
  have HBW : Hid (Below w.heap.size w W) := bcall HA.out.1 hbel
  obtain ⟨p0, p1, _, _⟩ := cells2 HX.out.p
  cases bad
  ·have hk0 : k = 0 := HK.out.1.resolve_right (by decide)
   have hO : O = some (L, t) := by
    have h := HL.out
    unfold RdL at h
    rw [if_neg (by decide), hk0] at h
    simpa [segsR] using h
   have HOO := Lib.hid hO
   clear hk0 hO
   go_wp2_with fail
   refine (rest_any W cb t HX.out.nx.c).mono ?_
   rintro e w9 ⟨rfl, e9⟩
   rw [e9]
   clear e9 w9
   by_cases ht : t = []
   ·subst ht
    have HCK := Lib.hid (check_any W W.heap.size (Nat.le_refl _) A m cp L (Lib.hid ⟨Sl.of_own HX.out.own, HX.out.len⟩) (by have := HK.out.2.1; omega) z1)
    by_cases hok : PtOk z1 L
    ·have hck : checkP z1 L = 0 := if_pos hok
     rw [hck] at HCK
     have HPN : Hid (P = some (z1, L)) := by show _ = _; rw [HPO2.out, HOO.out, Option.bind_some, if_pos ⟨rfl, hok⟩]
     clear hck hok
     go_wp2_with fail
     refine HCK.out.mono ?_
     rintro e w6 ⟨rfl, hb6⟩
     have HX6 := Lib.hid (HX.out.below hb6)
     have KZ6 : Hid (w6.heap[w.heap.size]? = some (.cells #[.int .i64 0, .slice none 0 0] 24 (0, 0))) := (hb6.block _ (Array.getElem?_eq_some_iff.1 KZ.out).1).trans KZ.out
     have HBW6 : Hid (Below w.heap.size w w6) := bcall HBW.out hb6
     obtain ⟨y0, y1, j0, j1⟩ := cells2 KZ6.out
     obtain ⟨v0, v1, _, _⟩ := cells2 HX6.out.p
     clear hb6 x0 x1 g0 g1 p0 p1 b0 r0
     go_wp2_with fail
     refine bodyPost_ret (results_cell2 rfl _ _ _ _ rfl (load_point (two_set KZ6.out _ _) rfl)) rfl ?_
     rw [HPN.out]
     refine ⟨(HBW6.out.setCell (Nat.le_refl _) _).setCell (Nat.le_refl _) _, A, m, cp, rfl, ?_, HK.out.2.1, ?_, ?_⟩
     ·refine ⟨Sl.of_own (own_set (own_set HX6.out.own (by have := HA.out.2.2; omega)) (by have := HA.out.2.2; omega)), HX6.out.len⟩
     ·rcases HX6.out.own.2 with ⟨hv, _⟩ | ⟨g, cap, cur, hv, _, _, hc, _⟩
      ·injection hv with _ e1 e2
       omega
      ·injection hv with _ _ e2
       omega
     ·intro a ha
      rcases HX6.out.own.2 with ⟨hv, _⟩ | ⟨g, cap, cur, hv, hg, _⟩
      ·injection hv with e1
       rw [ha] at e1
       cases e1
      ·injection hv with e1
       rw [ha] at e1
       injection e1 with e1
       rw [e1]
       show w.heap.size ≤ g
       have := HA.out.2.2
       omega
    ·have hck : checkP z1 L = 1 := if_neg hok
     rw [hck] at HCK
     have HPN : Hid (P = none) := by show _ = _; rw [HPO2.out, HOO.out, Option.bind_some, if_neg (fun h => hok h.2)]
     clear hck hok
     go_wp2_with fail
     refine HCK.out.mono ?_
     rintro e w6 ⟨rfl, hb6⟩
     have KZ6 : Hid (w6.heap[w.heap.size]? = some (.cells #[.int .i64 0, .slice none 0 0] 24 (0, 0))) := (hb6.block _ (Array.getElem?_eq_some_iff.1 KZ.out).1).trans KZ.out
     have HBW6 : Hid (Below w.heap.size w w6) := bcall HBW.out hb6
     obtain ⟨y0, y1, j0, j1⟩ := cells2 KZ6.out
     clear hb6 x0 x1 g0 g1 p0 p1 b0 r0
     go_wp2_with fail
     refine bodyPost_ret (results_cell2 rfl _ _ _ _ rfl (load_point (two_set KZ6.out _ _) rfl)) rfl ?_
     rw [HPN.out]
     exact ⟨(HBW6.out.setCell (Nat.le_refl _) _).setCell (Nat.le_refl _) _, rfl⟩
   ·have hne : (⟨t.toArray⟩ : ByteArray).toList.isEmpty = false := by
     rw [ByteArray.toList_eq]
     cases t with
     | nil => exact absurd rfl ht
     | cons a r => rfl
    have HPN : Hid (P = none) := by show _ = _; rw [HPO2.out, HOO.out, Option.bind_some, if_neg (fun h => ht h.1)]
    generalize (⟨t.toArray⟩ : ByteArray) = S1 at *
    go_wp2_with fail
    refine bodyPost_ret (results_cell2 rfl _ _ _ _ rfl (load_point (two_set KZ.out _ _) rfl)) rfl ?_
    rw [HPN.out]
    exact ⟨(HBW.out.setCell (Nat.le_refl _) _).setCell (Nat.le_refl _) _, rfl⟩
  ·have hO : O = none := by
    have h := HL.out
    unfold RdL at h
    rwa [if_pos rfl] at h
   have HPN : Hid (P = none) := by show _ = _; rw [HPO2.out, hO]; rfl
   clear hO
   go_wp2_with fail
   refine bodyPost_ret (results_cell2 rfl _ _ _ _ rfl (load_point (two_set KZ.out _ _) rfl)) rfl ?_
   rw [HPN.out]
   exact ⟨(HBW.out.setCell (Nat.le_refl _) _).setCell (Nat.le_refl _) _, rfl⟩
 ·rw [if_neg hx] at hP
  subst hP
  have q1 : (x != 0) = true := by simpa using hx
  go_enter Tryz.func17, Tryz.ntmps17
  go_wp2_with fail
  refine (HO.out _).mono ?_
  rintro e w1 ⟨rfl, hb1⟩
  have HB1 := Lib.hid (bel_alloc (brefl w) hb1)
  have k0 : w1.heap[w.heap.size]? = some (.cells #[.int .i64 0, .slice none 0 0] 24 (0, 0)) := (hb1.block _ (by simp)).trans (heap_alloc_new _ _)
  obtain ⟨z0, z1, f0, f1⟩ := cells2 k0
  have K0 := Lib.hid k0
  clear hb1 k0
  go_wp2_with fail
  refine bodyPost_ret (results_cell2 rfl _ _ _ _ rfl (load_point (two_set K0.out _ _) rfl)) rfl ?_
  exact ⟨(HB1.out.setCell (Nat.le_refl _) _).setCell (Nat.le_refl _) _, rfl⟩
end Go.Proofs.YtkhemhiifhggmaaGreatDoor
namespace Go.Proofs.YtkhemhiifhggmaaGreatDoor
open Go.RowKit Go.Maps Go.Sort
set_option linter.unusedVariables false
theorem packP_len {w : World} {B : Nat} {A : Option Addr} {m : Nat} {nx : Int} {l : List Sg} (h : SegsIn w B A m l) (hm : m ≤ 4398046511104) : (packP nx l).1.length ≤ 36 * m + 1000 := by
 unfold packP
 split
 ·rename_i hok
  have h1 := flatB_len (segsOk_pos hok.2.1 (Int.le_refl 0) hok.2.2)
  have h2 : ∀ z ∈ [nx, (l.length : Int)], pos63 z := by
   intro z hz
   simp only [List.mem_cons, List.not_mem_nil, or_false] at hz
   have h3 := hok.1
   have h4 := hok.2.1
   have h5 := h.2
   rcases hz with rfl | rfl
   ·exact ⟨by omega, by omega⟩
   ·exact ⟨by omega, by omega⟩
  have h3 := numsI_len4 h2
  have h4 : (textP nx l).length ≤ 36 * m + 18 := by
   unfold textP
   rw [List.length_append, by8_length]
   simp only [List.length_cons, List.length_nil] at h3
   have := h.2
   rw [this] at h1
   omega
  show (sealB 2 (textP nx l)).length ≤ _
  rw [sealB_len]
  have := (blockB_len (textP nx l) (by omega)).2
  omega
 ·exact Nat.zero_le _
theorem save_any {H : Type} (w W : World) (p : Nat) (D : DS H) (h : Own w W p D) (hT : Tab w) (k0 L : Nat) (hk0 : k0 ≤ 200000000000) (hsm : D.small k0) (hg : D.good L) (hL : L ≤ 1152921504606846976) (n : Int) (h63 : -9223372036854775808 ≤ n ∧ n ≤ 9223372036854775807)
  (B : Nat) (hB : B ≤ W.heap.size) (A : Option Addr) (m c : Nat) (l : List Sg) (HS : Hid (SegsIn W B A m l)) (hm : m ≤ 4398046511104) (nx : Int) :
  Calls Tryz.prog 21 #[.pointer (some ⟨p, 0, none⟩), .int .i64 n, .agg #[.int .i64 nx, .slice A m c]] W fun e w' => e = .returned (.int .i64 (saveD D n nx l).2) ∧ Own w w' p (saveD D n nx l).1 ∧ RowsKeep W w' := by
 obtain ⟨W3, hW3⟩ : ∃ W3, ((W.alloc (.cells #[.pointer (some ⟨p, 0, none⟩)] 44)).alloc (.cells #[.int .i64 n] 3)).alloc (.cells #[.int .i64 nx, .slice A m c] 24) = W3 := ⟨_, rfl⟩
 have hs3 : W3.heap.size = W.heap.size + 1 + 1 + 1 := by rw [← hW3]; simp
 have HB3 : Hid (Below W.heap.size W W3) := by show Below _ _ _; rw [← hW3]; exact bnew (bnew (bnew (brefl W) _) _) _
 have HD3 : Hid (W3.heap[W.heap.size]? = some (.cells #[.pointer (some ⟨p, 0, none⟩)] 44 (0, 0)) ∧ W3.heap[W.heap.size + 1]? = some (.cells #[.int .i64 n] 3 (0, 0)) ∧ W3.heap[W.heap.size + 1 + 1]? = some (.cells #[.int .i64 nx, .slice A m c] 24 (0, 0))) := by
  refine ⟨?_, ?_, ?_⟩
  ·rw [← hW3]
   exact (heap_alloc_old _ _ (by simp; omega)).trans ((heap_alloc_old _ _ (by simp)).trans (heap_alloc_new _ _))
  ·rw [← hW3]
   refine (heap_alloc_old _ _ (by simp)).trans ?_
   have := heap_alloc_new (W.alloc (.cells #[.pointer (some ⟨p, 0, none⟩)] 44)) (.cells #[.int .i64 n] 3)
   simpa using this
  ·rw [← hW3]
   have := heap_alloc_new ((W.alloc (.cells #[.pointer (some ⟨p, 0, none⟩)] 44)).alloc (.cells #[.int .i64 n] 3)) (.cells #[.int .i64 nx, .slice A m c] 24)
   simpa using this
 have HP := Lib.hid (pack_any W3 B (by omega) A m c l (Lib.hid (HS.out.keep (HB3.out.mono hB))) hm nx)
 have HPL := Lib.hid (packP_len (nx := nx) HS.out hm)
 have HO := Lib.hid h
 obtain ⟨p0, p1, _, _⟩ := cells2 HD3.out.2.2
 have HSV : Hid (saveD D n nx l = if (packP nx l).2 = 0 ∧ nameP 112 n ≠ [] then runS (acts ⟨(packP nx l).1.toArray⟩ ⟨(nameP 112 n).toArray⟩) D else (D, 1)) := rfl
 generalize saveD D n nx l = R at *
 generalize (packP nx l).1 = S at *
 generalize (packP nx l).2 = x at *
 go_enter Tryz.func21, Tryz.ntmps21
 go_wp2_with fail
 refine HP.out.mono ?_
 rintro e w4 ⟨rfl, hb4⟩
 have HB4 : Hid (Below W.heap.size W w4) := HB3.out.trans (hb4.mono HB3.out.size)
 have hd4 := (hb4.block _ (by omega)).trans HD3.out.1
 have hn4 := (hb4.block _ (by omega)).trans HD3.out.2.1
 have hs4 := hb4.size
 have d0 := cell_of_row w4 W.heap.size 0 _ _ (0, 0) hd4
 have n0 := cell_of_row w4 (W.heap.size + 1) 0 _ _ (0, 0) hn4
 simp at d0 n0
 have HD4 := Lib.hid (And.intro hd4 hn4)
 clear hb4 hd4 hn4 hW3
 have HB5 : Hid (Below W.heap.size W (w4.alloc (.cells #[.string ⟨S.toArray⟩] 9))) := bnew HB4.out _
 have HD5 : Hid ((w4.alloc (.cells #[.string ⟨S.toArray⟩] 9)).heap[W.heap.size]? = some (.cells #[.pointer (some ⟨p, 0, none⟩)] 44 (0, 0)) ∧ (w4.alloc (.cells #[.string ⟨S.toArray⟩] 9)).heap[W.heap.size + 1]? = some (.cells #[.int .i64 n] 3 (0, 0)) ∧ (w4.alloc (.cells #[.string ⟨S.toArray⟩] 9)).heap[w4.heap.size]? = some (.cells #[.string ⟨S.toArray⟩] 9 (0, 0))) :=
  ⟨(heap_alloc_old _ _ (by omega)).trans HD4.out.1, (heap_alloc_old _ _ (by omega)).trans HD4.out.2, heap_alloc_new _ _⟩
 have hs5 : (w4.alloc (.cells #[.string ⟨S.toArray⟩] 9)).heap.size = w4.heap.size + 1 := by simp
 have hl0 : W.heap.size < w4.heap.size := by omega
 have hl1 : W.heap.size + 1 < w4.heap.size := by omega
 by_cases hx : x = 0
 ·subst hx
  have HN := Lib.hid (pname_p (w4.alloc (.cells #[.string ⟨S.toArray⟩] 9)) (hT.below (bcall HO.out.below HB5.out)) n h63)
  go_wp2_with fail
  refine HN.out.mono ?_
  rintro e w6 ⟨rfl, hb6⟩
  have HB6 := Lib.hid (bcall HB5.out hb6)
  have hs6 := hb6.size
  have hd6 := (hb6.block _ (by rw [hs5]; omega)).trans HD5.out.1
  have hn6 := (hb6.block _ (by rw [hs5]; omega)).trans HD5.out.2.1
  have hb6' := (hb6.block _ (by rw [hs5]; omega)).trans HD5.out.2.2
  have d6 := cell_of_row w6 W.heap.size 0 _ _ (0, 0) hd6
  simp at d6
  have HD6 := Lib.hid (And.intro hd6 (And.intro hn6 hb6'))
  have hl6 : w4.heap.size < w6.heap.size := by rw [hs5] at hs6; omega
  clear hb6 hd6 hn6 hb6' hs6
  by_cases hnm : nameP 112 n = []
  ·have hne : (⟨(nameP 112 n).toArray⟩ : ByteArray).toList.isEmpty = true := by rw [ByteArray.toList_eq, hnm]; rfl
   have HRR : Hid (R = (D, 1)) := by show _ = _; rw [HSV.out, if_neg (fun h => h.2 hnm)]
   generalize (⟨(nameP 112 n).toArray⟩ : ByteArray) = N1 at *
   go_wp2_with fail
   go_ret
   exact ⟨by rw [HRR.out]; rfl, by rw [HRR.out]; exact HO.out.on HB6.out, RowsKeep.below HB6.out⟩
  ·have hne : (⟨(nameP 112 n).toArray⟩ : ByteArray).toList.isEmpty = false := by
    rw [ByteArray.toList_eq]
    cases hq : nameP 112 n with
    | nil => exact absurd hq hnm
    | cons a r => rfl
   have HRR : Hid (R = runS (acts ⟨S.toArray⟩ ⟨(nameP 112 n).toArray⟩) D) := by show _ = _; rw [HSV.out, if_pos ⟨trivial, hnm⟩]
   have HNE := Lib.hid hne
   obtain ⟨N1, hN1⟩ : ∃ N1 : ByteArray, ⟨(nameP 112 n).toArray⟩ = N1 := ⟨_, rfl⟩
   have HN1 := Lib.hid hN1
   rw [hN1] at hne
   rw [hN1]
   clear hN1 hnm HN
   go_wp2_with fail
   refine save_o w _ p D ?_ hT k0 L hk0 (Lib.hid hsm) (Lib.hid hg) hL ⟨S.toArray⟩ (by rw [size_arr]; have := HPL.out; omega) n h63 w6.heap.size W.heap.size w4.heap.size (W.heap.size + 1) ?_ ?_ _ _ _ _ _ _ _ _ _ _ _ _ _ _ _ _ _ _ _ _ _ _ _ _ _ _ _ _ _ _ _ _ _ _ _ _ _ _ _ _ (fun c a a' w hd h => by cases a; cases a'; cases hd; exact h) ?_ ?_
   ·exact Lib.hid (HO.out.on (bnew HB6.out _))
   ·exact Lib.hid (heap_alloc_new _ _)
   ·exact Lib.hid ⟨(heap_alloc_old _ _ (by omega)).trans HD6.out.1, (heap_alloc_old _ _ hl6).trans HD6.out.2.2, (heap_alloc_old _ _ (by omega)).trans HD6.out.2.1⟩
   ·intro V x32 u10 u11 u33 u34 u35 u36 u37 u38 u39 u40 u41 HV HZ
    rw [← HRR.out] at HV
    rw [← HRR.out]
    go_wp2_with fail
    go_ret
    exact ⟨rfl, HV.out.1, (RowsKeep.below (bnew HB6.out _)).trans HV.out.2⟩
   ·intro V x32 u6 u10 u11 u33 u34 u35 u36 u37 u38 u39 u40 u41 HV HZ
    rw [← HRR.out] at HV HZ
    go_wp2_with fail
    go_ret
    exact ⟨by rw [HZ.out]; rfl, HV.out.1, (RowsKeep.below (bnew HB6.out _)).trans HV.out.2⟩
 ·have q1 : (x != 0) = true := by simpa using hx
  have HRR : Hid (R = (D, 1)) := by show _ = _; rw [HSV.out, if_neg (fun h => hx h.1)]
  clear hx
  go_wp2_with fail
  go_ret
  exact ⟨by rw [HRR.out]; rfl, by rw [HRR.out]; exact HO.out.on HB5.out, RowsKeep.below HB5.out⟩
end Go.Proofs.YtkhemhiifhggmaaGreatDoor
namespace Go.Proofs.YtkhemhiifhggmaaGreatDoor
open Go.RowKit Go.Maps Go.Sort
set_option linter.unusedVariables false
def Errs (w : World) : Prop := (∃ t p, w.cell? ⟨0, 0, none⟩ = some (.iface t p)) ∧ ∃ t p, w.cell? ⟨1, 0, none⟩ = some (.iface t p)
theorem Errs.below {w w' : World} (h : Errs w) (hb : Below w.heap.size w w') : Errs w' := by
 obtain ⟨⟨t, p, h1⟩, t', p', h2⟩ := h
 exact ⟨⟨t, p, (hb.cell (lt_of_cell h1).1).trans h1⟩, t', p', (hb.cell (lt_of_cell h2).1).trans h2⟩
def numT (s : List UInt8) : Option Int := match Lib.atoiAll s with
 | .ok v => some v
 | _ => none
theorem numT_rng {s : List UInt8} {v : Int} (h : numT s = some v) : -9223372036854775808 ≤ v ∧ v ≤ 9223372036854775807 := by
 unfold numT at h
 split at h
 ·rename_i u hu
  injection h with h
  rw [← h]
  exact Lib.atoiAll_bounds hu
 ·cases h
theorem atoi_pt (w : World) (hE : Errs w) (s : List UInt8) (hs : s.length ≤ 1000) :
  Calls Tryz.prog 53 #[.string ⟨s.toArray⟩] w fun e w' => Below w.heap.size w w' ∧ ∃ (z : Int) (er : Value), e = .returned (.tuple #[.int .i64 z, er]) ∧ ((∃ v, numT s = some v ∧ z = v ∧ er = .nilIface) ∨ (numT s = none ∧ ∃ t p, er = .iface t p)) := by
 have hz := size_arr s
 have hd : (⟨s.toArray⟩ : ByteArray).data.toList = s := by simp
 obtain ⟨⟨t1, p1, h1⟩, t2, p2, h2⟩ := hE
 cases hq : Lib.atoiAll s with
 |
  ok v =>
  refine (Any.strconv_Atoi_ok Tryz.laysC172 ⟨s.toArray⟩ (by rw [hz]; omega) v (by rw [hd]; exact hq) w).mono ?_
  rintro e w' ⟨rfl, hw⟩
  refine ⟨?_, v, _, rfl, .inl ⟨v, by unfold numT; rw [hq], rfl, rfl⟩⟩
  rcases hw with rfl | ⟨t, rfl⟩
  ·exact brefl _
  ·exact Lib.bytesWorld_below _ _ _
 |
  _ =>
  first
  | (
    refine (Any.strconv_Atoi_syntax Tryz.laysC172 ⟨s.toArray⟩ (by rw [hz]; omega) (by rw [hd]; exact hq) (.iface t1 p1) w h1 (.inr ⟨t1, p1, rfl⟩)).mono ?_
    rintro e w' ⟨N, rfl, _, _, hb⟩
    exact ⟨hb, _, _, rfl, .inr ⟨by unfold numT; rw [hq], _, _, rfl⟩⟩)
  | (
    refine (Any.strconv_Atoi_range Tryz.laysC172 ⟨s.toArray⟩ (by rw [hz]; omega) (by rw [hd]; exact hq) (.iface t2 p2) w h2 (.inr ⟨t2, p2, rfl⟩)).mono ?_
    rintro e w' ⟨N, rfl, _, _, hb⟩
    exact ⟨hb, _, _, rfl, .inr ⟨by unfold numT; rw [hq], _, _, rfl⟩⟩)
end Go.Proofs.YtkhemhiifhggmaaGreatDoor
namespace Go.Proofs.YtkhemhiifhggmaaGreatDoor
open Go.RowKit
theorem own : ownKnob Tryz.prog.godebug = none := by kernel_rfl
theorem laidOut : laidOutB Tryz.prog = true := by kernel_rfl
theorem gTabType : (Tryz.prog.globals[2]?).map (·.type) = some 161 := by kernel_rfl
theorem laid_tail {P : Program} {x : String × DataW Unit} {r : List (String × DataW Unit)} {w : World} (h : laidMet P (x :: r) w) : laidMet P r w := by
 obtain ⟨ps, ⟨g, t, cs, fuel, p, q, _, _, _, _, hq, rfl⟩, hn, hc⟩ := h
 exact ⟨q, hq, (List.nodup_append.1 hn).2.1, fun b off hm => hc b off (List.mem_append_right _ hm)⟩
theorem iface_cell {P : Program} {W : World} {n nm : String} {d : DataW Unit} {g : Nat} {t : TypeId} {m : Array (String × TypeId)} (h : Lib.VarReads P W n (.iface nm d)) (hg : P.globalNamed n = some g) (ht : (P.globals[g]?).map (·.type) = some t) (hu : P.underlying t = some (.interface m)) :
  ∃ u v, W.cell? ⟨g, 0, none⟩ = some (.iface u v) := by
 obtain ⟨g', t', cs, fuel, p, hg', ht', hv, hd⟩ := h
 obtain rfl := Option.some.inj (hg.symm.trans hg')
 obtain rfl := Option.some.inj (ht.symm.trans ht')
 have hc := World.var?_cell hg hv 0
 match fuel, hd with
 |
  fuel + 1, hd =>
  unfold DataW.trod at hd
  rw [hu] at hd
  obtain ⟨l⟩ := cs
  match l, hd, hc with
  | [.iface u v], hd, hc => exact ⟨u, v, by simpa using hc⟩
  | [.nilIface], hd, hc => simp at hd
  | [], hd, hc => simp at hd
  | a :: b :: r, hd, hc => simp at hd
  | [.int _ _], hd, hc => simp at hd
theorem table {W : World} (h : laidMetH Tryz.prog Rows.pointTextsRow.laid W) : Tab W ∧ Errs W := by
 refine ⟨Lib.tabIs_of_head (rest := [("strconv.ErrRange", Rows.laid_strconv_ErrRange), ("strconv.ErrSyntax", Rows.laid_strconv_ErrSyntax)]) tab_gn gTabType Tryz.underlying161 Tryz.underlying89 (by kernel_rfl) (by kernel_rfl) (laid_tail (laid_tail h)), ?_, ?_⟩
 ·exact iface_cell (nm := "*errors.errorString") (Lib.laidMet.reads h (n := "strconv.ErrSyntax") (d := Rows.laid_strconv_ErrSyntax) (by simp [Rows.pointTextsRow])) (by kernel_rfl) (t := 84) (by kernel_rfl) Tryz.underlying84
 ·exact iface_cell (nm := "*errors.errorString") (Lib.laidMet.reads h (n := "strconv.ErrRange") (d := Rows.laid_strconv_ErrRange) (by simp [Rows.pointTextsRow])) (by kernel_rfl) (t := 84) (by kernel_rfl) Tryz.underlying84
def cellsOfD : DataW Unit → Array Value
 | .agg l => (l.map fun d => match d with
  | .lit (.int k z) => Value.int k z
  | _ => .nilIface).toArray
 | _ => #[]
def put0 (o : Obj) (d : DataW Unit) : Obj := match o with
 | .cells _ t frozen => .cells (cellsOfD d) t frozen
 | o => o
def putE (o : Obj) (a : Nat) : Obj := match o with
 | .cells _ t frozen => .cells #[.iface 169 (.pointer (some ⟨a, 0, none⟩))] t frozen
 | o => o
def textOfD : DataW Unit → ByteArray
 | .iface _ (.ptr (.agg [.lit (.string l)])) => ⟨l.toArray⟩
 | _ => ⟨#[]⟩
noncomputable def low : Nat := (World.holding Tryz.prog default ⟨#[], #[], []⟩).heap.size
noncomputable def laidWorld (os : Os) : World :=
 let w0 := World.holding Tryz.prog os ⟨#[.cells #[.string (textOfD Rows.laid_strconv_ErrRange)] 171, .cells #[.string (textOfD Rows.laid_strconv_ErrSyntax)] 171], #[], []⟩
 { w0 with heap := ((((w0.heap.modify 2 fun o => put0 o Rows.laid_internal_strconv_uint64pow10).modify 3 fun o => put0 o Rows.laid_math_bits_deBruijn32tab).modify 4 fun o => put0 o Rows.laid_math_bits_deBruijn64tab).modify 1 fun o => putE o low).modify 0 fun o => putE o (low + 1) }
end Go.Proofs.YtkhemhiifhggmaaGreatDoor
namespace Go.Proofs.YtkhemhiifhggmaaGreatDoor
open Go.RowKit Go.Maps Go.Sort
set_option linter.unusedVariables false
def okName (s : List UInt8) : Option Int := (numT (s.drop (min 2 s.length))).bind fun v => if nameP 112 v = s then some v else none
def lateF (f : List UInt8 → List UInt8) : List (List UInt8) → Option (Int × Int × List Sg)
 | [] => none
 | s :: r => match (okName s).bind fun v => (readP (f s)).map fun q => (v, q.1, q.2) with
  | some x => some x
  | none => lateF f r
theorem lateF_skip {f : List UInt8 → List UInt8} {s : List UInt8} {r : List (List UInt8)} (h : okName s = none) : lateF f (s :: r) = lateF f r := by rw [lateF, h]; rfl
theorem lateF_bad {f : List UInt8 → List UInt8} {s : List UInt8} {r : List (List UInt8)} {v : Int} (h : okName s = some v) (h2 : readP (f s) = none) : lateF f (s :: r) = lateF f r := by rw [lateF, h, Option.bind_some, h2]; rfl
theorem lateF_hit {f : List UInt8 → List UInt8} {s : List UInt8} {r : List (List UInt8)} {v nx : Int} {L : List Sg} (h : okName s = some v) (h2 : readP (f s) = some (nx, L)) : lateF f (s :: r) = some (v, nx, L) := by rw [lateF, h, Option.bind_some, h2]; rfl
theorem take_rev {α : Type} {l : List α} {k : Nat} {x : α} (h : l[k]? = some x) : (l.take (k + 1)).reverse = x :: (l.take k).reverse := by
 rw [List.take_add_one, h]
 simp
theorem readS_len {H : Type} {D : DS H} {M : Nat} (h : D.good M) (s : ByteArray) : (readS D s).size ≤ M := by
 unfold readS
 split
 ·exact Nat.zero_le _
 ·split
  ·exact Nat.zero_le _
  ·have := (h.fs (numOf D.names s)).2.2
   unfold bs
   rw [size_arr]
   exact this
theorem late_o {H : Type} (w W wA W0 : World) (p : Nat) (D : DS H) (HO : Hid (Own w W p D)) (hT : Tab w) (hE : Errs w) (hA : Below W.heap.size W wA) (hg : D.good 1099511627000) (rz : Nat) (HZ : Hid (wA.heap[rz]? = some (.cells #[.int .i64 0, .slice none 0 0] 24 (0, 0)) ∧ W.heap.size ≤ rz))
  (A : Option Addr) (n cp : Nat) (l : List (List UInt8)) (hn : n ≤ 1099511627776) (hl : l.length = n) (HL : Hid (Sl W0 W0.heap.size 1 A n (l.map encStr))) (HSH : Hid (∀ s ∈ l, s.length ≤ 1000)) (HB0 : Hid (Below wA.heap.size wA W0)) (R : Option (Int × Int × List Sg)) (HR0 : Hid (lateF (fun s => (readS D ⟨s.toArray⟩).data.toList) l.reverse = R))
  (c1 c13 c14 c15 c16 c17 c18 c19 c20 c21 c22 c23 c72 u2 u4 u7 u8 u9 u10 u11 u12 u24 u25 u26 u27 u28 u29 u30 u31 u32 u33 u34 u35 u36 u37 u38 u39 u40 u41 u42 u43 u44 u45 u46 u47 u48 u49 u50 u51 u52 u53 u54 u55 u56 u57 u58 u59 u60 u61 u62 u63 u64 u65 u66 u67 u68 u69 u70 u71 : Value) (Q0 : Exit → Act → World → Prop) (hQ0 : ∀ c (a a' : Act) w, a.defers = a'.defers → Q0 (.panic c) a w → Q0 (.panic c) a' w)
  (hret : ∀ (V : World) (v nx : Int) (A2 : Option Addr) (m c2 : Nat) (L : List Sg) (x6 u7 u8 u9 u10 u11 u12 u24 u25 u26 u27 u28 u29 u30 u31 u32 u33 u34 u35 u36 u37 u38 u39 u40 u41 u42 u43 u44 u45 u46 u47 u48 u49 u50 u51 u52 u53 u54 u55 u56 u57 u58 u59 u60 u61 u62 u63 u64 u65 u66 u67 u68 u69 u70 u71 : Value), Hid (R = some (v, nx, L) ∧ Below W.heap.size W V ∧ V.heap[rz]? = some (.cells #[.int .i64 nx, .slice A2 m c2] 24 (0, 0)) ∧ SegsIn V V.heap.size A2 m L ∧ m ≤ 1099511627000) → Q0 .ret ⟨List.toArray (.pointer (some ⟨p, 0, none⟩) :: c1 :: .int .i64 v :: .pointer (some ⟨rz, 0, none⟩) :: .int .i64 0 :: .slice A n cp :: x6 :: u7 :: u8 :: u9 :: u10 :: u11 :: u12 :: c13 :: c14 :: c15 :: c16 :: c17 :: c18 :: c19 :: c20 :: c21 :: c22 :: c23 :: u24 :: u25 :: u26 :: u27 :: u28 :: u29 :: u30 :: u31 :: u32 :: u33 :: u34 :: u35 :: u36 :: u37 :: u38 :: u39 :: u40 :: u41 :: u42 :: u43 :: u44 :: u45 :: u46 :: u47 :: u48 :: u49 :: u50 :: u51 :: u52 :: u53 :: u54 :: u55 :: u56 :: u57 :: u58 :: u59 :: u60 :: u61 :: u62 :: u63 :: u64 :: u65 :: u66 :: u67 :: u68 :: u69 :: u70 :: u71 :: c72 :: []), []⟩ V)
  (hexit : ∀ (V : World) (x6 u2 u4 u7 u8 u9 u10 u11 u12 u24 u25 u26 u27 u28 u29 u30 u31 u32 u33 u34 u35 u36 u37 u38 u39 u40 u41 u42 u43 u44 u45 u46 u47 u48 u49 u50 u51 u52 u53 u54 u55 u56 u57 u58 u59 u60 u61 u62 u63 u64 u65 u66 u67 u68 u69 u70 u71 : Value), Hid (R = none ∧ Below wA.heap.size wA V) → Q0 (.exit 0) ⟨List.toArray (.pointer (some ⟨p, 0, none⟩) :: c1 :: u2 :: .pointer (some ⟨rz, 0, none⟩) :: u4 :: .slice A n cp :: x6 :: u7 :: u8 :: u9 :: u10 :: u11 :: u12 :: c13 :: c14 :: c15 :: c16 :: c17 :: c18 :: c19 :: c20 :: c21 :: c22 :: c23 :: u24 :: u25 :: u26 :: u27 :: u28 :: u29 :: u30 :: u31 :: u32 :: u33 :: u34 :: u35 :: u36 :: u37 :: u38 :: u39 :: u40 :: u41 :: u42 :: u43 :: u44 :: u45 :: u46 :: u47 :: u48 :: u49 :: u50 :: u51 :: u52 :: u53 :: u54 :: u55 :: u56 :: u57 :: u58 :: u59 :: u60 :: u61 :: u62 :: u63 :: u64 :: u65 :: u66 :: u67 :: u68 :: u69 :: u70 :: u71 :: c72 :: []), []⟩ V) :
  Code.wp Tryz.prog (.loop (loopOf Tryz.f23 0)) Q0 ⟨List.toArray (.pointer (some ⟨p, 0, none⟩) :: c1 :: u2 :: .pointer (some ⟨rz, 0, none⟩) :: u4 :: .slice A n cp :: .int .i64 ((n : Int) - 1) :: u7 :: u8 :: u9 :: u10 :: u11 :: u12 :: c13 :: c14 :: c15 :: c16 :: c17 :: c18 :: c19 :: c20 :: c21 :: c22 :: c23 :: u24 :: u25 :: u26 :: u27 :: u28 :: u29 :: u30 :: u31 :: u32 :: u33 :: u34 :: u35 :: u36 :: u37 :: u38 :: u39 :: u40 :: u41 :: u42 :: u43 :: u44 :: u45 :: u46 :: u47 :: u48 :: u49 :: u50 :: u51 :: u52 :: u53 :: u54 :: u55 :: u56 :: u57 :: u58 :: u59 :: u60 :: u61 :: u62 :: u63 :: u64 :: u65 :: u66 :: u67 :: u68 :: u69 :: u70 :: u71 :: c72 :: []), []⟩ W0 := by
 conv => arg 2; arg 1; whnf
 go_loopw [6] (fun iv wr => ∃ k : Nat, k ≤ n ∧ iv = .int .i64 ((k : Int) - 1) ∧ Hid (Below W0.heap.size W0 wr) ∧ Hid (lateF (fun s => (readS D ⟨s.toArray⟩).data.toList) (l.take k).reverse = R)) (fun iv _ => (intOf iv + 1).toNat)
 case atStart => exact ⟨n, Nat.le_refl _, rfl, Lib.hid (brefl W0), by rw [← hl, List.take_length]; exact HR0⟩
 case round =>
  clear HR0
  obtain ⟨k, hk, rfl, HB, HR⟩ := hrel
  have HBA : Hid (Below wA.heap.size wA wr) := bcall HB0.out HB.out
  cases k with
  |
   zero =>
   have q0 : decide (((0 : Nat) : Int) - 1 ≥ 0) = false := by decide
   go_wp2_with fail
   exact Lib.hid ⟨HR.out.symm, HBA.out⟩
  |
   succ k =>
   obtain ⟨s, hs⟩ : ∃ s, l[k]? = some s := ⟨l[k]'(by omega), List.getElem?_eq_getElem _⟩
   have hsl := HSH.out s (List.mem_of_getElem? hs)
   have HLW := Lib.hid (HL.out.below HB.out)
   obtain ⟨b, off, rfl, hb, hcell⟩ := HLW.out.at_ (show k < n by omega)
   have hc : wr.cell? ⟨b, off + k, none⟩ = some (.string ⟨s.toArray⟩) := hcell k _ (by rw [List.getElem?_map, hs]; rfl)
   have hbw : b < wr.heap.size := Nat.lt_of_lt_of_le hb HB.out.size
   have e1 : ((k + 1 : Nat) : Int) - 1 = (k : Int) := by omega
   rw [e1]
   have q0 : decide ((k : Int) ≥ 0) = true := decide_eq_true (by omega)
   have hkn : (k : Int) < (n : Int) := by omega
   have HRT : Hid (lateF (fun s => (readS D ⟨s.toArray⟩).data.toList) (s :: (l.take k).reverse) = R) := by show _ = _; rw [← take_rev hs]; exact HR.out
   have hz := size_arr s
   obtain ⟨mn, hmn⟩ : ∃ mn : Nat, min 2 s.length = mn := ⟨_, rfl⟩
   have hmi : min (2 : Int) (s.length : Int) = (mn : Int) := by omega
   have hcut := run_from s mn (by omega)
   have HAT := Lib.hid (fun V hV => atoi_pt V (hE.below hV) (s.drop mn) (by rw [List.length_drop]; omega))
   have hwW : Hid (Below w.heap.size w wr) := bcall (bcall HO.out.below hA) HBA.out
   clear hcell HR e1
   go_wp2_with fail
   have HKC : Hid (∀ V, Below wr.heap.size wr V → V.cell? ⟨b, off + k, none⟩ = some (.string ⟨s.toArray⟩)) := fun V hV => (hV.cell (p := ⟨b, off + k, none⟩) hbw).trans hc
   go_region_held3 (fun w' => w'.cell? ⟨b, off + k, none⟩ = some (.string ⟨s.toArray⟩))
    (first
     | assumption
     | exact HKC.out _ HV1.out
     | (refine HKC.out _ ?_; (repeat (first | exact brefl _ | refine Below.drew ?_)); done))
    (first | (go_at_call 53; refine (HAT.out _ (hwW.out.trans (by repeat (first | exact (brefl _).mono hwW.out.size | refine Below.drew ?_)))).mono ?_; rintro e V1 ⟨hv1, z, er, rfl, hcase⟩; have HV1 : Hid (Below wr.heap.size wr V1) := bcall (by repeat (first | exact brefl _ | refine Below.drew ?_)) hv1; have HCA := Lib.hid hcase; clear hv1 hcase))
   all_goals
    have HBV : Hid (Below W0.heap.size W0 V1) := bcall HB.out HV1.out
    have hcV : V1.cell? ⟨b, off + k, none⟩ = some (.string ⟨s.toArray⟩) := (HV1.out.cell (p := ⟨b, off + k, none⟩) hbw).trans hc
    have hbV : b < V1.heap.size := Nat.lt_of_lt_of_le hbw HV1.out.size
    rcases HCA.out with ⟨v, hv, rfl, rfl⟩ | ⟨hv, ty, pp, rfl⟩
    ·have hvr := numT_rng hv
     have HNM := Lib.hid (fun V hV => pname_p V (hT.below hV) z hvr)
     have HKV : Hid (∀ V, Below V1.heap.size V1 V → V.cell? ⟨b, off + k, none⟩ = some (.string ⟨s.toArray⟩)) := fun V hV => (hV.cell (p := ⟨b, off + k, none⟩) hbV).trans hcV
     have hwV : Hid (Below w.heap.size w V1) := bcall hwW.out HV1.out
     have HNV := Lib.hid hv
     clear hv HCA hc HAT HKC
     by_cases hnm : nameP 112 z = s
     ·have hne : (@BEq.beq (List UInt8) instBEqOfDecidableEq (nameP 112 z) s) = true := by rw [hnm]; exact decide_eq_true rfl
      have hne2 : (@BEq.beq (List UInt8) List.instBEq (nameP 112 z) s) = true := by simpa using hnm
      go_wp2_with fail
      go_region_held3 (fun w' => w'.cell? ⟨b, off + k, none⟩ = some (.string ⟨s.toArray⟩))
       (first
        | assumption
        | exact HKV.out _ HV2.out
        | (refine HKV.out _ ?_; (repeat (first | exact brefl _ | refine Below.drew ?_)); done))
       (first | (go_at_call 12; refine (HNM.out _ (hwV.out.trans (by repeat (first | exact (brefl _).mono hwV.out.size | refine Below.drew ?_)))).mono ?_; rintro e V2 ⟨rfl, hv2⟩; have HV2 : Hid (Below V1.heap.size V1 V2) := bcall (by repeat (first | exact brefl _ | refine Below.drew ?_)) hv2; clear hv2))
      all_goals
       have HBV2 : Hid (Below W0.heap.size W0 V2) := bcall HBV.out HV2.out
       have HOK : Hid (okName s = some z) := by show _ = _; unfold okName; rw [hmn, HNV.out, Option.bind_some, if_pos hnm]
       have hc2 : V2.cell? ⟨b, off + k, none⟩ = some (.string ⟨s.toArray⟩) := HKV.out V2 HV2.out
       have HA2 : Hid (Below wA.heap.size wA V2) := bcall HB0.out HBV2.out
       have HRD := Lib.hid (dr_read (HO.out.on (hA.trans (HA2.out.mono hA.size))) ⟨s.toArray⟩ (by rw [size_arr]; unfold maxLen; omega))
       clear hnm HNM HKV hcut hz hcV
       go_wp2_with fail
       refine HRD.out.mono ?_
       rintro e V3 ⟨rfl, ho3, hb3⟩
       obtain ⟨u, hu⟩ : ∃ u : List UInt8, readS D ⟨s.toArray⟩ = ⟨u.toArray⟩ := ⟨(readS D ⟨s.toArray⟩).data.toList, by cases readS D ⟨s.toArray⟩; simp⟩
       have hul : u.length ≤ 1099511627000 := by
        have h1 := readS_len hg ⟨s.toArray⟩
        rw [hu, size_arr] at h1
        exact h1
       have HFU : Hid ((readS D ⟨s.toArray⟩).data.toList = u) := by show _ = _; rw [hu]
       have HRP := Lib.hid (read_pt V3 u hul)
       have HBV3 : Hid (Below W0.heap.size W0 V3) := bcall HBV2.out hb3
       rw [hu]
       clear hu hb3 ho3 HRD
       go_wp2_with fail
       refine HRP.out.mono ?_
       rintro e V4 ⟨hb4, hq⟩
       have HBV4 : Hid (Below W0.heap.size W0 V4) := bcall HBV3.out hb4
       cases hrp : readP u with
       |
        none =>
        rw [hrp] at hq
        simp only at hq
        subst hq
        have HRN : Hid (lateF (fun s => (readS D ⟨s.toArray⟩).data.toList) (l.take k).reverse = R) := by show _ = _; rw [← lateF_bad HOK.out (by rw [HFU.out]; exact hrp)]; exact HRT.out
        clear hret hexit hrp hb4 HRP
        go_wp2_with fail
        go_roundw
        case rel => exact ⟨k, by omega, rfl, Lib.hid (bnew HBV4.out _), HRN⟩
        case measure => first | (simp [intOf]; done) | (simp [intOf]; omega)
       |
        some q =>
        obtain ⟨nx, L⟩ := q
        rw [hrp] at hq
        simp only at hq
        obtain ⟨A2, m, c2, rfl, hsg, hm, hmc, hnew⟩ := hq
        have HRF : Hid (R = some (z, nx, L)) := by show _ = _; rw [← HRT.out]; exact lateF_hit HOK.out (by rw [HFU.out]; exact hrp)
        have HZ4 : Hid (V4.heap[rz]? = some (.cells #[.int .i64 0, .slice none 0 0] 24 (0, 0))) := ((bcall HB0.out HBV4.out).block rz (Array.getElem?_eq_some_iff.1 HZ.out.1).1).trans HZ.out.1
        have hrz4 := (Array.getElem?_eq_some_iff.1 HZ4.out).1
        obtain ⟨V5, hV5⟩ : ∃ V5, V4.alloc (.cells #[.int .i64 nx, .slice A2 m c2] 24) = V5 := ⟨_, rfl⟩
        have HZ5 : Hid (V5.heap[rz]? = some (.cells #[.int .i64 0, .slice none 0 0] 24 (0, 0))) := by show _ = _; rw [← hV5]; exact (heap_alloc_old _ _ hrz4).trans HZ4.out
        have HP5 : Hid (V5.heap[V4.heap.size]? = some (.cells #[.int .i64 nx, .slice A2 m c2] 24 (0, 0))) := by show _ = _; rw [← hV5]; exact heap_alloc_new _ _
        have HB5 : Hid (Below V4.heap.size V4 V5) := by show Below _ _ _; rw [← hV5]; exact bnew (brefl V4) _
        obtain ⟨y0, y1, j0, j1⟩ := cells2 HZ5.out
        obtain ⟨v0, v1, _, _⟩ := cells2 HP5.out
        have hne5 : V4.heap.size ≠ rz := by omega
        have HSG : Hid (SegsIn V4 V4.heap.size A2 m L ∧ m ≤ 1099511627000) := ⟨hsg, hm⟩
        have hrz3 : rz < V3.heap.size := Nat.lt_of_lt_of_le (Array.getElem?_eq_some_iff.1 HZ.out.1).1 (bcall HB0.out HBV3.out).size
        clear hrp hb4 HRP hsg hm hmc hexit
        go_wp2_with fail
        refine wp_region_noPanic ?_
        go_region
        all_goals
         dsimp only [NoPanic]
         go_wp2_with fail
         have hA5 : Below W.heap.size W V5 := (hA.trans ((bcall HB0.out HBV4.out).mono hA.size)).trans (HB5.out.mono (Nat.le_trans hA.size (bcall HB0.out HBV4.out).size))
         refine hret _ z nx A2 m c2 L _ _ _ _ _ _ _ _ _ _ _ _ _ _ _ _ _ _ _ _ _ _ _ _ _ _ _ _ _ _ _ _ _ _ _ _ _ _ _ _ _ _ _ _ _ _ _ _ _ _ _ _ _ _ _ (Lib.hid ⟨HRF.out, ((hA5.setCell HZ.out.2 _).setCell HZ.out.2 _).drew, two_set HZ5.out _ _, ?_, HSG.out.2⟩)
         refine ⟨?_, HSG.out.1.2⟩
         have h5 := (HSG.out.1.1.below HB5.out).more (B' := V5.heap.size) HB5.out.size
         refine ⟨h5.1, fun hn0 => ?_⟩
         obtain ⟨b2, off2, e2, hb2, hc2⟩ := h5.2 hn0
         refine ⟨b2, off2, e2, by simpa [World.setCell] using hb2, fun j u hu => ?_⟩
         have hb2z : b2 ≠ rz := by
          have := hnew _ e2
          simp only at this
          omega
         rw [← hc2 j u hu]
         exact (World.cell?_setCell_other _ _ _ _ (by intro e; injection e with e; exact hb2z e.symm)).trans (World.cell?_setCell_other _ _ _ _ (by intro e; injection e with e; exact hb2z e.symm))
     ·have hne : (@BEq.beq (List UInt8) instBEqOfDecidableEq (nameP 112 z) s) = false := decide_eq_false hnm
      have hne2 : (@BEq.beq (List UInt8) List.instBEq (nameP 112 z) s) = false := beq_eq_false_iff_ne.2 hnm
      go_wp2_with fail
      go_region_held3 (fun w' => w'.cell? ⟨b, off + k, none⟩ = some (.string ⟨s.toArray⟩))
       (first
        | assumption
        | exact HKV.out _ HV2.out
        | (refine HKV.out _ ?_; (repeat (first | exact brefl _ | refine Below.drew ?_)); done))
       (first | (go_at_call 12; refine (HNM.out _ (hwV.out.trans (by repeat (first | exact (brefl _).mono hwV.out.size | refine Below.drew ?_)))).mono ?_; rintro e V2 ⟨rfl, hv2⟩; have HV2 : Hid (Below V1.heap.size V1 V2) := bcall (by repeat (first | exact brefl _ | refine Below.drew ?_)) hv2; clear hv2))
      all_goals
       have HBV2 : Hid (Below W0.heap.size W0 V2) := bcall HBV.out HV2.out
       have HOK : Hid (okName s = none) := by show _ = _; unfold okName; rw [hmn, HNV.out, Option.bind_some, if_neg hnm]
       have HRN : Hid (lateF (fun s => (readS D ⟨s.toArray⟩).data.toList) (l.take k).reverse = R) := by show _ = _; rw [← lateF_skip HOK.out]; exact HRT.out
       clear hret hexit hnm HNM HKV
       clear hcut hz
       go_wp2_with fail
       go_roundw
       case rel => exact ⟨k, by omega, rfl, HBV2, HRN⟩
       case measure => first | (simp [intOf]; done) | (simp [intOf]; omega)
    ·have HOK : Hid (okName s = none) := by show _ = _; unfold okName; rw [hmn, hv]; rfl
     have HRN : Hid (lateF (fun s => (readS D ⟨s.toArray⟩).data.toList) (l.take k).reverse = R) := by show _ = _; rw [← lateF_skip HOK.out]; exact HRT.out
     clear hv HCA hc HAT
     go_wp2_with fail
     go_quiet (fail)
     clear hret hexit
     go_wp2_with fail
     go_roundw
     case rel => exact ⟨k, by omega, rfl, Lib.hid (below_drewN HBV.out _), HRN⟩
     case measure => first | (simp [intOf]; done) | (simp [intOf]; omega)
end Go.Proofs.YtkhemhiifhggmaaGreatDoor
namespace Go.Proofs.YtkhemhiifhggmaaGreatDoor
open Go.RowKit Go.Maps Go.Sort
set_option linter.unusedVariables false
def sortedN (ss : List (List UInt8)) : List (List UInt8) := ss.mergeSort (fun x y => decide (x ≤ y))
def latestD {H : Type} (D : DS H) (ss : List (List UInt8)) : Option (Int × Int × List Sg) := lateF (fun s => (readS D ⟨s.toArray⟩).data.toList) (sortedN ss).reverse
def LatePost (w : World) (o : Option (Int × Int × List Sg)) (e : Ending) (w' : World) : Prop :=
 match o with
 | none => e = .returned (.tuple #[.int .i64 0, .agg #[.int .i64 0, .slice none 0 0], .int .i64 11])
 | some (v, nx, l) => ∃ A n cp, e = .returned (.tuple #[.int .i64 v, .agg #[.int .i64 nx, .slice A n cp], .int .i64 0]) ∧ SegsIn w' w'.heap.size A n l ∧ n ≤ 1099511627000
theorem results_cell3 {fn : Func} {p t u : Tmp} {ty : TypeId} (h : fn.results = #[.tmp t, .cell p ty, .tmp u]) {P : Program} (tmps : Array Value) (w : World) (g : Nat) (cs : Array Value)
  (hp : tmps.getD p undef = .pointer (some ⟨g, 0, none⟩)) (hl : (loadVar ty ⟨g, 0, none⟩).run P w = .ok (.agg cs) w) :
  (results fn tmps).run P w = .ok (.tuple #[tmps.getD t undef, .agg cs, tmps.getD u undef]) w := by
 have hp' : tmps[p]?.getD undef = .pointer (some ⟨g, 0, none⟩) := by simpa using hp
 simp [results, h, hp', asAddr, hl]
theorem dr_down {H : Type} {w W : World} {p : Nat} {D : DS H} (h : Own w W p D) : Calls Tryz.prog 52 #[.pointer (some ⟨p, 0, none⟩)] W fun e w' => e = .returned (.bool D.down) ∧ Below W.heap.size W w' := by
 obtain ⟨F, rfl, h1, h2⟩ := h
 exact (down_any W F D h1).mono fun e' w' hh => hh
theorem latest_any {H : Type} (w W : World) (p : Nat) (D : DS H) (h : Own w W p D) (hT : Tab w) (hE : Errs w) (hf : D.fits) (hd : D.down = false) (hg : D.good 1099511627000) (hnm : ∀ s ∈ strKeys D.names, s.length ≤ 1000) :
  Calls Tryz.prog 23 #[.pointer (some ⟨p, 0, none⟩)] W fun e w' => ∃ ss, ss.Perm (strKeys D.names) ∧ LatePost W (latestD D ss) e w' ∧ Own w w' p D ∧ Below W.heap.size W w' := by
 have HO := Lib.hid h
 obtain ⟨wA, hwA⟩ : ∃ wA, W.alloc (.cells #[.int .i64 0, .slice none 0 0] 24) = wA := ⟨_, rfl⟩
 have hA : Below W.heap.size W wA := by rw [← hwA]; exact bnew (brefl W) _
 have hZ : wA.heap[W.heap.size]? = some (.cells #[.int .i64 0, .slice none 0 0] 24 (0, 0)) := by rw [← hwA]; exact heap_alloc_new _ _
 have HZ := Lib.hid hZ
 have HDN := Lib.hid (dr_down (h.on hA))
 rw [hd] at HDN
 go_enter Tryz.func23, Tryz.ntmps23
 go_wp2_with fail
 refine HDN.out.mono ?_
 rintro e w1 ⟨rfl, hb1⟩
 have HB1 := Lib.hid hb1
 have HLS := Lib.hid (dr_list (h.on (hA.trans (hb1.mono hA.size))) hf hd)
 clear hb1
 go_wp2_with fail
 refine HLS.out.mono ?_
 rintro e w2 ⟨⟨v, ss, rfl, hperm, hown, hb2⟩, ho2⟩
 obtain ⟨A, cp, rfl, _⟩ := own_shape hown
 have HB2 : Hid (Below wA.heap.size wA w2) := bcall HB1.out hb2
 obtain ⟨n, hn⟩ : ∃ n, ss.length = n := ⟨_, rfl⟩
 have hln : (sortedN ss).length = n := by unfold sortedN; rw [List.length_mergeSort]; exact hn
 have hnb : n ≤ 1099511627776 := by
  obtain ⟨F, _, hdk, _⟩ := HO.out
  obtain ⟨n0, hc0, hm0⟩ := hdk.nam
  have h1 := hm0.size_le
  have h2 := hperm.length_eq
  rw [strKeys_length] at h2
  have h3 := hf.c1
  omega
 have HSL : Hid (Sl w2 w2.heap.size 1 A n ((sortedN ss).map encStr)) := by rw [hn] at hown; exact Sl.of_own hown
 have HSH : Hid (∀ s ∈ sortedN ss, s.length ≤ 1000) := fun s hs => hnm s (hperm.mem_iff.1 (List.mem_mergeSort.1 hs))
 have HPM := Lib.hid hperm
 rw [hn]
 obtain ⟨R, hR⟩ : ∃ R, latestD D ss = R := ⟨_, rfl⟩
 have HR := Lib.hid hR
 clear hown hb2 ho2 hn hperm hR HLS HDN
 go_wp2_with fail
 refine late_o w W wA w2 p D HO hT hE hA hg W.heap.size (Lib.hid ⟨HZ.out, Nat.le_refl _⟩) A n cp (sortedN ss) hnb hln HSL HSH HB2 R HR _ _ _ _ _ _ _ _ _ _ _ _ _ _ _ _ _ _ _ _ _ _ _ _ _ _ _ _ _ _ _ _ _ _ _ _ _ _ _ _ _ _ _ _ _ _ _ _ _ _ _ _ _ _ _ _ _ _ _ _ _ _ _ _ _ _ _ _ _ _ (fun c a a' w hd h => by cases a; cases a'; cases hd; exact h) ?_ ?_
 ·intro V v nx A2 m c2 L x6 u7 u8 u9 u10 u11 u12 u24 u25 u26 u27 u28 u29 u30 u31 u32 u33 u34 u35 u36 u37 u38 u39 u40 u41 u42 u43 u44 u45 u46 u47 u48 u49 u50 u51 u52 u53 u54 u55 u56 u57 u58 u59 u60 u61 u62 u63 u64 u65 u66 u67 u68 u69 u70 u71 HV
  go_wp2_with fail
  refine bodyPost_ret (results_cell3 rfl _ _ _ _ rfl (load_point HV.out.2.2.1 rfl)) rfl ?_
  refine ⟨ss, HPM.out, ?_, HO.out.on HV.out.2.1, HV.out.2.1⟩
  rw [HR.out, HV.out.1]
  exact ⟨A2, m, c2, rfl, HV.out.2.2.2.1, HV.out.2.2.2.2⟩
 ·intro V x6 u2 u4 u7 u8 u9 u10 u11 u12 u24 u25 u26 u27 u28 u29 u30 u31 u32 u33 u34 u35 u36 u37 u38 u39 u40 u41 u42 u43 u44 u45 u46 u47 u48 u49 u50 u51 u52 u53 u54 u55 u56 u57 u58 u59 u60 u61 u62 u63 u64 u65 u66 u67 u68 u69 u70 u71 HV
  have hkz := (HV.out.2.block W.heap.size (Array.getElem?_eq_some_iff.1 hZ).1).trans hZ
  obtain ⟨y0, y1, j0, j1⟩ := cells2 hkz
  have HKZ := Lib.hid hkz
  clear hkz
  go_wp2_with fail
  refine bodyPost_ret (results_cell3 rfl _ _ _ _ rfl (load_point (two_set HKZ.out _ _) rfl)) rfl ?_
  have hbv : Below W.heap.size W V := hA.trans (HV.out.2.mono hA.size)
  refine ⟨ss, HPM.out, ?_, HO.out.on ((hbv.setCell (Nat.le_refl _) _).setCell (Nat.le_refl _) _), (hbv.setCell (Nat.le_refl _) _).setCell (Nat.le_refl _) _⟩
  rw [HR.out, HV.out.1]
  rfl
end Go.Proofs.YtkhemhiifhggmaaGreatDoor
