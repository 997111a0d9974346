/- glossref20.Check: the loop. -/
import Derived.Test.YtkhemhiifhggmaaGreatDoorHPr6
import Derived.Test.YtkhemhiifhggmaaGreatDoorHPr8
set_option maxRecDepth 100000
set_option maxHeartbeats 40000000
namespace Go.Proofs.YtkhemhiifhggmaaGreatDoor
open Go.RowKit Go.Maps
set_option linter.unusedVariables false
theorem lastOf_pos {next : Int} : ∀ {l : List Sg} {x : Int}, 0 ≤ x → segsOk next x l → 0 ≤ lastOf x l
 | [], _, h, _ => h
 | s :: r, x, h, hs => lastOf_pos (x := s.id) (by have := hs.1.1; omega) hs.2
theorem rcheck_o (w W0 : World) (B : Nat) (hB : B ≤ w.heap.size) (A : Option Addr) (n c : Nat) (l : List Sg) (HS : Hid (SegsIn w B A n l)) (hn : n ≤ 4398046511104) (next : Int) (pb : Nat) (hpb : w.heap.size = pb)
  (HP : Hid (∀ W, Below (w.heap.size + 1) W0 W → W.cell? ⟨pb, 0, none⟩ = some (.int .i64 next) ∧ W.cell? ⟨pb, 1, none⟩ = some (.slice A n c))) (HW : Hid (Below w.heap.size w W0 ∧ w.heap.size + 1 ≤ W0.heap.size))
  (c0 c5 c6 c7 c8 c9 c10 c11 c12 u2 u4 u13 u14 u15 u16 u17 u18 u19 u20 u21 u22 u23 u24 u25 u26 u27 u28 u29 u30 u31 u32 u33 u34 u35 u36 u37 u38 u39 u40 u41 u42 u43 u44 u45 u46 u47 u48 u49 u50 u51 u52 u53 u54 u55 u56 u57 u58 u59 u60 u61 u62 u63 u64 u65 u66 u67 u68 u69 u70 u71 u72 u73 u74 u75 u76 u77 u78 u79 u80 u81 u82 u83 u84 u85 u86 u87 u88 u89 u90 u91 u92 u93 u94 u95 u96 u97 : Value) (Q0 : Exit → Act → World → Prop) (hQ0 : ∀ c (a a' : Act) w, a.defers = a'.defers → Q0 (.panic c) a w → Q0 (.panic c) a' w)
  (hret : ∀ (W : World) (x3 u4 u13 u14 u15 u16 u17 u18 u19 u20 u21 u22 u23 u24 u25 u26 u27 u28 u29 u30 u31 u32 u33 u34 u35 u36 u37 u38 u39 u40 u41 u42 u43 u44 u45 u46 u47 u48 u49 u50 u51 u52 u53 u54 u55 u56 u57 u58 u59 u60 u61 u62 u63 u64 u65 u66 u67 u68 u69 u70 u71 u72 u73 u74 u75 u76 u77 u78 u79 u80 u81 u82 u83 u84 u85 u86 u87 u88 u89 u90 u91 u92 u93 u94 u95 u96 u97 : Value), Hid (Below w.heap.size w W) → Hid (¬ segsOk next 0 l) → Q0 .ret ⟨List.toArray (c0 :: .pointer (some ⟨pb, 0, none⟩) :: .int .i64 1 :: x3 :: u4 :: c5 :: c6 :: c7 :: c8 :: c9 :: c10 :: c11 :: c12 :: u13 :: u14 :: u15 :: u16 :: u17 :: u18 :: u19 :: u20 :: u21 :: u22 :: u23 :: u24 :: u25 :: u26 :: u27 :: u28 :: u29 :: u30 :: u31 :: u32 :: u33 :: u34 :: u35 :: u36 :: u37 :: u38 :: u39 :: u40 :: u41 :: u42 :: u43 :: u44 :: u45 :: u46 :: u47 :: u48 :: u49 :: u50 :: u51 :: u52 :: u53 :: u54 :: u55 :: u56 :: u57 :: u58 :: u59 :: u60 :: u61 :: u62 :: u63 :: u64 :: u65 :: u66 :: u67 :: u68 :: u69 :: u70 :: u71 :: u72 :: u73 :: u74 :: u75 :: u76 :: u77 :: u78 :: u79 :: u80 :: u81 :: u82 :: u83 :: u84 :: u85 :: u86 :: u87 :: u88 :: u89 :: u90 :: u91 :: u92 :: u93 :: u94 :: u95 :: u96 :: u97 :: []), []⟩ W)
  (hexit : ∀ (W : World) (x3 u2 u4 u13 u14 u15 u16 u17 u18 u19 u20 u21 u22 u23 u24 u25 u26 u27 u28 u29 u30 u31 u32 u33 u34 u35 u36 u37 u38 u39 u40 u41 u42 u43 u44 u45 u46 u47 u48 u49 u50 u51 u52 u53 u54 u55 u56 u57 u58 u59 u60 u61 u62 u63 u64 u65 u66 u67 u68 u69 u70 u71 u72 u73 u74 u75 u76 u77 u78 u79 u80 u81 u82 u83 u84 u85 u86 u87 u88 u89 u90 u91 u92 u93 u94 u95 u96 u97 : Value), Hid (Below w.heap.size w W) → Hid (segsOk next 0 l) → Q0 (.exit 0) ⟨List.toArray (c0 :: .pointer (some ⟨pb, 0, none⟩) :: u2 :: x3 :: u4 :: c5 :: c6 :: c7 :: c8 :: c9 :: c10 :: c11 :: c12 :: u13 :: u14 :: u15 :: u16 :: u17 :: u18 :: u19 :: u20 :: u21 :: u22 :: u23 :: u24 :: u25 :: u26 :: u27 :: u28 :: u29 :: u30 :: u31 :: u32 :: u33 :: u34 :: u35 :: u36 :: u37 :: u38 :: u39 :: u40 :: u41 :: u42 :: u43 :: u44 :: u45 :: u46 :: u47 :: u48 :: u49 :: u50 :: u51 :: u52 :: u53 :: u54 :: u55 :: u56 :: u57 :: u58 :: u59 :: u60 :: u61 :: u62 :: u63 :: u64 :: u65 :: u66 :: u67 :: u68 :: u69 :: u70 :: u71 :: u72 :: u73 :: u74 :: u75 :: u76 :: u77 :: u78 :: u79 :: u80 :: u81 :: u82 :: u83 :: u84 :: u85 :: u86 :: u87 :: u88 :: u89 :: u90 :: u91 :: u92 :: u93 :: u94 :: u95 :: u96 :: u97 :: []), []⟩ W) :
  Code.wp Tryz.prog (.loop (loopOf Tryz.f11 0)) Q0 ⟨List.toArray (c0 :: .pointer (some ⟨pb, 0, none⟩) :: u2 :: .int .i64 (0 : Int) :: u4 :: c5 :: c6 :: c7 :: c8 :: c9 :: c10 :: c11 :: c12 :: u13 :: u14 :: u15 :: u16 :: u17 :: u18 :: u19 :: u20 :: u21 :: u22 :: u23 :: u24 :: u25 :: u26 :: u27 :: u28 :: u29 :: u30 :: u31 :: u32 :: u33 :: u34 :: u35 :: u36 :: u37 :: u38 :: u39 :: u40 :: u41 :: u42 :: u43 :: u44 :: u45 :: u46 :: u47 :: u48 :: u49 :: u50 :: u51 :: u52 :: u53 :: u54 :: u55 :: u56 :: u57 :: u58 :: u59 :: u60 :: u61 :: u62 :: u63 :: u64 :: u65 :: u66 :: u67 :: u68 :: u69 :: u70 :: u71 :: u72 :: u73 :: u74 :: u75 :: u76 :: u77 :: u78 :: u79 :: u80 :: u81 :: u82 :: u83 :: u84 :: u85 :: u86 :: u87 :: u88 :: u89 :: u90 :: u91 :: u92 :: u93 :: u94 :: u95 :: u96 :: u97 :: []), []⟩ W0 := by
 have hlen := HS.out.2
 conv => arg 2; arg 1; whnf
 go_loopw [3] (fun iv wr => ∃ i : Nat, i ≤ n ∧ iv = .int .i64 (i : Int) ∧ Hid (Below (w.heap.size + 1) W0 wr) ∧ Hid (segsOk next 0 (l.take i))) (fun iv _ => n - (intOf iv).toNat)
 case atStart => exact ⟨0, Nat.zero_le _, rfl, Lib.hid ((brefl W0).mono HW.out.2), Lib.hid trivial⟩
 case round =>
  obtain ⟨i, hi, rfl, HB, HI⟩ := hrel
  have hbs := HB.out.size
  have hws := HW.out.2
  have HBW : Hid (Below w.heap.size w wr) := HW.out.1.trans (HB.out.mono (by omega))
  obtain ⟨hpw, hpw1⟩ := HP.out wr HB.out
  by_cases hin : i < n
  ·obtain ⟨s, hs⟩ : ∃ s, l[i]? = some s := ⟨l[i]'(by omega), List.getElem?_eq_getElem _⟩
   have HSW := Lib.hid (HS.out.keep (HBW.out.mono hB))
   obtain ⟨b, off, rfl, hb, c0, c1, c2, c3⟩ := HSW.out.at_ hs
   have q0 : decide ((i : Int) < (n : Int)) = true := decide_eq_true (by omega)
   have HTK : Hid (l.take (i + 1) = l.take i ++ [s]) := by show _ = _; rw [List.take_add_one, hs]; rfl
   have HSPL : Hid (l = l.take (i + 1) ++ l.drop (i + 1)) := (List.take_append_drop ..).symm
   obtain ⟨LO, hLO⟩ : ∃ LO, lastOf 0 (l.take i) = LO := ⟨_, rfl⟩
   have HLO := Lib.hid hLO
   obtain ⟨id, docs, gen, gone⟩ := s
   simp only at c0 c1 c2 c3
   obtain ⟨W1, hW1⟩ : ∃ W1, wr.alloc (.cells #[.int .i64 id, .int .i64 docs, .int .i64 gen, .int .i64 gone] 61) = W1 := ⟨_, rfl⟩
   have hba : Below wr.heap.size wr W1 := by rw [← hW1]; exact bnew (brefl wr) _
   have hx1 : W1.heap[wr.heap.size]? = some (.cells #[.int .i64 id, .int .i64 docs, .int .i64 gen, .int .i64 gone] 61 (0, 0)) := by rw [← hW1]; exact heap_alloc_new _ _
   have HBN : Hid (Below (w.heap.size + 1) W0 W1) := HB.out.trans (hba.mono (by omega))
   have HBA2 := Lib.hid (HBW.out.trans (hba.mono HBW.out.size))
   have s0 := cell_of_row W1 wr.heap.size 0 _ _ (0, 0) hx1
   have s1 := cell_of_row W1 wr.heap.size 1 _ _ (0, 0) hx1
   have s2 := cell_of_row W1 wr.heap.size 2 _ _ (0, 0) hx1
   have s3 := cell_of_row W1 wr.heap.size 3 _ _ (0, 0) hx1
   simp at s0 s1 s2 s3
   obtain ⟨k0, k1⟩ := HP.out W1 HBN.out
   have HBAD : Hid (¬ Sg.ok next LO ⟨id, docs, gen, gone⟩ → ¬ segsOk next 0 l) := fun hno hall => hno (by
    rw [HSPL.out, HTK.out, List.append_assoc, segsOk_append] at hall
    have h2 := hall.2
    rw [HLO.out] at h2
    exact h2.1)
   have hlo0 : 0 ≤ LO := by
    rw [← hLO]
    exact lastOf_pos (Int.le_refl _) HI.out
   have HWE := Lib.hid hW1
   clear hs hW1 hba hx1
   by_cases h00 : i = 0
   ·have pi : decide (0 < i) = false := decide_eq_false (by omega)
    have hLO0 : LO = 0 := by rw [← hLO, h00]; rfl
    subst hLO0
    have H00 := Lib.hid h00
    clear hLO h00
    by_cases h0 : id < 1
    ·have p0 : decide (id < 1) = true := decide_eq_true h0
     have HNO := HBAD.out (fun h => by unfold Sg.ok at h; simp only at h; omega)
     have HNO := Lib.hid HNO
     clear h0 hexit
     go_wp2_with fail
     rw [HWE.out]
     go_quiet (fail)
     go_wp2_with fail
     exact hret _ _ _ _ _ _ _ _ _ _ _ _ _ _ _ _ _ _ _ _ _ _ _ _ _ _ _ _ _ _ _ _ _ _ _ _ _ _ _ _ _ _ _ _ _ _ _ _ _ _ _ _ _ _ _ _ _ _ _ _ _ _ _ _ _ _ _ _ _ _ _ _ _ _ _ _ _ _ _ _ _ _ _ _ _ _ _ _ (Lib.hid (below_drewN HBA2.out nq)) HNO
    have p0 : decide (id < 1) = false := decide_eq_false h0
    by_cases h1 : id ≥ next
    ·have p1 : decide (id ≥ next) = true := decide_eq_true h1
     have HNO := HBAD.out (fun h => by unfold Sg.ok at h; simp only at h; omega)
     have HNO := Lib.hid HNO
     clear h1 hexit
     go_wp2_with fail
     rw [HWE.out]
     go_quiet (fail)
     go_wp2_with fail
     exact hret _ _ _ _ _ _ _ _ _ _ _ _ _ _ _ _ _ _ _ _ _ _ _ _ _ _ _ _ _ _ _ _ _ _ _ _ _ _ _ _ _ _ _ _ _ _ _ _ _ _ _ _ _ _ _ _ _ _ _ _ _ _ _ _ _ _ _ _ _ _ _ _ _ _ _ _ _ _ _ _ _ _ _ _ _ _ _ _ (Lib.hid (below_drewN HBA2.out nq)) HNO
    have p1 : decide (id ≥ next) = false := decide_eq_false h1
    by_cases h2 : docs < 1
    ·have p2 : decide (docs < 1) = true := decide_eq_true h2
     have HNO := HBAD.out (fun h => by unfold Sg.ok at h; simp only at h; omega)
     have HNO := Lib.hid HNO
     clear h2 hexit
     go_wp2_with fail
     rw [HWE.out]
     go_quiet (fail)
     go_wp2_with fail
     exact hret _ _ _ _ _ _ _ _ _ _ _ _ _ _ _ _ _ _ _ _ _ _ _ _ _ _ _ _ _ _ _ _ _ _ _ _ _ _ _ _ _ _ _ _ _ _ _ _ _ _ _ _ _ _ _ _ _ _ _ _ _ _ _ _ _ _ _ _ _ _ _ _ _ _ _ _ _ _ _ _ _ _ _ _ _ _ _ _ (Lib.hid (below_drewN HBA2.out nq)) HNO
    have p2 : decide (docs < 1) = false := decide_eq_false h2
    by_cases h3 : docs > 1048576
    ·have p3 : decide (docs > 1048576) = true := decide_eq_true h3
     have HNO := HBAD.out (fun h => by unfold Sg.ok at h; simp only at h; omega)
     have HNO := Lib.hid HNO
     clear h3 hexit
     go_wp2_with fail
     rw [HWE.out]
     go_quiet (fail)
     go_wp2_with fail
     exact hret _ _ _ _ _ _ _ _ _ _ _ _ _ _ _ _ _ _ _ _ _ _ _ _ _ _ _ _ _ _ _ _ _ _ _ _ _ _ _ _ _ _ _ _ _ _ _ _ _ _ _ _ _ _ _ _ _ _ _ _ _ _ _ _ _ _ _ _ _ _ _ _ _ _ _ _ _ _ _ _ _ _ _ _ _ _ _ _ (Lib.hid (below_drewN HBA2.out nq)) HNO
    have p3 : decide (docs > 1048576) = false := decide_eq_false h3
    by_cases h4 : gone < 0
    ·have p4 : decide (gone < 0) = true := decide_eq_true h4
     have HNO := HBAD.out (fun h => by unfold Sg.ok at h; simp only at h; omega)
     have HNO := Lib.hid HNO
     clear h4 hexit
     go_wp2_with fail
     rw [HWE.out]
     go_quiet (fail)
     go_wp2_with fail
     exact hret _ _ _ _ _ _ _ _ _ _ _ _ _ _ _ _ _ _ _ _ _ _ _ _ _ _ _ _ _ _ _ _ _ _ _ _ _ _ _ _ _ _ _ _ _ _ _ _ _ _ _ _ _ _ _ _ _ _ _ _ _ _ _ _ _ _ _ _ _ _ _ _ _ _ _ _ _ _ _ _ _ _ _ _ _ _ _ _ (Lib.hid (below_drewN HBA2.out nq)) HNO
    have p4 : decide (gone < 0) = false := decide_eq_false h4
    by_cases h5 : gone > docs
    ·have p5 : decide (gone > docs) = true := decide_eq_true h5
     have HNO := HBAD.out (fun h => by unfold Sg.ok at h; simp only at h; omega)
     have HNO := Lib.hid HNO
     clear h5 hexit
     go_wp2_with fail
     rw [HWE.out]
     go_quiet (fail)
     go_wp2_with fail
     exact hret _ _ _ _ _ _ _ _ _ _ _ _ _ _ _ _ _ _ _ _ _ _ _ _ _ _ _ _ _ _ _ _ _ _ _ _ _ _ _ _ _ _ _ _ _ _ _ _ _ _ _ _ _ _ _ _ _ _ _ _ _ _ _ _ _ _ _ _ _ _ _ _ _ _ _ _ _ _ _ _ _ _ _ _ _ _ _ _ (Lib.hid (below_drewN HBA2.out nq)) HNO
    have p5 : decide (gone > docs) = false := decide_eq_false h5
    by_cases o0 : gone = 0
    ·by_cases g0 : gen = 0
     ·have p8 : (gone == 0) = true := by simpa using o0
      have p9 : (gen != 0) = false := by simpa using g0
      have p10 : decide (gone > 0) = false := decide_eq_false (by omega)
      have HOK : Hid (segsOk next 0 (l.take (i + 1))) := by
       show segsOk _ _ _
       rw [HTK.out, segsOk_append, HLO.out]
       refine ⟨HI.out, ?_, trivial⟩
       unfold Sg.ok
       simp only
       omega
      clear hret hexit
      clear o0 g0
      go_wp2_with fail
      rw [HWE.out]
      go_quiet (fail)
      go_wp2_with fail
      skip
      all_goals
       go_roundw
       case rel => exact ⟨i + 1, by omega, by go_num, below_drewN HBN.out nq, HOK⟩
       case measure => simp [intOf]; omega
     ·have p8 : (gone == 0) = true := by simpa using o0
      have p9 : (gen != 0) = true := by simpa using g0
      have HNO := Lib.hid (HBAD.out (fun h => by unfold Sg.ok at h; simp only at h; omega))
      clear hexit
      clear o0 g0
      go_wp2_with fail
      rw [HWE.out]
      go_quiet (fail)
      go_wp2_with fail
      skip
      all_goals exact hret _ _ _ _ _ _ _ _ _ _ _ _ _ _ _ _ _ _ _ _ _ _ _ _ _ _ _ _ _ _ _ _ _ _ _ _ _ _ _ _ _ _ _ _ _ _ _ _ _ _ _ _ _ _ _ _ _ _ _ _ _ _ _ _ _ _ _ _ _ _ _ _ _ _ _ _ _ _ _ _ _ _ _ _ _ _ _ _ (Lib.hid (below_drewN HBA2.out nq)) HNO
    ·have p8 : (gone == 0) = false := by simpa using o0
     have p10 : decide (gone > 0) = true := decide_eq_true (by omega)
     by_cases g1 : gen < 1
     ·have p11 : decide (gen < 1) = true := decide_eq_true g1
      have HNO := Lib.hid (HBAD.out (fun h => by unfold Sg.ok at h; simp only at h; omega))
      clear hexit
      clear o0 g1
      go_wp2_with fail
      rw [HWE.out]
      go_quiet (fail)
      go_wp2_with fail
      skip
      all_goals exact hret _ _ _ _ _ _ _ _ _ _ _ _ _ _ _ _ _ _ _ _ _ _ _ _ _ _ _ _ _ _ _ _ _ _ _ _ _ _ _ _ _ _ _ _ _ _ _ _ _ _ _ _ _ _ _ _ _ _ _ _ _ _ _ _ _ _ _ _ _ _ _ _ _ _ _ _ _ _ _ _ _ _ _ _ _ _ _ _ (Lib.hid (below_drewN HBA2.out nq)) HNO
     ·by_cases g2 : gen ≥ next
      ·have p11 : decide (gen < 1) = false := decide_eq_false g1
       have p12 : decide (gen ≥ next) = true := decide_eq_true g2
       have HNO := Lib.hid (HBAD.out (fun h => by unfold Sg.ok at h; simp only at h; omega))
       clear hexit
       clear o0 g1 g2
       go_wp2_with fail
       rw [HWE.out]
       go_quiet (fail)
       go_wp2_with fail
       skip
       all_goals exact hret _ _ _ _ _ _ _ _ _ _ _ _ _ _ _ _ _ _ _ _ _ _ _ _ _ _ _ _ _ _ _ _ _ _ _ _ _ _ _ _ _ _ _ _ _ _ _ _ _ _ _ _ _ _ _ _ _ _ _ _ _ _ _ _ _ _ _ _ _ _ _ _ _ _ _ _ _ _ _ _ _ _ _ _ _ _ _ _ (Lib.hid (below_drewN HBA2.out nq)) HNO
      ·have p11 : decide (gen < 1) = false := decide_eq_false g1
       have p12 : decide (gen ≥ next) = false := decide_eq_false g2
       have HOK : Hid (segsOk next 0 (l.take (i + 1))) := by
        show segsOk _ _ _
        rw [HTK.out, segsOk_append, HLO.out]
        refine ⟨HI.out, ?_, trivial⟩
        unfold Sg.ok
        simp only
        omega
       clear hret hexit
       clear o0 g1 g2
       go_wp2_with fail
       rw [HWE.out]
       go_quiet (fail)
       go_wp2_with fail
       skip
       all_goals
        go_roundw
        case rel => exact ⟨i + 1, by omega, by go_num, below_drewN HBN.out nq, HOK⟩
        case measure => simp [intOf]; omega
   ·obtain ⟨j, rfl⟩ : ∃ j, i = j + 1 := ⟨i - 1, by omega⟩
    have pi : decide (((j + 1 : Nat) : Int) > 0) = true := decide_eq_true (by omega)
    obtain ⟨s', hs'⟩ : ∃ s', l[j]? = some s' := ⟨l[j]'(by omega), List.getElem?_eq_getElem _⟩
    have hlo : s'.id = LO := by rw [← hLO, List.take_add_one, hs']; exact (lastOf_snoc _ _ _).symm
    obtain ⟨b', off', e', _, d0, _, _, _⟩ := (HS.out.keep (HBA2.out.mono hB)).at_ hs'
    injection e' with e'
    injection e' with e1 e2
    subst e1 e2
    rw [hlo] at d0
    have ij1 : ((j : Int) + 1) - 1 = (j : Int) := by omega
    have ij2 : wrap64 ((j : Int) + 1 - 1) = (j : Int) := by rw [ij1]; unfold wrap64; omega
    clear hs' hlo hLO
    by_cases h0 : id < 1
    ·have p0 : decide (id < 1) = true := decide_eq_true h0
     have HNO := HBAD.out (fun h => by unfold Sg.ok at h; simp only at h; omega)
     have HNO := Lib.hid HNO
     clear h0 hexit
     go_wp2_with fail
     rw [HWE.out]
     go_quiet (fail)
     go_wp2_with fail
     exact hret _ _ _ _ _ _ _ _ _ _ _ _ _ _ _ _ _ _ _ _ _ _ _ _ _ _ _ _ _ _ _ _ _ _ _ _ _ _ _ _ _ _ _ _ _ _ _ _ _ _ _ _ _ _ _ _ _ _ _ _ _ _ _ _ _ _ _ _ _ _ _ _ _ _ _ _ _ _ _ _ _ _ _ _ _ _ _ _ (Lib.hid (below_drewN HBA2.out nq)) HNO
    have p0 : decide (id < 1) = false := decide_eq_false h0
    by_cases h1 : id ≥ next
    ·have p1 : decide (id ≥ next) = true := decide_eq_true h1
     have HNO := HBAD.out (fun h => by unfold Sg.ok at h; simp only at h; omega)
     have HNO := Lib.hid HNO
     clear h1 hexit
     go_wp2_with fail
     rw [HWE.out]
     go_quiet (fail)
     go_wp2_with fail
     exact hret _ _ _ _ _ _ _ _ _ _ _ _ _ _ _ _ _ _ _ _ _ _ _ _ _ _ _ _ _ _ _ _ _ _ _ _ _ _ _ _ _ _ _ _ _ _ _ _ _ _ _ _ _ _ _ _ _ _ _ _ _ _ _ _ _ _ _ _ _ _ _ _ _ _ _ _ _ _ _ _ _ _ _ _ _ _ _ _ (Lib.hid (below_drewN HBA2.out nq)) HNO
    have p1 : decide (id ≥ next) = false := decide_eq_false h1
    by_cases h2 : id ≤ LO
    ·have p2 : decide (id ≤ LO) = true := decide_eq_true h2
     have HNO := HBAD.out (fun h => by unfold Sg.ok at h; simp only at h; omega)
     have HNO := Lib.hid HNO
     clear h2 hexit
     go_wp2_with fail
     rw [HWE.out]
     go_quiet (fail)
     go_wp2_with fail
     exact hret _ _ _ _ _ _ _ _ _ _ _ _ _ _ _ _ _ _ _ _ _ _ _ _ _ _ _ _ _ _ _ _ _ _ _ _ _ _ _ _ _ _ _ _ _ _ _ _ _ _ _ _ _ _ _ _ _ _ _ _ _ _ _ _ _ _ _ _ _ _ _ _ _ _ _ _ _ _ _ _ _ _ _ _ _ _ _ _ (Lib.hid (below_drewN HBA2.out nq)) HNO
    have p2 : decide (id ≤ LO) = false := decide_eq_false h2
    by_cases h3 : docs < 1
    ·have p3 : decide (docs < 1) = true := decide_eq_true h3
     have HNO := HBAD.out (fun h => by unfold Sg.ok at h; simp only at h; omega)
     have HNO := Lib.hid HNO
     clear h3 hexit
     go_wp2_with fail
     rw [HWE.out]
     go_quiet (fail)
     go_wp2_with fail
     exact hret _ _ _ _ _ _ _ _ _ _ _ _ _ _ _ _ _ _ _ _ _ _ _ _ _ _ _ _ _ _ _ _ _ _ _ _ _ _ _ _ _ _ _ _ _ _ _ _ _ _ _ _ _ _ _ _ _ _ _ _ _ _ _ _ _ _ _ _ _ _ _ _ _ _ _ _ _ _ _ _ _ _ _ _ _ _ _ _ (Lib.hid (below_drewN HBA2.out nq)) HNO
    have p3 : decide (docs < 1) = false := decide_eq_false h3
    by_cases h4 : docs > 1048576
    ·have p4 : decide (docs > 1048576) = true := decide_eq_true h4
     have HNO := HBAD.out (fun h => by unfold Sg.ok at h; simp only at h; omega)
     have HNO := Lib.hid HNO
     clear h4 hexit
     go_wp2_with fail
     rw [HWE.out]
     go_quiet (fail)
     go_wp2_with fail
     exact hret _ _ _ _ _ _ _ _ _ _ _ _ _ _ _ _ _ _ _ _ _ _ _ _ _ _ _ _ _ _ _ _ _ _ _ _ _ _ _ _ _ _ _ _ _ _ _ _ _ _ _ _ _ _ _ _ _ _ _ _ _ _ _ _ _ _ _ _ _ _ _ _ _ _ _ _ _ _ _ _ _ _ _ _ _ _ _ _ (Lib.hid (below_drewN HBA2.out nq)) HNO
    have p4 : decide (docs > 1048576) = false := decide_eq_false h4
    by_cases h5 : gone < 0
    ·have p5 : decide (gone < 0) = true := decide_eq_true h5
     have HNO := HBAD.out (fun h => by unfold Sg.ok at h; simp only at h; omega)
     have HNO := Lib.hid HNO
     clear h5 hexit
     go_wp2_with fail
     rw [HWE.out]
     go_quiet (fail)
     go_wp2_with fail
     exact hret _ _ _ _ _ _ _ _ _ _ _ _ _ _ _ _ _ _ _ _ _ _ _ _ _ _ _ _ _ _ _ _ _ _ _ _ _ _ _ _ _ _ _ _ _ _ _ _ _ _ _ _ _ _ _ _ _ _ _ _ _ _ _ _ _ _ _ _ _ _ _ _ _ _ _ _ _ _ _ _ _ _ _ _ _ _ _ _ (Lib.hid (below_drewN HBA2.out nq)) HNO
    have p5 : decide (gone < 0) = false := decide_eq_false h5
    by_cases h6 : gone > docs
    ·have p6 : decide (gone > docs) = true := decide_eq_true h6
     have HNO := HBAD.out (fun h => by unfold Sg.ok at h; simp only at h; omega)
     have HNO := Lib.hid HNO
     clear h6 hexit
     go_wp2_with fail
     rw [HWE.out]
     go_quiet (fail)
     go_wp2_with fail
     exact hret _ _ _ _ _ _ _ _ _ _ _ _ _ _ _ _ _ _ _ _ _ _ _ _ _ _ _ _ _ _ _ _ _ _ _ _ _ _ _ _ _ _ _ _ _ _ _ _ _ _ _ _ _ _ _ _ _ _ _ _ _ _ _ _ _ _ _ _ _ _ _ _ _ _ _ _ _ _ _ _ _ _ _ _ _ _ _ _ (Lib.hid (below_drewN HBA2.out nq)) HNO
    have p6 : decide (gone > docs) = false := decide_eq_false h6
    by_cases o0 : gone = 0
    ·by_cases g0 : gen = 0
     ·have p8 : (gone == 0) = true := by simpa using o0
      have p9 : (gen != 0) = false := by simpa using g0
      have p10 : decide (gone > 0) = false := decide_eq_false (by omega)
      have HOK : Hid (segsOk next 0 (l.take (j + 1 + 1))) := by
       show segsOk _ _ _
       rw [HTK.out, segsOk_append, HLO.out]
       refine ⟨HI.out, ?_, trivial⟩
       unfold Sg.ok
       simp only
       omega
      clear hret hexit
      clear o0 g0
      go_wp2_with fail
      rw [HWE.out]
      go_quiet (fail)
      go_wp2_with fail
      skip
      all_goals
       go_roundw
       case rel => exact ⟨j + 1 + 1, by omega, by go_num, below_drewN HBN.out nq, HOK⟩
       case measure => simp [intOf]; omega
     ·have p8 : (gone == 0) = true := by simpa using o0
      have p9 : (gen != 0) = true := by simpa using g0
      have HNO := Lib.hid (HBAD.out (fun h => by unfold Sg.ok at h; simp only at h; omega))
      clear hexit
      clear o0 g0
      go_wp2_with fail
      rw [HWE.out]
      go_quiet (fail)
      go_wp2_with fail
      skip
      all_goals exact hret _ _ _ _ _ _ _ _ _ _ _ _ _ _ _ _ _ _ _ _ _ _ _ _ _ _ _ _ _ _ _ _ _ _ _ _ _ _ _ _ _ _ _ _ _ _ _ _ _ _ _ _ _ _ _ _ _ _ _ _ _ _ _ _ _ _ _ _ _ _ _ _ _ _ _ _ _ _ _ _ _ _ _ _ _ _ _ _ (Lib.hid (below_drewN HBA2.out nq)) HNO
    ·have p8 : (gone == 0) = false := by simpa using o0
     have p10 : decide (gone > 0) = true := decide_eq_true (by omega)
     by_cases g1 : gen < 1
     ·have p11 : decide (gen < 1) = true := decide_eq_true g1
      have HNO := Lib.hid (HBAD.out (fun h => by unfold Sg.ok at h; simp only at h; omega))
      clear hexit
      clear o0 g1
      go_wp2_with fail
      rw [HWE.out]
      go_quiet (fail)
      go_wp2_with fail
      skip
      all_goals exact hret _ _ _ _ _ _ _ _ _ _ _ _ _ _ _ _ _ _ _ _ _ _ _ _ _ _ _ _ _ _ _ _ _ _ _ _ _ _ _ _ _ _ _ _ _ _ _ _ _ _ _ _ _ _ _ _ _ _ _ _ _ _ _ _ _ _ _ _ _ _ _ _ _ _ _ _ _ _ _ _ _ _ _ _ _ _ _ _ (Lib.hid (below_drewN HBA2.out nq)) HNO
     ·by_cases g2 : gen ≥ next
      ·have p11 : decide (gen < 1) = false := decide_eq_false g1
       have p12 : decide (gen ≥ next) = true := decide_eq_true g2
       have HNO := Lib.hid (HBAD.out (fun h => by unfold Sg.ok at h; simp only at h; omega))
       clear hexit
       clear o0 g1 g2
       go_wp2_with fail
       rw [HWE.out]
       go_quiet (fail)
       go_wp2_with fail
       skip
       all_goals exact hret _ _ _ _ _ _ _ _ _ _ _ _ _ _ _ _ _ _ _ _ _ _ _ _ _ _ _ _ _ _ _ _ _ _ _ _ _ _ _ _ _ _ _ _ _ _ _ _ _ _ _ _ _ _ _ _ _ _ _ _ _ _ _ _ _ _ _ _ _ _ _ _ _ _ _ _ _ _ _ _ _ _ _ _ _ _ _ _ (Lib.hid (below_drewN HBA2.out nq)) HNO
      ·have p11 : decide (gen < 1) = false := decide_eq_false g1
       have p12 : decide (gen ≥ next) = false := decide_eq_false g2
       have HOK : Hid (segsOk next 0 (l.take (j + 1 + 1))) := by
        show segsOk _ _ _
        rw [HTK.out, segsOk_append, HLO.out]
        refine ⟨HI.out, ?_, trivial⟩
        unfold Sg.ok
        simp only
        omega
       clear hret hexit
       clear o0 g1 g2
       go_wp2_with fail
       rw [HWE.out]
       go_quiet (fail)
       go_wp2_with fail
       skip
       all_goals
        go_roundw
        case rel => exact ⟨j + 1 + 1, by omega, by go_num, below_drewN HBN.out nq, HOK⟩
        case measure => simp [intOf]; omega
  ·obtain rfl : i = n := by omega
   have q0 : decide ((i : Int) < (i : Int)) = false := decide_eq_false (by omega)
   rw [← hlen, List.take_length] at HI
   go_wp2_with fail
   exact hexit wr _ _ _ _ _ _ _ _ _ _ _ _ _ _ _ _ _ _ _ _ _ _ _ _ _ _ _ _ _ _ _ _ _ _ _ _ _ _ _ _ _ _ _ _ _ _ _ _ _ _ _ _ _ _ _ _ _ _ _ _ _ _ _ _ _ _ _ _ _ _ _ _ _ _ _ _ _ _ _ _ _ _ _ _ _ _ _ _ HBW HI
end Go.Proofs.YtkhemhiifhggmaaGreatDoor
namespace Go.Proofs.YtkhemhiifhggmaaGreatDoor
open Go.RowKit Go.Maps
set_option linter.unusedVariables false
theorem rcheck_any (w : World) (B : Nat) (hB : B ≤ w.heap.size) (A : Option Addr) (n c : Nat) (l : List Sg) (HS : Hid (SegsIn w B A n l)) (hn : n ≤ 4398046511104) (next : Int) :
  Calls Tryz.prog 11 #[.agg #[.int .i64 next, .slice A n c]] w fun e w' => e = .returned (.int .i64 (checkP next l)) ∧ Below w.heap.size w w' := by
 have hpb := bnew (brefl w) (.cells #[.int .i64 next, .slice A n c] 24)
 have hnw := heap_alloc_new w (.cells #[.int .i64 next, .slice A n c] 24)
 by_cases h1 : next < 1
 ·have p0 : decide (next < 1) = true := decide_eq_true h1
  have HC : Hid (checkP next l = 1) := if_neg (fun h => by have := h.1; omega)
  have HB := Lib.hid hpb
  clear hpb hnw h1
  go_enter Tryz.func11, Tryz.ntmps11
  go_wp2_with fail
  go_ret
  exact ⟨by rw [HC.out]; rfl, HB.out⟩
 ·have p0 : decide (next < 1) = false := decide_eq_false h1
  by_cases h2 : next > 999999999
  ·have p1 : decide (next > 999999999) = true := decide_eq_true h2
   have HC : Hid (checkP next l = 1) := if_neg (fun h => by have := h.2.1; omega)
   have HB := Lib.hid hpb
   clear hpb hnw h1 h2
   go_enter Tryz.func11, Tryz.ntmps11
   go_wp2_with fail
   go_ret
   exact ⟨by rw [HC.out]; rfl, HB.out⟩
  ·have p1 : decide (next > 999999999) = false := decide_eq_false h2
   have HB := Lib.hid hpb
   have HNW := Lib.hid hnw
   clear hpb hnw
   go_enter Tryz.func11, Tryz.ntmps11
   go_wp2_with fail
   refine rcheck_o w _ B hB A n c l HS hn next w.heap.size rfl ?_ ?_ _ _ _ _ _ _ _ _ _ _ _ _ _ _ _ _ _ _ _ _ _ _ _ _ _ _ _ _ _ _ _ _ _ _ _ _ _ _ _ _ _ _ _ _ _ _ _ _ _ _ _ _ _ _ _ _ _ _ _ _ _ _ _ _ _ _ _ _ _ _ _ _ _ _ _ _ _ _ _ _ _ _ _ _ _ _ _ _ _ _ _ _ _ _ _ _ _ (fun c a a' w hd h => by cases a; cases a'; cases hd; exact h) ?_ ?_
   ·refine Lib.hid fun W h => ⟨?_, ?_⟩
    ·exact (h.cell (p := ⟨w.heap.size, 0, none⟩) (by show w.heap.size < _; omega)).trans (by simp)
    ·exact (h.cell (p := ⟨w.heap.size, 1, none⟩) (by show w.heap.size < _; omega)).trans (by simp)
   ·exact Lib.hid ⟨HB.out, by simp⟩
   ·intro W x3 u4 u13 u14 u15 u16 u17 u18 u19 u20 u21 u22 u23 u24 u25 u26 u27 u28 u29 u30 u31 u32 u33 u34 u35 u36 u37 u38 u39 u40 u41 u42 u43 u44 u45 u46 u47 u48 u49 u50 u51 u52 u53 u54 u55 u56 u57 u58 u59 u60 u61 u62 u63 u64 u65 u66 u67 u68 u69 u70 u71 u72 u73 u74 u75 u76 u77 u78 u79 u80 u81 u82 u83 u84 u85 u86 u87 u88 u89 u90 u91 u92 u93 u94 u95 u96 u97 HBW HO
    have HC : Hid (checkP next l = 1) := if_neg (fun h => HO.out h.2.2)
    go_wp2_with fail
    go_ret
    exact ⟨by rw [HC.out]; rfl, HBW.out⟩
   ·intro W x3 u2 u4 u13 u14 u15 u16 u17 u18 u19 u20 u21 u22 u23 u24 u25 u26 u27 u28 u29 u30 u31 u32 u33 u34 u35 u36 u37 u38 u39 u40 u41 u42 u43 u44 u45 u46 u47 u48 u49 u50 u51 u52 u53 u54 u55 u56 u57 u58 u59 u60 u61 u62 u63 u64 u65 u66 u67 u68 u69 u70 u71 u72 u73 u74 u75 u76 u77 u78 u79 u80 u81 u82 u83 u84 u85 u86 u87 u88 u89 u90 u91 u92 u93 u94 u95 u96 u97 HBW HO
    have HC : Hid (checkP next l = 0) := if_pos ⟨by omega, by omega, HO.out⟩
    go_wp2_with fail
    go_ret
    exact ⟨by rw [HC.out]; rfl, HBW.out⟩
end Go.Proofs.YtkhemhiifhggmaaGreatDoor
namespace Go.Proofs.YtkhemhiifhggmaaGreatDoor
open Go.RowKit Go.Maps
set_option linter.unusedVariables false
theorem rread_push {W w7 : World} {pp g j cap cq : Nat} {A' : Option Addr} {nx : Int} {C : List Value} {D : List Value} (hp : W.heap[pp]? = some (.cells #[.int .i64 nx, .slice A' j cq] 24 (0, 0))) (hne : some pp ≠ (Value.slice A' j cq).ownBlock) (ho : W.ownsRow (pp + 1) 61 4 (.slice A' j cq) j C)
  (hg : W.grownBy w7 (Value.slice A' j cq).ownBlock) (hown : w7.ownsRow (pp + 1) 61 4 (.slice (some ⟨g, 0, none⟩) (j + 1) cap) (j + 1) D) :
  Below pp W (w7.setCell ⟨pp, 1, none⟩ (.slice (some ⟨g, 0, none⟩) (j + 1) cap)) ∧ (w7.setCell ⟨pp, 1, none⟩ (.slice (some ⟨g, 0, none⟩) (j + 1) cap)).heap[pp]? = some (.cells #[.int .i64 nx, .slice (some ⟨g, 0, none⟩) (j + 1) cap] 24 (0, 0)) ∧
   (w7.setCell ⟨pp, 1, none⟩ (.slice (some ⟨g, 0, none⟩) (j + 1) cap)).ownsRow (pp + 1) 61 4 (.slice (some ⟨g, 0, none⟩) (j + 1) cap) (j + 1) D := by
 have hl := (Array.getElem?_eq_some_iff.1 hp).1
 have hb7 := (hg.block pp hl hne).trans hp
 refine ⟨?_, ?_, own_set hown (Nat.lt_succ_self _)⟩
 ·have h1 : Below pp W w7 := ⟨hg.os, hg.tape, hg.output, hg.size, fun k hk => hg.block k (by omega) (fun e => by
   have := (ho.lt k e.symm).1
   omega)⟩
  exact below_set h1 (Nat.le_refl _) (by omega)
 ·have := blk_set (j := 1) hb7 (.slice (some ⟨g, 0, none⟩) (j + 1) cap)
  simpa using this
theorem rread_r (W : World) (pp : Nat) (b off m cp I j cq : Nat) (A' : Option Addr) (nx : Int) (C : List Value) (hpb : b < pp) (hj : j ≤ 1099511627776) (hI : I + 3 < m) (hm : m ≤ 4398046511106)
  (HP : Hid (W.heap[pp]? = some (.cells #[.int .i64 nx, .slice A' j cq] 24 (0, 0)))) (HR : Hid (W.ownsRow (pp + 1) 61 4 (.slice A' j cq) j C)) (z0 z1 z2 z3 : Int)
  (e0 : W.cell? ⟨b, off + I, none⟩ = some (.int .i64 z0)) (e1 : W.cell? ⟨b, off + (I + 1), none⟩ = some (.int .i64 z1)) (e2 : W.cell? ⟨b, off + (I + 2), none⟩ = some (.int .i64 z2)) (e3 : W.cell? ⟨b, off + (I + 3), none⟩ = some (.int .i64 z3))
  (c0 c1 c2 c3 c4 c5 c7 c8 c9 c12 c13 c14 c15 c16 c17 c18 c19 c20 c21 c22 c23 c24 c25 c26 c27 c28 c29 c30 c31 c32 c33 c34 c35 c36 c37 c38 c39 c40 c41 c42 c43 c44 c45 c46 c47 c48 c49 c50 c51 c52 c53 c54 c55 c56 c57 c58 c59 c60 c61 c62 c63 c64 c65 c66 c67 c68 c69 c95 c96 c97 c98 c99 u70 u71 u72 u73 u74 u75 u76 u77 u78 u79 u80 u81 u82 u83 u84 u85 u86 u87 u88 u89 u90 u91 u92 u93 u94 : Value) (Q0 : Exit → Act → World → Prop) (hQ0 : ∀ c (a a' : Act) w, a.defers = a'.defers → Q0 (.panic c) a w → Q0 (.panic c) a' w)
  (hnext : ∀ (A2 : Option Addr) (kk : Nat) (W' : World) (u70 u71 u72 u73 u74 u75 u76 u77 u78 u79 u80 u81 u82 u83 u84 u85 u86 u87 u88 u89 u90 u91 u92 u93 u94 : Value), Hid (Below pp W W') → Hid (W'.heap[pp]? = some (.cells #[.int .i64 nx, .slice A2 (j + 1) kk] 24 (0, 0))) → Hid (W'.ownsRow (pp + 1) 61 4 (.slice A2 (j + 1) kk) (j + 1) (C ++ [.int .i64 z0, .int .i64 z1, .int .i64 z2, .int .i64 z3])) → Q0 .normal ⟨List.toArray (c0 :: c1 :: c2 :: c3 :: c4 :: c5 :: .slice (some ⟨b, off, none⟩) m cp :: c7 :: c8 :: c9 :: .pointer (some ⟨pp, 0, none⟩) :: .int .i64 (I : Int) :: c12 :: c13 :: c14 :: c15 :: c16 :: c17 :: c18 :: c19 :: c20 :: c21 :: c22 :: c23 :: c24 :: c25 :: c26 :: c27 :: c28 :: c29 :: c30 :: c31 :: c32 :: c33 :: c34 :: c35 :: c36 :: c37 :: c38 :: c39 :: c40 :: c41 :: c42 :: c43 :: c44 :: c45 :: c46 :: c47 :: c48 :: c49 :: c50 :: c51 :: c52 :: c53 :: c54 :: c55 :: c56 :: c57 :: c58 :: c59 :: c60 :: c61 :: c62 :: c63 :: c64 :: c65 :: c66 :: c67 :: c68 :: c69 :: u70 :: u71 :: u72 :: u73 :: u74 :: u75 :: u76 :: u77 :: u78 :: u79 :: u80 :: u81 :: u82 :: u83 :: u84 :: u85 :: u86 :: u87 :: u88 :: u89 :: u90 :: u91 :: u92 :: u93 :: u94 :: c95 :: c96 :: c97 :: c98 :: c99 :: []), []⟩ W') :
  Code.wp Tryz.prog (regOf Tryz.f18 17) Q0 ⟨List.toArray (c0 :: c1 :: c2 :: c3 :: c4 :: c5 :: .slice (some ⟨b, off, none⟩) m cp :: c7 :: c8 :: c9 :: .pointer (some ⟨pp, 0, none⟩) :: .int .i64 (I : Int) :: c12 :: c13 :: c14 :: c15 :: c16 :: c17 :: c18 :: c19 :: c20 :: c21 :: c22 :: c23 :: c24 :: c25 :: c26 :: c27 :: c28 :: c29 :: c30 :: c31 :: c32 :: c33 :: c34 :: c35 :: c36 :: c37 :: c38 :: c39 :: c40 :: c41 :: c42 :: c43 :: c44 :: c45 :: c46 :: c47 :: c48 :: c49 :: c50 :: c51 :: c52 :: c53 :: c54 :: c55 :: c56 :: c57 :: c58 :: c59 :: c60 :: c61 :: c62 :: c63 :: c64 :: c65 :: c66 :: c67 :: c68 :: c69 :: u70 :: u71 :: u72 :: u73 :: u74 :: u75 :: u76 :: u77 :: u78 :: u79 :: u80 :: u81 :: u82 :: u83 :: u84 :: u85 :: u86 :: u87 :: u88 :: u89 :: u90 :: u91 :: u92 :: u93 :: u94 :: c95 :: c96 :: c97 :: c98 :: c99 :: []), []⟩ W := by
 obtain ⟨p0, p1, g0, g1⟩ := cells2 HP.out
 have hpW := (Array.getElem?_eq_some_iff.1 HP.out).1
 have HNE : Hid (some pp ≠ (Value.slice A' j cq).ownBlock) := fun e => by
  have := (HR.out.lt _ e.symm).1
  omega
 have w1 : IntKind.i64.wrap ((I : Int) + 1) = (I : Int) + 1 := IntWalk.i64_in _ (by omega)
 have w2 : IntKind.i64.wrap ((I : Int) + 2) = (I : Int) + 2 := IntWalk.i64_in _ (by omega)
 have w3 : IntKind.i64.wrap ((I : Int) + 3) = (I : Int) + 3 := IntWalk.i64_in _ (by omega)
 have i0 : (I : Int) < (m : Int) := by omega
 have i1 : (I : Int) + 1 < (m : Int) := by omega
 have i2 : (I : Int) + 2 < (m : Int) := by omega
 have i3 : (I : Int) + 3 < (m : Int) := by omega
 have n1 : (0 : Int) ≤ (I : Int) + 1 := by omega
 have n2 : (0 : Int) ≤ (I : Int) + 2 := by omega
 have n3 : (0 : Int) ≤ (I : Int) + 3 := by omega
 have t1 : ((I : Int) + 1).toNat = I + 1 := by omega
 have t2 : ((I : Int) + 2).toNat = I + 2 := by omega
 have t3 : ((I : Int) + 3).toNat = I + 3 := by omega
 have HNX := Lib.hid hnext
 have HC0 := Lib.hid (And.intro e0 (And.intro e1 (And.intro e2 e3)))
 have HKL : Hid (∀ W' : World, (∀ q : Nat, W'.cell? ⟨b, q, none⟩ = W.cell? ⟨b, q, none⟩) → W'.cell? ⟨b, off + I, none⟩ = some (.int .i64 z0) ∧ W'.cell? ⟨b, off + (I + 1), none⟩ = some (.int .i64 z1) ∧ W'.cell? ⟨b, off + (I + 2), none⟩ = some (.int .i64 z2) ∧ W'.cell? ⟨b, off + (I + 3), none⟩ = some (.int .i64 z3)) := fun W' h => ⟨(h _).trans e0, (h _).trans e1, (h _).trans e2, (h _).trans e3⟩
 have HKP : Hid (∀ W', Below W.heap.size W W' → W'.cell? ⟨b, off + I, none⟩ = some (.int .i64 z0) ∧ W'.cell? ⟨b, off + (I + 1), none⟩ = some (.int .i64 z1) ∧ W'.cell? ⟨b, off + (I + 2), none⟩ = some (.int .i64 z2) ∧ W'.cell? ⟨b, off + (I + 3), none⟩ = some (.int .i64 z3)) := fun W' hb => HKL.out W' fun q => hb.cell (p := ⟨b, q, none⟩) (by show b < _; omega)
 have HKG : Hid (∀ W', W.grownBy W' (Value.slice A' j cq).ownBlock → W'.cell? ⟨b, off + I, none⟩ = some (.int .i64 z0) ∧ W'.cell? ⟨b, off + (I + 1), none⟩ = some (.int .i64 z1) ∧ W'.cell? ⟨b, off + (I + 2), none⟩ = some (.int .i64 z2) ∧ W'.cell? ⟨b, off + (I + 3), none⟩ = some (.int .i64 z3)) := fun W' hg => HKL.out W' fun q => World.cell?_of_block (a := ⟨b, q, none⟩) (hg.block b (by omega) (fun e => by
  have := (HR.out.lt _ e.symm).1
  omega))
 have HKS : Hid (∀ (W' : World) (u : Value), (W'.cell? ⟨b, off + I, none⟩ = some (.int .i64 z0) ∧ W'.cell? ⟨b, off + (I + 1), none⟩ = some (.int .i64 z1) ∧ W'.cell? ⟨b, off + (I + 2), none⟩ = some (.int .i64 z2) ∧ W'.cell? ⟨b, off + (I + 3), none⟩ = some (.int .i64 z3)) → (W'.setCell ⟨pp, 1, none⟩ u).cell? ⟨b, off + I, none⟩ = some (.int .i64 z0) ∧ (W'.setCell ⟨pp, 1, none⟩ u).cell? ⟨b, off + (I + 1), none⟩ = some (.int .i64 z1) ∧ (W'.setCell ⟨pp, 1, none⟩ u).cell? ⟨b, off + (I + 2), none⟩ = some (.int .i64 z2) ∧ (W'.setCell ⟨pp, 1, none⟩ u).cell? ⟨b, off + (I + 3), none⟩ = some (.int .i64 z3)) := fun W' u h => by
  have hk : ∀ q, (W'.setCell ⟨pp, 1, none⟩ u).cell? ⟨b, q, none⟩ = W'.cell? ⟨b, q, none⟩ := fun q => World.cell?_of_block (a := ⟨b, q, none⟩) (Below.heap_setCell W' ⟨pp, 1, none⟩ u b (by show b ≠ pp; omega))
  exact ⟨(hk _).trans h.1, (hk _).trans h.2.1, (hk _).trans h.2.2.1, (hk _).trans h.2.2.2⟩
 clear hnext
 conv => arg 2; whnf
 refine wp_region_held_drew (S := (fun w' => w'.cell? ⟨b, off + I, none⟩ = some (.int .i64 z0) ∧ w'.cell? ⟨b, off + (I + 1), none⟩ = some (.int .i64 z1) ∧ w'.cell? ⟨b, off + (I + 2), none⟩ = some (.int .i64 z2) ∧ w'.cell? ⟨b, off + (I + 3), none⟩ = some (.int .i64 z3))) (by kernel_rfl) ?_ (fun hHeld => ?_)
 ·(try dsimp only); first | assumption | exact HC0.out | exact HC7.out | exact HC8.out | (refine HKP.out _ ?_; (repeat (first | exact brefl _ | refine Below.drew ?_ | refine bnew ?_ _)); done)
 refine wpAnyH_take (i := 0) (v := ?_) rfl (by kernel_rfl) (by kernel_rfl) (by kernel_rfl) (fun c _ w h => hQ0 c _ _ w (by rfl) h) (Or.inl ⟨by rfl, ?_⟩) (by assumption) ?_
 rotate_left
 ·intro w hSw; (try dsimp only at hSw); go_simp; (try with_reducible rfl)
 try simp only [Act.put, List.setIfInBounds_toArray]
 refine wpAnyH_take (i := 2) (v := ?_) rfl (by kernel_rfl) (by kernel_rfl) (by kernel_rfl) (fun c _ w h => hQ0 c _ _ w (by rfl) h) (Or.inl ⟨by rfl, ?_⟩) (by assumption) ?_
 rotate_left
 ·intro w hSw; (try dsimp only at hSw); go_simp; (try with_reducible rfl)
 try simp only [Act.put]
 refine wpAnyH_take (i := 3) (v := ?_) rfl (by kernel_rfl) (by kernel_rfl) (by kernel_rfl) (fun c _ w h => hQ0 c _ _ w (by rfl) h) (Or.inl ⟨by rfl, ?_⟩) (by assumption) ?_
 rotate_left
 ·intro w hSw; (try dsimp only at hSw); go_simp; (try with_reducible rfl)
 try simp only [Act.put]
 refine wpAnyH_take (i := 4) (v := ?_) rfl (by kernel_rfl) (by kernel_rfl) (by kernel_rfl) (fun c _ w h => hQ0 c _ _ w (by rfl) h) (Or.inl ⟨by rfl, ?_⟩) (by assumption) ?_
 rotate_left
 ·intro w hSw; (try dsimp only at hSw); go_simp; (try with_reducible rfl)
 try simp only [Act.put]
 refine wpAnyH_take (i := 5) (v := ?_) rfl (by kernel_rfl) (by kernel_rfl) (by kernel_rfl) (fun c _ w h => hQ0 c _ _ w (by rfl) h) (Or.inl ⟨by rfl, ?_⟩) (by assumption) ?_
 rotate_left
 ·intro w hSw; (try dsimp only at hSw); go_simp; (try with_reducible rfl)
 try simp only [Act.put]
 refine wpAnyH_take (i := 6) (v := ?_) rfl (by kernel_rfl) (by kernel_rfl) (by kernel_rfl) (fun c _ w h => hQ0 c _ _ w (by rfl) h) (Or.inl ⟨by rfl, ?_⟩) (by assumption) ?_
 rotate_left
 ·intro w hSw; (try dsimp only at hSw); go_simp; (try with_reducible rfl)
 try simp only [Act.put]
 refine wpAnyH_take (i := 7) (v := ?_) rfl (by kernel_rfl) (by kernel_rfl) (by kernel_rfl) (fun c _ w h => hQ0 c _ _ w (by rfl) h) (Or.inl ⟨by rfl, ?_⟩) (by assumption) ?_
 rotate_left
 ·intro w hSw; (try dsimp only at hSw); go_simp; (try with_reducible rfl)
 try simp only [Act.put]
 refine wpAnyH_take (i := 8) (v := ?_) rfl (by kernel_rfl) (by kernel_rfl) (by kernel_rfl) (fun c _ w h => hQ0 c _ _ w (by rfl) h) (Or.inl ⟨by rfl, ?_⟩) (by assumption) ?_
 rotate_left
 ·intro w hSw; (try dsimp only at hSw); go_simp; (try with_reducible rfl)
 try simp only [Act.put]
 refine wpAnyH_take (i := 9) (v := ?_) rfl (by kernel_rfl) (by kernel_rfl) (by kernel_rfl) (fun c _ w h => hQ0 c _ _ w (by rfl) h) (Or.inl ⟨by rfl, ?_⟩) (by assumption) ?_
 rotate_left
 ·intro w hSw; (try dsimp only at hSw); go_simp; (try with_reducible rfl)
 try simp only [Act.put]
 refine wpAnyH_take (i := 10) (v := ?_) rfl (by kernel_rfl) (by kernel_rfl) (by kernel_rfl) (fun c _ w h => hQ0 c _ _ w (by rfl) h) (Or.inl ⟨by rfl, ?_⟩) (by assumption) ?_
 rotate_left
 ·intro w hSw; (try dsimp only at hSw); go_simp; (try with_reducible rfl)
 try simp only [Act.put]
 refine wpAnyH_take (i := 11) (v := ?_) rfl (by kernel_rfl) (by kernel_rfl) (by kernel_rfl) (fun c _ w h => hQ0 c _ _ w (by rfl) h) (Or.inl ⟨by rfl, ?_⟩) (by assumption) ?_
 rotate_left
 ·intro w hSw; (try dsimp only at hSw); go_simp; (try with_reducible rfl)
 try simp only [Act.put]
 refine wpAnyH_take (i := 12) (v := ?_) rfl (by kernel_rfl) (by kernel_rfl) (by kernel_rfl) (fun c _ w h => hQ0 c _ _ w (by rfl) h) (Or.inl ⟨by rfl, ?_⟩) (by assumption) ?_
 rotate_left
 ·intro w hSw; (try dsimp only at hSw); go_simp; (try with_reducible rfl)
 try simp only [Act.put]
 refine wpAnyH_take (i := 13) (v := ?_) rfl (by kernel_rfl) (by kernel_rfl) (by kernel_rfl) (fun c _ w h => hQ0 c _ _ w (by rfl) h) (Or.inl ⟨by rfl, ?_⟩) (by assumption) ?_
 rotate_left
 ·intro w hSw; (try dsimp only at hSw); go_simp; (try with_reducible rfl)
 try simp only [Act.put]
 refine wpAnyH_take (i := 14) (v := ?_) rfl (by kernel_rfl) (by kernel_rfl) (by kernel_rfl) (fun c _ w h => hQ0 c _ _ w (by rfl) h) (Or.inl ⟨by rfl, ?_⟩) (by assumption) ?_
 rotate_left
 ·intro w hSw; (try dsimp only at hSw); go_simp; (try with_reducible rfl)
 try simp only [Act.put]
 refine wpAnyH_take (i := 15) (v := ?_) rfl (by kernel_rfl) (by kernel_rfl) (by kernel_rfl) (fun c _ w h => hQ0 c _ _ w (by rfl) h) (Or.inl ⟨by rfl, ?_⟩) (by assumption) ?_
 rotate_left
 ·intro w hSw; (try dsimp only at hSw); go_simp; (try with_reducible rfl)
 try simp only [Act.put]
 refine wpAnyH_take (i := 16) (v := ?_) rfl (by kernel_rfl) (by kernel_rfl) (by kernel_rfl) (fun c _ w h => hQ0 c _ _ w (by rfl) h) (Or.inl ⟨by rfl, ?_⟩) (by assumption) ?_
 rotate_left
 ·intro w hSw; (try dsimp only at hSw); go_simp; (try with_reducible rfl)
 try simp only [Act.put]
 refine wpAnyH_take (i := 17) (v := ?_) rfl (by kernel_rfl) (by kernel_rfl) (by kernel_rfl) (fun c _ w h => hQ0 c _ _ w (by rfl) h) (Or.inl ⟨by rfl, ?_⟩) (by assumption) ?_
 rotate_left
 ·intro w hSw; (try dsimp only at hSw); go_simp; (try with_reducible rfl)
 try simp only [Act.put]
 refine wpAnyH_take (i := 18) (v := ?_) rfl (by kernel_rfl) (by kernel_rfl) (by kernel_rfl) (fun c _ w h => hQ0 c _ _ w (by rfl) h) (Or.inl ⟨by rfl, ?_⟩) (by assumption) ?_
 rotate_left
 ·intro w hSw; (try dsimp only at hSw); go_simp; (try with_reducible rfl)
 try simp only [Act.put]
 refine wpAnyH_take (i := 19) (v := ?_) rfl (by kernel_rfl) (by kernel_rfl) (by kernel_rfl) (fun c _ w h => hQ0 c _ _ w (by rfl) h) (Or.inl ⟨by rfl, ?_⟩) (by assumption) ?_
 rotate_left
 ·intro w hSw; (try dsimp only at hSw); go_simp; (try with_reducible rfl)
 try simp only [Act.put]
 refine wpAnyH_take (i := 20) (v := ?_) rfl (by kernel_rfl) (by kernel_rfl) (by kernel_rfl) (fun c _ w h => hQ0 c _ _ w (by rfl) h) (Or.inl ⟨by rfl, ?_⟩) (by assumption) ?_
 rotate_left
 ·intro w hSw; (try dsimp only at hSw); go_simp; (try with_reducible rfl)
 try simp only [Act.put]
 refine wpAnyH_take (i := 21) (v := ?_) rfl (by kernel_rfl) (by kernel_rfl) (by kernel_rfl) (fun c _ w h => hQ0 c _ _ w (by rfl) h) (Or.inl ⟨by rfl, ?_⟩) (by assumption) ?_
 rotate_left
 ·intro w hSw; (try dsimp only at hSw); go_simp; (try with_reducible rfl)
 try simp only [Act.put]
 refine wpAnyH_ready (rs := [1, 22]) (by kernel_rfl) (by simp) ?_
 refine AllReadyH.cons rfl (fun K hK => ?_) (AllReadyH.cons rfl (fun K hK => ?_) (AllReadyH.nil))
 ·skip
  go_simp
  refine hK.out _ _ ?_ (fun hHeld => ?_)
  ·(try dsimp only); first | assumption | exact HC0.out | exact HC7.out | exact HC8.out | (refine HKP.out _ ?_; (repeat (first | exact brefl _ | refine Below.drew ?_ | refine bnew ?_ _)); done)
  clear hK K
  try simp only [Act.put, List.setIfInBounds_toArray, List.set_cons_zero, List.set_cons_succ]
  refine wpAnyH_ready (rs := [22]) (by kernel_rfl) (by simp) ?_
  refine AllReadyH.cons rfl (fun K hK => ?_) (AllReadyH.nil)
  go_simp
  refine hK.out _ _ ?_ (fun hHeld => ?_)
  ·(try dsimp only); first | assumption | exact HC0.out | exact HC7.out | exact HC8.out | (refine HKP.out _ ?_; (repeat (first | exact brefl _ | refine Below.drew ?_ | refine bnew ?_ _)); done)
  clear hK K
  try simp only [Act.put, List.setIfInBounds_toArray, List.set_cons_zero, List.set_cons_succ]
  refine wpAnyH_ready (rs := [23]) (by kernel_rfl) (by simp) ?_
  refine AllReadyH.cons rfl (fun K hK => ?_) (AllReadyH.nil)
  refine step_pushg (base := pp + 1) _ #[.int .i64 z0, .int .i64 z1, .int .i64 z2, .int .i64 z3] (by rfl) (.tmp 71) (.tmp 92) 22 (by rfl) el_seg (.slice A' j cq) j C (by rfl) (own_kept HR.out (by repeat (first | exact brefl _ | refine Below.drew ?_ | refine bnew ?_ _))) (nb := W.heap.size) (m := 1) (by rfl) (by first | exact heap_alloc_new _ _ | (simp; done)) (by rfl) (by simp [Value.oneCell']) (by omega) (by unfold maxLen; omega) (by omega) (Nat.le_trans hpW (Below.size (B := W.heap.size) (by repeat (first | exact brefl _ | refine Below.drew ?_ | refine bnew ?_ _)))) ?_
  intro g cap w7 hown7 hg7 hgm
  have HG7 := Lib.hid (grown_through (a := W) (by repeat (first | exact brefl _ | refine Below.drew ?_ | refine bnew ?_ _)) hg7)
  have hb7 := (HG7.out.block pp hpW HNE.out).trans HP.out
  have f0 := cell_of_row w7 pp 1 _ _ (0, 0) hb7
  have fz : w7.frozen? ⟨pp, 1, none⟩ = false := by simp [World.frozen?, hb7]
  simp at f0
  have HC7 := Lib.hid (HKG.out w7 HG7.out)
  have HC8 := Lib.hid (HKS.out _ (.slice (some ⟨g, 0, none⟩) (j + 1) cap) HC7.out)
  have HE := Lib.hid (rread_push HP.out HNE.out HR.out HG7.out hown7)
  clear hb7 hg7 hgm hown7
  refine hK.out _ _ ?_ (fun hHeld => ?_)
  ·(try dsimp only); first | assumption | exact HC0.out | exact HC7.out | exact HC8.out | (refine HKP.out _ ?_; (repeat (first | exact brefl _ | refine Below.drew ?_ | refine bnew ?_ _)); done)
  clear hK K
  try simp only [Act.put, List.setIfInBounds_toArray]
  refine wpAnyH_take (i := 24) (v := ?_) rfl (by kernel_rfl) (by kernel_rfl) (by kernel_rfl) (fun c _ w h => hQ0 c _ _ w (by rfl) h) (Or.inl ⟨by rfl, ?_⟩) (by assumption) ?_
  rotate_left
  ·intro w hSw; (try dsimp only at hSw); go_simp; (try with_reducible rfl)
  try simp only [Act.put]
  refine wpAnyH_ready (rs := [25]) (by kernel_rfl) (by simp) ?_
  refine AllReadyH.cons rfl (fun K hK => ?_) (AllReadyH.nil)
  go_simp
  refine hK.out _ _ ?_ (fun hHeld => ?_)
  ·(try dsimp only); first | assumption | exact HC0.out | exact HC7.out | exact HC8.out | (refine HKP.out _ ?_; (repeat (first | exact brefl _ | refine Below.drew ?_ | refine bnew ?_ _)); done)
  clear hK K
  try simp only [Act.put, List.setIfInBounds_toArray, List.set_cons_zero, List.set_cons_succ]
  refine wpAnyH_done (by kernel_rfl) ?_ _
  exact HNX.out _ _ _ _ _ _ _ _ _ _ _ _ _ _ _ _ _ _ _ _ _ _ _ _ _ _ _ _ HE.out.1 HE.out.2.1 HE.out.2.2
 ·skip
  go_simp
  refine hK.out _ _ ?_ (fun hHeld => ?_)
  ·(try dsimp only); first | assumption | exact HC0.out | exact HC7.out | exact HC8.out | (refine HKP.out _ ?_; (repeat (first | exact brefl _ | refine Below.drew ?_ | refine bnew ?_ _)); done)
  clear hK K
  try simp only [Act.put, List.setIfInBounds_toArray, List.set_cons_zero, List.set_cons_succ]
  refine wpAnyH_ready (rs := [1]) (by kernel_rfl) (by simp) ?_
  refine AllReadyH.cons rfl (fun K hK => ?_) (AllReadyH.nil)
  go_simp
  refine hK.out _ _ ?_ (fun hHeld => ?_)
  ·(try dsimp only); first | assumption | exact HC0.out | exact HC7.out | exact HC8.out | (refine HKP.out _ ?_; (repeat (first | exact brefl _ | refine Below.drew ?_ | refine bnew ?_ _)); done)
  clear hK K
  try simp only [Act.put, List.setIfInBounds_toArray, List.set_cons_zero, List.set_cons_succ]
  refine wpAnyH_ready (rs := [23]) (by kernel_rfl) (by simp) ?_
  refine AllReadyH.cons rfl (fun K hK => ?_) (AllReadyH.nil)
  refine step_pushg (base := pp + 1) _ #[.int .i64 z0, .int .i64 z1, .int .i64 z2, .int .i64 z3] (by rfl) (.tmp 71) (.tmp 92) 22 (by rfl) el_seg (.slice A' j cq) j C (by rfl) (own_kept HR.out (by repeat (first | exact brefl _ | refine Below.drew ?_ | refine bnew ?_ _))) (nb := W.heap.size) (m := 1) (by rfl) (by first | exact heap_alloc_new _ _ | (simp; done)) (by rfl) (by simp [Value.oneCell']) (by omega) (by unfold maxLen; omega) (by omega) (Nat.le_trans hpW (Below.size (B := W.heap.size) (by repeat (first | exact brefl _ | refine Below.drew ?_ | refine bnew ?_ _)))) ?_
  intro g cap w7 hown7 hg7 hgm
  have HG7 := Lib.hid (grown_through (a := W) (by repeat (first | exact brefl _ | refine Below.drew ?_ | refine bnew ?_ _)) hg7)
  have hb7 := (HG7.out.block pp hpW HNE.out).trans HP.out
  have f0 := cell_of_row w7 pp 1 _ _ (0, 0) hb7
  have fz : w7.frozen? ⟨pp, 1, none⟩ = false := by simp [World.frozen?, hb7]
  simp at f0
  have HC7 := Lib.hid (HKG.out w7 HG7.out)
  have HC8 := Lib.hid (HKS.out _ (.slice (some ⟨g, 0, none⟩) (j + 1) cap) HC7.out)
  have HE := Lib.hid (rread_push HP.out HNE.out HR.out HG7.out hown7)
  clear hb7 hg7 hgm hown7
  refine hK.out _ _ ?_ (fun hHeld => ?_)
  ·(try dsimp only); first | assumption | exact HC0.out | exact HC7.out | exact HC8.out | (refine HKP.out _ ?_; (repeat (first | exact brefl _ | refine Below.drew ?_ | refine bnew ?_ _)); done)
  clear hK K
  try simp only [Act.put, List.setIfInBounds_toArray]
  refine wpAnyH_take (i := 24) (v := ?_) rfl (by kernel_rfl) (by kernel_rfl) (by kernel_rfl) (fun c _ w h => hQ0 c _ _ w (by rfl) h) (Or.inl ⟨by rfl, ?_⟩) (by assumption) ?_
  rotate_left
  ·intro w hSw; (try dsimp only at hSw); go_simp; (try with_reducible rfl)
  try simp only [Act.put]
  refine wpAnyH_ready (rs := [25]) (by kernel_rfl) (by simp) ?_
  refine AllReadyH.cons rfl (fun K hK => ?_) (AllReadyH.nil)
  go_simp
  refine hK.out _ _ ?_ (fun hHeld => ?_)
  ·(try dsimp only); first | assumption | exact HC0.out | exact HC7.out | exact HC8.out | (refine HKP.out _ ?_; (repeat (first | exact brefl _ | refine Below.drew ?_ | refine bnew ?_ _)); done)
  clear hK K
  try simp only [Act.put, List.setIfInBounds_toArray, List.set_cons_zero, List.set_cons_succ]
  refine wpAnyH_done (by kernel_rfl) ?_ _
  exact HNX.out _ _ _ _ _ _ _ _ _ _ _ _ _ _ _ _ _ _ _ _ _ _ _ _ _ _ _ _ HE.out.1 HE.out.2.1 HE.out.2.2
end Go.Proofs.YtkhemhiifhggmaaGreatDoor
