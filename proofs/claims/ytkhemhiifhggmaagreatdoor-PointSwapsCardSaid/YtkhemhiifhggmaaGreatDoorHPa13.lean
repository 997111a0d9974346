/- glossref20.Check: the loop. -/
import Derived.Test.YtkhemhiifhggmaaGreatDoorHPa6
set_option maxRecDepth 100000
set_option maxHeartbeats 40000000
namespace Go.Proofs.YtkhemhiifhggmaaGreatDoor
open Go.RowKit Go.Maps
set_option linter.unusedVariables false
theorem lastOf_pos {next : Int} : ∀ {l : List Sg} {x : Int}, 0 ≤ x → segsOk next x l → 0 ≤ lastOf x l
 | [], _, h, _ => h
 | s :: r, x, h, hs => lastOf_pos (x := s.id) (by have := hs.1.1; omega) hs.2
theorem rcheck_o (w W0 : World) (B : Nat) (hB : B ≤ w.heap.size) (A : Option Addr) (n c : Nat) (l : List Sg) (HS : Hid (SegsIn w B A n l)) (hn : n ≤ 4398046511104) (next : Int) (pb : Nat) (hpb : w.heap.size = pb)
  (HP : Hid (∀ W, Below (w.heap.size + 1) W0 W → W.cell? ⟨pb, 0, none⟩ = some (.int .i64 next) ∧ W.cell? ⟨pb, 1, none⟩ = some (.slice A n c))) (HW : Hid (Below w.heap.size w W0 ∧ w.heap.size + 1 ≤ W0.heap.size))
  (c0 c5 c6 c7 c8 c9 c10 c11 c12 u2 u4 u13 u14 u15 u16 u17 u18 u19 u20 u21 u22 u23 u24 u25 u26 u27 u28 u29 u30 u31 u32 u33 u34 u35 u36 u37 u38 u39 u40 u41 u42 u43 u44 u45 u46 u47 u48 u49 u50 u51 u52 u53 u54 u55 u56 u57 u58 u59 u60 u61 u62 u63 u64 u65 u66 u67 u68 u69 u70 u71 u72 u73 u74 u75 u76 u77 u78 u79 u80 u81 u82 u83 u84 u85 u86 u87 u88 u89 u90 u91 u92 u93 u94 u95 u96 u97 : Value) (Q0 : Exit → Act → World → Prop) (hQ0 : ∀ c (a a' : Act) w, a.defers = a'.defers → Q0 (.panic c) a w → Q0 (.panic c) a' w)
  (hret : ∀ (W : World) (x3 u4 u13 u14 u15 u16 u17 u18 u19 u20 u21 u22 u23 u24 u25 u26 u27 u28 u29 u30 u31 u32 u33 u34 u35 u36 u37 u38 u39 u40 u41 u42 u43 u44 u45 u46 u47 u48 u49 u50 u51 u52 u53 u54 u55 u56 u57 u58 u59 u60 u61 u62 u63 u64 u65 u66 u67 u68 u69 u70 u71 u72 u73 u74 u75 u76 u77 u78 u79 u80 u81 u82 u83 u84 u85 u86 u87 u88 u89 u90 u91 u92 u93 u94 u95 u96 u97 : Value), Hid (Below w.heap.size w W) → Hid (¬ segsOk next 0 l) → Q0 .ret ⟨List.toArray (c0 :: .pointer (some ⟨pb, 0, none⟩) :: .int .i64 1 :: x3 :: u4 :: c5 :: c6 :: c7 :: c8 :: c9 :: c10 :: c11 :: c12 :: u13 :: u14 :: u15 :: u16 :: u17 :: u18 :: u19 :: u20 :: u21 :: u22 :: u23 :: u24 :: u25 :: u26 :: u27 :: u28 :: u29 :: u30 :: u31 :: u32 :: u33 :: u34 :: u35 :: u36 :: u37 :: u38 :: u39 :: u40 :: u41 :: u42 :: u43 :: u44 :: u45 :: u46 :: u47 :: u48 :: u49 :: u50 :: u51 :: u52 :: u53 :: u54 :: u55 :: u56 :: u57 :: u58 :: u59 :: u60 :: u61 :: u62 :: u63 :: u64 :: u65 :: u66 :: u67 :: u68 :: u69 :: u70 :: u71 :: u72 :: u73 :: u74 :: u75 :: u76 :: u77 :: u78 :: u79 :: u80 :: u81 :: u82 :: u83 :: u84 :: u85 :: u86 :: u87 :: u88 :: u89 :: u90 :: u91 :: u92 :: u93 :: u94 :: u95 :: u96 :: u97 :: []), []⟩ W)
  (hexit : ∀ (W : World) (x3 u2 u4 u13 u14 u15 u16 u17 u18 u19 u20 u21 u22 u23 u24 u25 u26 u27 u28 u29 u30 u31 u32 u33 u34 u35 u36 u37 u38 u39 u40 u41 u42 u43 u44 u45 u46 u47 u48 u49 u50 u51 u52 u53 u54 u55 u56 u57 u58 u59 u60 u61 u62 u63 u64 u65 u66 u67 u68 u69 u70 u71 u72 u73 u74 u75 u76 u77 u78 u79 u80 u81 u82 u83 u84 u85 u86 u87 u88 u89 u90 u91 u92 u93 u94 u95 u96 u97 : Value), Hid (Below w.heap.size w W) → Hid (segsOk next 0 l) → Q0 (.exit 0) ⟨List.toArray (c0 :: .pointer (some ⟨pb, 0, none⟩) :: u2 :: x3 :: u4 :: c5 :: c6 :: c7 :: c8 :: c9 :: c10 :: c11 :: c12 :: u13 :: u14 :: u15 :: u16 :: u17 :: u18 :: u19 :: u20 :: u21 :: u22 :: u23 :: u24 :: u25 :: u26 :: u27 :: u28 :: u29 :: u30 :: u31 :: u32 :: u33 :: u34 :: u35 :: u36 :: u37 :: u38 :: u39 :: u40 :: u41 :: u42 :: u43 :: u44 :: u45 :: u46 :: u47 :: u48 :: u49 :: u50 :: u51 :: u52 :: u53 :: u54 :: u55 :: u56 :: u57 :: u58 :: u59 :: u60 :: u61 :: u62 :: u63 :: u64 :: u65 :: u66 :: u67 :: u68 :: u69 :: u70 :: u71 :: u72 :: u73 :: u74 :: u75 :: u76 :: u77 :: u78 :: u79 :: u80 :: u81 :: u82 :: u83 :: u84 :: u85 :: u86 :: u87 :: u88 :: u89 :: u90 :: u91 :: u92 :: u93 :: u94 :: u95 :: u96 :: u97 :: []), []⟩ W) :
  Code.wp Tryz.prog (.loop (loopOf Tryz.f11 0)) Q0 ⟨List.toArray (c0 :: .pointer (some ⟨pb, 0, none⟩) :: u2 :: .int .i64 (0 : Int) :: u4 :: c5 :: c6 :: c7 :: c8 :: c9 :: c10 :: c11 :: c12 :: u13 :: u14 :: u15 :: u16 :: u17 :: u18 :: u19 :: u20 :: u21 :: u22 :: u23 :: u24 :: u25 :: u26 :: u27 :: u28 :: u29 :: u30 :: u31 :: u32 :: u33 :: u34 :: u35 :: u36 :: u37 :: u38 :: u39 :: u40 :: u41 :: u42 :: u43 :: u44 :: u45 :: u46 :: u47 :: u48 :: u49 :: u50 :: u51 :: u52 :: u53 :: u54 :: u55 :: u56 :: u57 :: u58 :: u59 :: u60 :: u61 :: u62 :: u63 :: u64 :: u65 :: u66 :: u67 :: u68 :: u69 :: u70 :: u71 :: u72 :: u73 :: u74 :: u75 :: u76 :: u77 :: u78 :: u79 :: u80 :: u81 :: u82 :: u83 :: u84 :: u85 :: u86 :: u87 :: u88 :: u89 :: u90 :: u91 :: u92 :: u93 :: u94 :: u95 :: u96 :: u97 :: []), []⟩ W0 := by
 have hlen := HS.out.2
 conv => arg 2; arg 1; whnf
 go_loopw [3] (fun iv wr => ∃ i : Nat, i ≤ n ∧ iv = .int .i64 (i : Int) ∧ Hid (Below (w.heap.size + 1) W0 wr) ∧ Hid (segsOk next 0 (l.take i))) (fun iv _ => n - (intOf iv).toNat)
 case atStart => exact ⟨0, Nat.zero_le _, rfl, Lib.hid ((brefl W0).mono HW.out.2), Lib.hid trivial⟩
 case round =>
  obtain ⟨i, hi, rfl, HB, HI⟩ := hrel
  have hbs := HB.out.size
  have hws := HW.out.2
  have HBW : Hid (Below w.heap.size w wr) := HW.out.1.trans (HB.out.mono (by omega))
  obtain ⟨hpw, hpw1⟩ := HP.out wr HB.out
  by_cases hin : i < n
  ·obtain ⟨s, hs⟩ : ∃ s, l[i]? = some s := ⟨l[i]'(by omega), List.getElem?_eq_getElem _⟩
   have HSW := Lib.hid (HS.out.keep (HBW.out.mono hB))
   obtain ⟨b, off, rfl, hb, c0, c1, c2, c3⟩ := HSW.out.at_ hs
   have q0 : decide ((i : Int) < (n : Int)) = true := decide_eq_true (by omega)
   have HTK : Hid (l.take (i + 1) = l.take i ++ [s]) := by show _ = _; rw [List.take_add_one, hs]; rfl
   have HSPL : Hid (l = l.take (i + 1) ++ l.drop (i + 1)) := (List.take_append_drop ..).symm
   obtain ⟨LO, hLO⟩ : ∃ LO, lastOf 0 (l.take i) = LO := ⟨_, rfl⟩
   have HLO := Lib.hid hLO
   obtain ⟨id, docs, gen, gone⟩ := s
   simp only at c0 c1 c2 c3
   obtain ⟨W1, hW1⟩ : ∃ W1, wr.alloc (.cells #[.int .i64 id, .int .i64 docs, .int .i64 gen, .int .i64 gone] 61) = W1 := ⟨_, rfl⟩
   have hba : Below wr.heap.size wr W1 := by rw [← hW1]; exact bnew (brefl wr) _
   have hx1 : W1.heap[wr.heap.size]? = some (.cells #[.int .i64 id, .int .i64 docs, .int .i64 gen, .int .i64 gone] 61 (0, 0)) := by rw [← hW1]; exact heap_alloc_new _ _
   have HBN : Hid (Below (w.heap.size + 1) W0 W1) := HB.out.trans (hba.mono (by omega))
   have HBA2 := Lib.hid (HBW.out.trans (hba.mono HBW.out.size))
   have s0 := cell_of_row W1 wr.heap.size 0 _ _ (0, 0) hx1
   have s1 := cell_of_row W1 wr.heap.size 1 _ _ (0, 0) hx1
   have s2 := cell_of_row W1 wr.heap.size 2 _ _ (0, 0) hx1
   have s3 := cell_of_row W1 wr.heap.size 3 _ _ (0, 0) hx1
   simp at s0 s1 s2 s3
   obtain ⟨k0, k1⟩ := HP.out W1 HBN.out
   have HBAD : Hid (¬ Sg.ok next LO ⟨id, docs, gen, gone⟩ → ¬ segsOk next 0 l) := fun hno hall => hno (by
    rw [HSPL.out, HTK.out, List.append_assoc, segsOk_append] at hall
    have h2 := hall.2
    rw [HLO.out] at h2
    exact h2.1)
   have hlo0 : 0 ≤ LO := by
    rw [← hLO]
    exact lastOf_pos (Int.le_refl _) HI.out
   have HWE := Lib.hid hW1
   clear hs hW1 hba hx1
   by_cases h00 : i = 0
   ·have pi : decide (0 < i) = false := decide_eq_false (by omega)
    have hLO0 : LO = 0 := by rw [← hLO, h00]; rfl
    subst hLO0
    have H00 := Lib.hid h00
    clear hLO h00
    by_cases h0 : id < 1
    ·have p0 : decide (id < 1) = true := decide_eq_true h0
     have HNO := HBAD.out (fun h => by unfold Sg.ok at h; simp only at h; omega)
     have HNO := Lib.hid HNO
     clear h0 hexit
     go_wp2_with fail
     rw [HWE.out]
     go_quiet (fail)
     go_wp2_with fail
     exact hret _ _ _ _ _ _ _ _ _ _ _ _ _ _ _ _ _ _ _ _ _ _ _ _ _ _ _ _ _ _ _ _ _ _ _ _ _ _ _ _ _ _ _ _ _ _ _ _ _ _ _ _ _ _ _ _ _ _ _ _ _ _ _ _ _ _ _ _ _ _ _ _ _ _ _ _ _ _ _ _ _ _ _ _ _ _ _ _ (Lib.hid (below_drewN HBA2.out nq)) HNO
    have p0 : decide (id < 1) = false := decide_eq_false h0
    by_cases h1 : id ≥ next
    ·have p1 : decide (id ≥ next) = true := decide_eq_true h1
     have HNO := HBAD.out (fun h => by unfold Sg.ok at h; simp only at h; omega)
     have HNO := Lib.hid HNO
     clear h1 hexit
     go_wp2_with fail
     rw [HWE.out]
     go_quiet (fail)
     go_wp2_with fail
     exact hret _ _ _ _ _ _ _ _ _ _ _ _ _ _ _ _ _ _ _ _ _ _ _ _ _ _ _ _ _ _ _ _ _ _ _ _ _ _ _ _ _ _ _ _ _ _ _ _ _ _ _ _ _ _ _ _ _ _ _ _ _ _ _ _ _ _ _ _ _ _ _ _ _ _ _ _ _ _ _ _ _ _ _ _ _ _ _ _ (Lib.hid (below_drewN HBA2.out nq)) HNO
    have p1 : decide (id ≥ next) = false := decide_eq_false h1
    by_cases h2 : docs < 1
    ·have p2 : decide (docs < 1) = true := decide_eq_true h2
     have HNO := HBAD.out (fun h => by unfold Sg.ok at h; simp only at h; omega)
     have HNO := Lib.hid HNO
     clear h2 hexit
     go_wp2_with fail
     rw [HWE.out]
     go_quiet (fail)
     go_wp2_with fail
     exact hret _ _ _ _ _ _ _ _ _ _ _ _ _ _ _ _ _ _ _ _ _ _ _ _ _ _ _ _ _ _ _ _ _ _ _ _ _ _ _ _ _ _ _ _ _ _ _ _ _ _ _ _ _ _ _ _ _ _ _ _ _ _ _ _ _ _ _ _ _ _ _ _ _ _ _ _ _ _ _ _ _ _ _ _ _ _ _ _ (Lib.hid (below_drewN HBA2.out nq)) HNO
    have p2 : decide (docs < 1) = false := decide_eq_false h2
    by_cases h3 : docs > 1048576
    ·have p3 : decide (docs > 1048576) = true := decide_eq_true h3
     have HNO := HBAD.out (fun h => by unfold Sg.ok at h; simp only at h; omega)
     have HNO := Lib.hid HNO
     clear h3 hexit
     go_wp2_with fail
     rw [HWE.out]
     go_quiet (fail)
     go_wp2_with fail
     exact hret _ _ _ _ _ _ _ _ _ _ _ _ _ _ _ _ _ _ _ _ _ _ _ _ _ _ _ _ _ _ _ _ _ _ _ _ _ _ _ _ _ _ _ _ _ _ _ _ _ _ _ _ _ _ _ _ _ _ _ _ _ _ _ _ _ _ _ _ _ _ _ _ _ _ _ _ _ _ _ _ _ _ _ _ _ _ _ _ (Lib.hid (below_drewN HBA2.out nq)) HNO
    have p3 : decide (docs > 1048576) = false := decide_eq_false h3
    by_cases h4 : gone < 0
    ·have p4 : decide (gone < 0) = true := decide_eq_true h4
     have HNO := HBAD.out (fun h => by unfold Sg.ok at h; simp only at h; omega)
     have HNO := Lib.hid HNO
     clear h4 hexit
     go_wp2_with fail
     rw [HWE.out]
     go_quiet (fail)
     go_wp2_with fail
     exact hret _ _ _ _ _ _ _ _ _ _ _ _ _ _ _ _ _ _ _ _ _ _ _ _ _ _ _ _ _ _ _ _ _ _ _ _ _ _ _ _ _ _ _ _ _ _ _ _ _ _ _ _ _ _ _ _ _ _ _ _ _ _ _ _ _ _ _ _ _ _ _ _ _ _ _ _ _ _ _ _ _ _ _ _ _ _ _ _ (Lib.hid (below_drewN HBA2.out nq)) HNO
    have p4 : decide (gone < 0) = false := decide_eq_false h4
    by_cases h5 : gone > docs
    ·have p5 : decide (gone > docs) = true := decide_eq_true h5
     have HNO := HBAD.out (fun h => by unfold Sg.ok at h; simp only at h; omega)
     have HNO := Lib.hid HNO
     clear h5 hexit
     go_wp2_with fail
     rw [HWE.out]
     go_quiet (fail)
     go_wp2_with fail
     exact hret _ _ _ _ _ _ _ _ _ _ _ _ _ _ _ _ _ _ _ _ _ _ _ _ _ _ _ _ _ _ _ _ _ _ _ _ _ _ _ _ _ _ _ _ _ _ _ _ _ _ _ _ _ _ _ _ _ _ _ _ _ _ _ _ _ _ _ _ _ _ _ _ _ _ _ _ _ _ _ _ _ _ _ _ _ _ _ _ (Lib.hid (below_drewN HBA2.out nq)) HNO
    have p5 : decide (gone > docs) = false := decide_eq_false h5
    by_cases o0 : gone = 0
    ·by_cases g0 : gen = 0
     ·have p8 : (gone == 0) = true := by simpa using o0
      have p9 : (gen != 0) = false := by simpa using g0
      have p10 : decide (gone > 0) = false := decide_eq_false (by omega)
      have HOK : Hid (segsOk next 0 (l.take (i + 1))) := by
       show segsOk _ _ _
       rw [HTK.out, segsOk_append, HLO.out]
       refine ⟨HI.out, ?_, trivial⟩
       unfold Sg.ok
       simp only
       omega
      clear hret hexit
      clear o0 g0
      go_wp2_with fail
      rw [HWE.out]
      go_quiet (fail)
      go_wp2_with fail
      skip
      all_goals
       go_roundw
       case rel => exact ⟨i + 1, by omega, by go_num, below_drewN HBN.out nq, HOK⟩
       case measure => simp [intOf]; omega
     ·have p8 : (gone == 0) = true := by simpa using o0
      have p9 : (gen != 0) = true := by simpa using g0
      have HNO := Lib.hid (HBAD.out (fun h => by unfold Sg.ok at h; simp only at h; omega))
      clear hexit
      clear o0 g0
      go_wp2_with fail
      rw [HWE.out]
      go_quiet (fail)
      go_wp2_with fail
      skip
      all_goals exact hret _ _ _ _ _ _ _ _ _ _ _ _ _ _ _ _ _ _ _ _ _ _ _ _ _ _ _ _ _ _ _ _ _ _ _ _ _ _ _ _ _ _ _ _ _ _ _ _ _ _ _ _ _ _ _ _ _ _ _ _ _ _ _ _ _ _ _ _ _ _ _ _ _ _ _ _ _ _ _ _ _ _ _ _ _ _ _ _ (Lib.hid (below_drewN HBA2.out nq)) HNO
    ·have p8 : (gone == 0) = false := by simpa using o0
     have p10 : decide (gone > 0) = true := decide_eq_true (by omega)
     by_cases g1 : gen < 1
     ·have p11 : decide (gen < 1) = true := decide_eq_true g1
      have HNO := Lib.hid (HBAD.out (fun h => by unfold Sg.ok at h; simp only at h; omega))
      clear hexit
      clear o0 g1
      go_wp2_with fail
      rw [HWE.out]
      go_quiet (fail)
      go_wp2_with fail
      skip
      all_goals exact hret _ _ _ _ _ _ _ _ _ _ _ _ _ _ _ _ _ _ _ _ _ _ _ _ _ _ _ _ _ _ _ _ _ _ _ _ _ _ _ _ _ _ _ _ _ _ _ _ _ _ _ _ _ _ _ _ _ _ _ _ _ _ _ _ _ _ _ _ _ _ _ _ _ _ _ _ _ _ _ _ _ _ _ _ _ _ _ _ (Lib.hid (below_drewN HBA2.out nq)) HNO
     ·by_cases g2 : gen ≥ next
      ·have p11 : decide (gen < 1) = false := decide_eq_false g1
       have p12 : decide (gen ≥ next) = true := decide_eq_true g2
       have HNO := Lib.hid (HBAD.out (fun h => by unfold Sg.ok at h; simp only at h; omega))
       clear hexit
       clear o0 g1 g2
       go_wp2_with fail
       rw [HWE.out]
       go_quiet (fail)
       go_wp2_with fail
       skip
       all_goals exact hret _ _ _ _ _ _ _ _ _ _ _ _ _ _ _ _ _ _ _ _ _ _ _ _ _ _ _ _ _ _ _ _ _ _ _ _ _ _ _ _ _ _ _ _ _ _ _ _ _ _ _ _ _ _ _ _ _ _ _ _ _ _ _ _ _ _ _ _ _ _ _ _ _ _ _ _ _ _ _ _ _ _ _ _ _ _ _ _ (Lib.hid (below_drewN HBA2.out nq)) HNO
      ·have p11 : decide (gen < 1) = false := decide_eq_false g1
       have p12 : decide (gen ≥ next) = false := decide_eq_false g2
       have HOK : Hid (segsOk next 0 (l.take (i + 1))) := by
        show segsOk _ _ _
        rw [HTK.out, segsOk_append, HLO.out]
        refine ⟨HI.out, ?_, trivial⟩
        unfold Sg.ok
        simp only
        omega
       clear hret hexit
       clear o0 g1 g2
       go_wp2_with fail
       rw [HWE.out]
       go_quiet (fail)
       go_wp2_with fail
       skip
       all_goals
        go_roundw
        case rel => exact ⟨i + 1, by omega, by go_num, below_drewN HBN.out nq, HOK⟩
        case measure => simp [intOf]; omega
   ·obtain ⟨j, rfl⟩ : ∃ j, i = j + 1 := ⟨i - 1, by omega⟩
    have pi : decide (((j + 1 : Nat) : Int) > 0) = true := decide_eq_true (by omega)
    obtain ⟨s', hs'⟩ : ∃ s', l[j]? = some s' := ⟨l[j]'(by omega), List.getElem?_eq_getElem _⟩
    have hlo : s'.id = LO := by rw [← hLO, List.take_add_one, hs']; exact (lastOf_snoc _ _ _).symm
    obtain ⟨b', off', e', _, d0, _, _, _⟩ := (HS.out.keep (HBA2.out.mono hB)).at_ hs'
    injection e' with e'
    injection e' with e1 e2
    subst e1 e2
    rw [hlo] at d0
    have ij1 : ((j : Int) + 1) - 1 = (j : Int) := by omega
    have ij2 : wrap64 ((j : Int) + 1 - 1) = (j : Int) := by rw [ij1]; unfold wrap64; omega
    clear hs' hlo hLO
    by_cases h0 : id < 1
    ·have p0 : decide (id < 1) = true := decide_eq_true h0
     have HNO := HBAD.out (fun h => by unfold Sg.ok at h; simp only at h; omega)
     have HNO := Lib.hid HNO
     clear h0 hexit
     go_wp2_with fail
     rw [HWE.out]
     go_quiet (fail)
     go_wp2_with fail
     exact hret _ _ _ _ _ _ _ _ _ _ _ _ _ _ _ _ _ _ _ _ _ _ _ _ _ _ _ _ _ _ _ _ _ _ _ _ _ _ _ _ _ _ _ _ _ _ _ _ _ _ _ _ _ _ _ _ _ _ _ _ _ _ _ _ _ _ _ _ _ _ _ _ _ _ _ _ _ _ _ _ _ _ _ _ _ _ _ _ (Lib.hid (below_drewN HBA2.out nq)) HNO
    have p0 : decide (id < 1) = false := decide_eq_false h0
    by_cases h1 : id ≥ next
    ·have p1 : decide (id ≥ next) = true := decide_eq_true h1
     have HNO := HBAD.out (fun h => by unfold Sg.ok at h; simp only at h; omega)
     have HNO := Lib.hid HNO
     clear h1 hexit
     go_wp2_with fail
     rw [HWE.out]
     go_quiet (fail)
     go_wp2_with fail
     exact hret _ _ _ _ _ _ _ _ _ _ _ _ _ _ _ _ _ _ _ _ _ _ _ _ _ _ _ _ _ _ _ _ _ _ _ _ _ _ _ _ _ _ _ _ _ _ _ _ _ _ _ _ _ _ _ _ _ _ _ _ _ _ _ _ _ _ _ _ _ _ _ _ _ _ _ _ _ _ _ _ _ _ _ _ _ _ _ _ (Lib.hid (below_drewN HBA2.out nq)) HNO
    have p1 : decide (id ≥ next) = false := decide_eq_false h1
    by_cases h2 : id ≤ LO
    ·have p2 : decide (id ≤ LO) = true := decide_eq_true h2
     have HNO := HBAD.out (fun h => by unfold Sg.ok at h; simp only at h; omega)
     have HNO := Lib.hid HNO
     clear h2 hexit
     go_wp2_with fail
     rw [HWE.out]
     go_quiet (fail)
     go_wp2_with fail
     exact hret _ _ _ _ _ _ _ _ _ _ _ _ _ _ _ _ _ _ _ _ _ _ _ _ _ _ _ _ _ _ _ _ _ _ _ _ _ _ _ _ _ _ _ _ _ _ _ _ _ _ _ _ _ _ _ _ _ _ _ _ _ _ _ _ _ _ _ _ _ _ _ _ _ _ _ _ _ _ _ _ _ _ _ _ _ _ _ _ (Lib.hid (below_drewN HBA2.out nq)) HNO
    have p2 : decide (id ≤ LO) = false := decide_eq_false h2
    by_cases h3 : docs < 1
    ·have p3 : decide (docs < 1) = true := decide_eq_true h3
     have HNO := HBAD.out (fun h => by unfold Sg.ok at h; simp only at h; omega)
     have HNO := Lib.hid HNO
     clear h3 hexit
     go_wp2_with fail
     rw [HWE.out]
     go_quiet (fail)
     go_wp2_with fail
     exact hret _ _ _ _ _ _ _ _ _ _ _ _ _ _ _ _ _ _ _ _ _ _ _ _ _ _ _ _ _ _ _ _ _ _ _ _ _ _ _ _ _ _ _ _ _ _ _ _ _ _ _ _ _ _ _ _ _ _ _ _ _ _ _ _ _ _ _ _ _ _ _ _ _ _ _ _ _ _ _ _ _ _ _ _ _ _ _ _ (Lib.hid (below_drewN HBA2.out nq)) HNO
    have p3 : decide (docs < 1) = false := decide_eq_false h3
    by_cases h4 : docs > 1048576
    ·have p4 : decide (docs > 1048576) = true := decide_eq_true h4
     have HNO := HBAD.out (fun h => by unfold Sg.ok at h; simp only at h; omega)
     have HNO := Lib.hid HNO
     clear h4 hexit
     go_wp2_with fail
     rw [HWE.out]
     go_quiet (fail)
     go_wp2_with fail
     exact hret _ _ _ _ _ _ _ _ _ _ _ _ _ _ _ _ _ _ _ _ _ _ _ _ _ _ _ _ _ _ _ _ _ _ _ _ _ _ _ _ _ _ _ _ _ _ _ _ _ _ _ _ _ _ _ _ _ _ _ _ _ _ _ _ _ _ _ _ _ _ _ _ _ _ _ _ _ _ _ _ _ _ _ _ _ _ _ _ (Lib.hid (below_drewN HBA2.out nq)) HNO
    have p4 : decide (docs > 1048576) = false := decide_eq_false h4
    by_cases h5 : gone < 0
    ·have p5 : decide (gone < 0) = true := decide_eq_true h5
     have HNO := HBAD.out (fun h => by unfold Sg.ok at h; simp only at h; omega)
     have HNO := Lib.hid HNO
     clear h5 hexit
     go_wp2_with fail
     rw [HWE.out]
     go_quiet (fail)
     go_wp2_with fail
     exact hret _ _ _ _ _ _ _ _ _ _ _ _ _ _ _ _ _ _ _ _ _ _ _ _ _ _ _ _ _ _ _ _ _ _ _ _ _ _ _ _ _ _ _ _ _ _ _ _ _ _ _ _ _ _ _ _ _ _ _ _ _ _ _ _ _ _ _ _ _ _ _ _ _ _ _ _ _ _ _ _ _ _ _ _ _ _ _ _ (Lib.hid (below_drewN HBA2.out nq)) HNO
    have p5 : decide (gone < 0) = false := decide_eq_false h5
    by_cases h6 : gone > docs
    ·have p6 : decide (gone > docs) = true := decide_eq_true h6
     have HNO := HBAD.out (fun h => by unfold Sg.ok at h; simp only at h; omega)
     have HNO := Lib.hid HNO
     clear h6 hexit
     go_wp2_with fail
     rw [HWE.out]
     go_quiet (fail)
     go_wp2_with fail
     exact hret _ _ _ _ _ _ _ _ _ _ _ _ _ _ _ _ _ _ _ _ _ _ _ _ _ _ _ _ _ _ _ _ _ _ _ _ _ _ _ _ _ _ _ _ _ _ _ _ _ _ _ _ _ _ _ _ _ _ _ _ _ _ _ _ _ _ _ _ _ _ _ _ _ _ _ _ _ _ _ _ _ _ _ _ _ _ _ _ (Lib.hid (below_drewN HBA2.out nq)) HNO
    have p6 : decide (gone > docs) = false := decide_eq_false h6
    by_cases o0 : gone = 0
    ·by_cases g0 : gen = 0
     ·have p8 : (gone == 0) = true := by simpa using o0
      have p9 : (gen != 0) = false := by simpa using g0
      have p10 : decide (gone > 0) = false := decide_eq_false (by omega)
      have HOK : Hid (segsOk next 0 (l.take (j + 1 + 1))) := by
       show segsOk _ _ _
       rw [HTK.out, segsOk_append, HLO.out]
       refine ⟨HI.out, ?_, trivial⟩
       unfold Sg.ok
       simp only
       omega
      clear hret hexit
      clear o0 g0
      go_wp2_with fail
      rw [HWE.out]
      go_quiet (fail)
      go_wp2_with fail
      skip
      all_goals
       go_roundw
       case rel => exact ⟨j + 1 + 1, by omega, by go_num, below_drewN HBN.out nq, HOK⟩
       case measure => simp [intOf]; omega
     ·have p8 : (gone == 0) = true := by simpa using o0
      have p9 : (gen != 0) = true := by simpa using g0
      have HNO := Lib.hid (HBAD.out (fun h => by unfold Sg.ok at h; simp only at h; omega))
      clear hexit
      clear o0 g0
      go_wp2_with fail
      rw [HWE.out]
      go_quiet (fail)
      go_wp2_with fail
      skip
      all_goals exact hret _ _ _ _ _ _ _ _ _ _ _ _ _ _ _ _ _ _ _ _ _ _ _ _ _ _ _ _ _ _ _ _ _ _ _ _ _ _ _ _ _ _ _ _ _ _ _ _ _ _ _ _ _ _ _ _ _ _ _ _ _ _ _ _ _ _ _ _ _ _ _ _ _ _ _ _ _ _ _ _ _ _ _ _ _ _ _ _ (Lib.hid (below_drewN HBA2.out nq)) HNO
    ·have p8 : (gone == 0) = false := by simpa using o0
     have p10 : decide (gone > 0) = true := decide_eq_true (by omega)
     by_cases g1 : gen < 1
     ·have p11 : decide (gen < 1) = true := decide_eq_true g1
      have HNO := Lib.hid (HBAD.out (fun h => by unfold Sg.ok at h; simp only at h; omega))
      clear hexit
      clear o0 g1
      go_wp2_with fail
      rw [HWE.out]
      go_quiet (fail)
      go_wp2_with fail
      skip
      all_goals exact hret _ _ _ _ _ _ _ _ _ _ _ _ _ _ _ _ _ _ _ _ _ _ _ _ _ _ _ _ _ _ _ _ _ _ _ _ _ _ _ _ _ _ _ _ _ _ _ _ _ _ _ _ _ _ _ _ _ _ _ _ _ _ _ _ _ _ _ _ _ _ _ _ _ _ _ _ _ _ _ _ _ _ _ _ _ _ _ _ (Lib.hid (below_drewN HBA2.out nq)) HNO
     ·by_cases g2 : gen ≥ next
      ·have p11 : decide (gen < 1) = false := decide_eq_false g1
       have p12 : decide (gen ≥ next) = true := decide_eq_true g2
       have HNO := Lib.hid (HBAD.out (fun h => by unfold Sg.ok at h; simp only at h; omega))
       clear hexit
       clear o0 g1 g2
       go_wp2_with fail
       rw [HWE.out]
       go_quiet (fail)
       go_wp2_with fail
       skip
       all_goals exact hret _ _ _ _ _ _ _ _ _ _ _ _ _ _ _ _ _ _ _ _ _ _ _ _ _ _ _ _ _ _ _ _ _ _ _ _ _ _ _ _ _ _ _ _ _ _ _ _ _ _ _ _ _ _ _ _ _ _ _ _ _ _ _ _ _ _ _ _ _ _ _ _ _ _ _ _ _ _ _ _ _ _ _ _ _ _ _ _ (Lib.hid (below_drewN HBA2.out nq)) HNO
      ·have p11 : decide (gen < 1) = false := decide_eq_false g1
       have p12 : decide (gen ≥ next) = false := decide_eq_false g2
       have HOK : Hid (segsOk next 0 (l.take (j + 1 + 1))) := by
        show segsOk _ _ _
        rw [HTK.out, segsOk_append, HLO.out]
        refine ⟨HI.out, ?_, trivial⟩
        unfold Sg.ok
        simp only
        omega
       clear hret hexit
       clear o0 g1 g2
       go_wp2_with fail
       rw [HWE.out]
       go_quiet (fail)
       go_wp2_with fail
       skip
       all_goals
        go_roundw
        case rel => exact ⟨j + 1 + 1, by omega, by go_num, below_drewN HBN.out nq, HOK⟩
        case measure => simp [intOf]; omega
  ·obtain rfl : i = n := by omega
   have q0 : decide ((i : Int) < (i : Int)) = false := decide_eq_false (by omega)
   rw [← hlen, List.take_length] at HI
   go_wp2_with fail
   exact hexit wr _ _ _ _ _ _ _ _ _ _ _ _ _ _ _ _ _ _ _ _ _ _ _ _ _ _ _ _ _ _ _ _ _ _ _ _ _ _ _ _ _ _ _ _ _ _ _ _ _ _ _ _ _ _ _ _ _ _ _ _ _ _ _ _ _ _ _ _ _ _ _ _ _ _ _ _ _ _ _ _ _ _ _ _ _ _ _ _ HBW HI
end Go.Proofs.YtkhemhiifhggmaaGreatDoor
namespace Go.Proofs.YtkhemhiifhggmaaGreatDoor
open Go.RowKit Go.Maps
set_option linter.unusedVariables false
theorem rcheck_any (w : World) (B : Nat) (hB : B ≤ w.heap.size) (A : Option Addr) (n c : Nat) (l : List Sg) (HS : Hid (SegsIn w B A n l)) (hn : n ≤ 4398046511104) (next : Int) :
  Calls Tryz.prog 11 #[.agg #[.int .i64 next, .slice A n c]] w fun e w' => e = .returned (.int .i64 (checkP next l)) ∧ Below w.heap.size w w' := by
 have hpb := bnew (brefl w) (.cells #[.int .i64 next, .slice A n c] 24)
 have hnw := heap_alloc_new w (.cells #[.int .i64 next, .slice A n c] 24)
 by_cases h1 : next < 1
 ·have p0 : decide (next < 1) = true := decide_eq_true h1
  have HC : Hid (checkP next l = 1) := if_neg (fun h => by have := h.1; omega)
  have HB := Lib.hid hpb
  clear hpb hnw h1
  go_enter Tryz.func11, Tryz.ntmps11
  go_wp2_with fail
  go_ret
  exact ⟨by rw [HC.out]; rfl, HB.out⟩
 ·have p0 : decide (next < 1) = false := decide_eq_false h1
  by_cases h2 : next > 999999999
  ·have p1 : decide (next > 999999999) = true := decide_eq_true h2
   have HC : Hid (checkP next l = 1) := if_neg (fun h => by have := h.2.1; omega)
   have HB := Lib.hid hpb
   clear hpb hnw h1 h2
   go_enter Tryz.func11, Tryz.ntmps11
   go_wp2_with fail
   go_ret
   exact ⟨by rw [HC.out]; rfl, HB.out⟩
  ·have p1 : decide (next > 999999999) = false := decide_eq_false h2
   have HB := Lib.hid hpb
   have HNW := Lib.hid hnw
   clear hpb hnw
   go_enter Tryz.func11, Tryz.ntmps11
   go_wp2_with fail
   refine rcheck_o w _ B hB A n c l HS hn next w.heap.size rfl ?_ ?_ _ _ _ _ _ _ _ _ _ _ _ _ _ _ _ _ _ _ _ _ _ _ _ _ _ _ _ _ _ _ _ _ _ _ _ _ _ _ _ _ _ _ _ _ _ _ _ _ _ _ _ _ _ _ _ _ _ _ _ _ _ _ _ _ _ _ _ _ _ _ _ _ _ _ _ _ _ _ _ _ _ _ _ _ _ _ _ _ _ _ _ _ _ _ _ _ _ (fun c a a' w hd h => by cases a; cases a'; cases hd; exact h) ?_ ?_
   ·refine Lib.hid fun W h => ⟨?_, ?_⟩
    ·exact (h.cell (p := ⟨w.heap.size, 0, none⟩) (by show w.heap.size < _; omega)).trans (by simp)
    ·exact (h.cell (p := ⟨w.heap.size, 1, none⟩) (by show w.heap.size < _; omega)).trans (by simp)
   ·exact Lib.hid ⟨HB.out, by simp⟩
   ·intro W x3 u4 u13 u14 u15 u16 u17 u18 u19 u20 u21 u22 u23 u24 u25 u26 u27 u28 u29 u30 u31 u32 u33 u34 u35 u36 u37 u38 u39 u40 u41 u42 u43 u44 u45 u46 u47 u48 u49 u50 u51 u52 u53 u54 u55 u56 u57 u58 u59 u60 u61 u62 u63 u64 u65 u66 u67 u68 u69 u70 u71 u72 u73 u74 u75 u76 u77 u78 u79 u80 u81 u82 u83 u84 u85 u86 u87 u88 u89 u90 u91 u92 u93 u94 u95 u96 u97 HBW HO
    have HC : Hid (checkP next l = 1) := if_neg (fun h => HO.out h.2.2)
    go_wp2_with fail
    go_ret
    exact ⟨by rw [HC.out]; rfl, HBW.out⟩
   ·intro W x3 u2 u4 u13 u14 u15 u16 u17 u18 u19 u20 u21 u22 u23 u24 u25 u26 u27 u28 u29 u30 u31 u32 u33 u34 u35 u36 u37 u38 u39 u40 u41 u42 u43 u44 u45 u46 u47 u48 u49 u50 u51 u52 u53 u54 u55 u56 u57 u58 u59 u60 u61 u62 u63 u64 u65 u66 u67 u68 u69 u70 u71 u72 u73 u74 u75 u76 u77 u78 u79 u80 u81 u82 u83 u84 u85 u86 u87 u88 u89 u90 u91 u92 u93 u94 u95 u96 u97 HBW HO
    have HC : Hid (checkP next l = 0) := if_pos ⟨by omega, by omega, HO.out⟩
    go_wp2_with fail
    go_ret
    exact ⟨by rw [HC.out]; rfl, HBW.out⟩
end Go.Proofs.YtkhemhiifhggmaaGreatDoor
