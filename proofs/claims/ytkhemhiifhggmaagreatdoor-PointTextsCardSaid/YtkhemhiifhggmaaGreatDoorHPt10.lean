/- point.Latest: the loop. -/
import Derived.Test.YtkhemhiifhggmaaGreatDoorHPt8
import Derived.Test.YtkhemhiifhggmaaGreatDoorHPt6
import Derived.Test.YtkhemhiifhggmaaGreatDoorHPt3
import Derived.Sort.OwnSorted
import Derived.Lib.OwnBridge
import Derived.Lib.SlicesCompact
import Derived.Lib.RowBridge
import Derived.Test.YtkhemhiifhggmaaGreatDoorHPt9
set_option maxRecDepth 100000
set_option maxHeartbeats 40000000
namespace Go.Proofs.YtkhemhiifhggmaaGreatDoor
open Go.RowKit Go.Maps Go.Sort
set_option linter.unusedVariables false
def okName (s : List UInt8) : Option Int := (numT (s.drop (min 2 s.length))).bind fun v => if nameP 112 v = s then some v else none
def lateF (f : List UInt8 → List UInt8) : List (List UInt8) → Option (Int × Int × List Sg)
 | [] => none
 | s :: r => match (okName s).bind fun v => (readP (f s)).map fun q => (v, q.1, q.2) with
  | some x => some x
  | none => lateF f r
theorem lateF_skip {f : List UInt8 → List UInt8} {s : List UInt8} {r : List (List UInt8)} (h : okName s = none) : lateF f (s :: r) = lateF f r := by rw [lateF, h]; rfl
theorem lateF_bad {f : List UInt8 → List UInt8} {s : List UInt8} {r : List (List UInt8)} {v : Int} (h : okName s = some v) (h2 : readP (f s) = none) : lateF f (s :: r) = lateF f r := by rw [lateF, h, Option.bind_some, h2]; rfl
theorem lateF_hit {f : List UInt8 → List UInt8} {s : List UInt8} {r : List (List UInt8)} {v nx : Int} {L : List Sg} (h : okName s = some v) (h2 : readP (f s) = some (nx, L)) : lateF f (s :: r) = some (v, nx, L) := by rw [lateF, h, Option.bind_some, h2]; rfl
theorem take_rev {α : Type} {l : List α} {k : Nat} {x : α} (h : l[k]? = some x) : (l.take (k + 1)).reverse = x :: (l.take k).reverse := by
 rw [List.take_add_one, h]
 simp
theorem readS_len {H : Type} {D : DS H} {M : Nat} (h : D.good M) (s : ByteArray) : (readS D s).size ≤ M := by
 unfold readS
 split
 ·exact Nat.zero_le _
 ·split
  ·exact Nat.zero_le _
  ·have := (h.fs (numOf D.names s)).2.2
   unfold bs
   rw [size_arr]
   exact this
theorem late_o {H : Type} (w W wA W0 : World) (p : Nat) (D : DS H) (HO : Hid (Own w W p D)) (hT : Tab w) (hE : Errs w) (hA : Below W.heap.size W wA) (hg : D.good 1099511627000) (rz : Nat) (HZ : Hid (wA.heap[rz]? = some (.cells #[.int .i64 0, .slice none 0 0] 24 (0, 0)) ∧ W.heap.size ≤ rz))
  (A : Option Addr) (n cp : Nat) (l : List (List UInt8)) (hn : n ≤ 1099511627776) (hl : l.length = n) (HL : Hid (Sl W0 W0.heap.size 1 A n (l.map encStr))) (HSH : Hid (∀ s ∈ l, s.length ≤ 1000)) (HB0 : Hid (Below wA.heap.size wA W0)) (R : Option (Int × Int × List Sg)) (HR0 : Hid (lateF (fun s => (readS D ⟨s.toArray⟩).data.toList) l.reverse = R))
  (c1 c13 c14 c15 c16 c17 c18 c19 c20 c21 c22 c23 c72 u2 u4 u7 u8 u9 u10 u11 u12 u24 u25 u26 u27 u28 u29 u30 u31 u32 u33 u34 u35 u36 u37 u38 u39 u40 u41 u42 u43 u44 u45 u46 u47 u48 u49 u50 u51 u52 u53 u54 u55 u56 u57 u58 u59 u60 u61 u62 u63 u64 u65 u66 u67 u68 u69 u70 u71 : Value) (Q0 : Exit → Act → World → Prop) (hQ0 : ∀ c (a a' : Act) w, a.defers = a'.defers → Q0 (.panic c) a w → Q0 (.panic c) a' w)
  (hret : ∀ (V : World) (v nx : Int) (A2 : Option Addr) (m c2 : Nat) (L : List Sg) (x6 u7 u8 u9 u10 u11 u12 u24 u25 u26 u27 u28 u29 u30 u31 u32 u33 u34 u35 u36 u37 u38 u39 u40 u41 u42 u43 u44 u45 u46 u47 u48 u49 u50 u51 u52 u53 u54 u55 u56 u57 u58 u59 u60 u61 u62 u63 u64 u65 u66 u67 u68 u69 u70 u71 : Value), Hid (R = some (v, nx, L) ∧ Below W.heap.size W V ∧ V.heap[rz]? = some (.cells #[.int .i64 nx, .slice A2 m c2] 24 (0, 0)) ∧ SegsIn V V.heap.size A2 m L ∧ m ≤ 1099511627000) → Q0 .ret ⟨List.toArray (.pointer (some ⟨p, 0, none⟩) :: c1 :: .int .i64 v :: .pointer (some ⟨rz, 0, none⟩) :: .int .i64 0 :: .slice A n cp :: x6 :: u7 :: u8 :: u9 :: u10 :: u11 :: u12 :: c13 :: c14 :: c15 :: c16 :: c17 :: c18 :: c19 :: c20 :: c21 :: c22 :: c23 :: u24 :: u25 :: u26 :: u27 :: u28 :: u29 :: u30 :: u31 :: u32 :: u33 :: u34 :: u35 :: u36 :: u37 :: u38 :: u39 :: u40 :: u41 :: u42 :: u43 :: u44 :: u45 :: u46 :: u47 :: u48 :: u49 :: u50 :: u51 :: u52 :: u53 :: u54 :: u55 :: u56 :: u57 :: u58 :: u59 :: u60 :: u61 :: u62 :: u63 :: u64 :: u65 :: u66 :: u67 :: u68 :: u69 :: u70 :: u71 :: c72 :: []), []⟩ V)
  (hexit : ∀ (V : World) (x6 u2 u4 u7 u8 u9 u10 u11 u12 u24 u25 u26 u27 u28 u29 u30 u31 u32 u33 u34 u35 u36 u37 u38 u39 u40 u41 u42 u43 u44 u45 u46 u47 u48 u49 u50 u51 u52 u53 u54 u55 u56 u57 u58 u59 u60 u61 u62 u63 u64 u65 u66 u67 u68 u69 u70 u71 : Value), Hid (R = none ∧ Below wA.heap.size wA V) → Q0 (.exit 0) ⟨List.toArray (.pointer (some ⟨p, 0, none⟩) :: c1 :: u2 :: .pointer (some ⟨rz, 0, none⟩) :: u4 :: .slice A n cp :: x6 :: u7 :: u8 :: u9 :: u10 :: u11 :: u12 :: c13 :: c14 :: c15 :: c16 :: c17 :: c18 :: c19 :: c20 :: c21 :: c22 :: c23 :: u24 :: u25 :: u26 :: u27 :: u28 :: u29 :: u30 :: u31 :: u32 :: u33 :: u34 :: u35 :: u36 :: u37 :: u38 :: u39 :: u40 :: u41 :: u42 :: u43 :: u44 :: u45 :: u46 :: u47 :: u48 :: u49 :: u50 :: u51 :: u52 :: u53 :: u54 :: u55 :: u56 :: u57 :: u58 :: u59 :: u60 :: u61 :: u62 :: u63 :: u64 :: u65 :: u66 :: u67 :: u68 :: u69 :: u70 :: u71 :: c72 :: []), []⟩ V) :
  Code.wp Tryz.prog (.loop (loopOf Tryz.f23 0)) Q0 ⟨List.toArray (.pointer (some ⟨p, 0, none⟩) :: c1 :: u2 :: .pointer (some ⟨rz, 0, none⟩) :: u4 :: .slice A n cp :: .int .i64 ((n : Int) - 1) :: u7 :: u8 :: u9 :: u10 :: u11 :: u12 :: c13 :: c14 :: c15 :: c16 :: c17 :: c18 :: c19 :: c20 :: c21 :: c22 :: c23 :: u24 :: u25 :: u26 :: u27 :: u28 :: u29 :: u30 :: u31 :: u32 :: u33 :: u34 :: u35 :: u36 :: u37 :: u38 :: u39 :: u40 :: u41 :: u42 :: u43 :: u44 :: u45 :: u46 :: u47 :: u48 :: u49 :: u50 :: u51 :: u52 :: u53 :: u54 :: u55 :: u56 :: u57 :: u58 :: u59 :: u60 :: u61 :: u62 :: u63 :: u64 :: u65 :: u66 :: u67 :: u68 :: u69 :: u70 :: u71 :: c72 :: []), []⟩ W0 := by
 conv => arg 2; arg 1; whnf
 go_loopw [6] (fun iv wr => ∃ k : Nat, k ≤ n ∧ iv = .int .i64 ((k : Int) - 1) ∧ Hid (Below W0.heap.size W0 wr) ∧ Hid (lateF (fun s => (readS D ⟨s.toArray⟩).data.toList) (l.take k).reverse = R)) (fun iv _ => (intOf iv + 1).toNat)
 case atStart => exact ⟨n, Nat.le_refl _, rfl, Lib.hid (brefl W0), by rw [← hl, List.take_length]; exact HR0⟩
 case round =>
  clear HR0
  obtain ⟨k, hk, rfl, HB, HR⟩ := hrel
  have HBA : Hid (Below wA.heap.size wA wr) := bcall HB0.out HB.out
  cases k with
  |
   zero =>
   have q0 : decide (((0 : Nat) : Int) - 1 ≥ 0) = false := by decide
   go_wp2_with fail
   exact Lib.hid ⟨HR.out.symm, HBA.out⟩
  |
   succ k =>
   obtain ⟨s, hs⟩ : ∃ s, l[k]? = some s := ⟨l[k]'(by omega), List.getElem?_eq_getElem _⟩
   have hsl := HSH.out s (List.mem_of_getElem? hs)
   have HLW := Lib.hid (HL.out.below HB.out)
   obtain ⟨b, off, rfl, hb, hcell⟩ := HLW.out.at_ (show k < n by omega)
   have hc : wr.cell? ⟨b, off + k, none⟩ = some (.string ⟨s.toArray⟩) := hcell k _ (by rw [List.getElem?_map, hs]; rfl)
   have hbw : b < wr.heap.size := Nat.lt_of_lt_of_le hb HB.out.size
   have e1 : ((k + 1 : Nat) : Int) - 1 = (k : Int) := by omega
   rw [e1]
   have q0 : decide ((k : Int) ≥ 0) = true := decide_eq_true (by omega)
   have hkn : (k : Int) < (n : Int) := by omega
   have HRT : Hid (lateF (fun s => (readS D ⟨s.toArray⟩).data.toList) (s :: (l.take k).reverse) = R) := by show _ = _; rw [← take_rev hs]; exact HR.out
   have hz := size_arr s
   obtain ⟨mn, hmn⟩ : ∃ mn : Nat, min 2 s.length = mn := ⟨_, rfl⟩
   have hmi : min (2 : Int) (s.length : Int) = (mn : Int) := by omega
   have hcut := run_from s mn (by omega)
   have HAT := Lib.hid (fun V hV => atoi_pt V (hE.below hV) (s.drop mn) (by rw [List.length_drop]; omega))
   have hwW : Hid (Below w.heap.size w wr) := bcall (bcall HO.out.below hA) HBA.out
   clear hcell HR e1
   go_wp2_with fail
   have HKC : Hid (∀ V, Below wr.heap.size wr V → V.cell? ⟨b, off + k, none⟩ = some (.string ⟨s.toArray⟩)) := fun V hV => (hV.cell (p := ⟨b, off + k, none⟩) hbw).trans hc
   go_region_held3 (fun w' => w'.cell? ⟨b, off + k, none⟩ = some (.string ⟨s.toArray⟩))
    (first
     | assumption
     | exact HKC.out _ HV1.out
     | (refine HKC.out _ ?_; (repeat (first | exact brefl _ | refine Below.drew ?_)); done))
    (first | (go_at_call 53; refine (HAT.out _ (hwW.out.trans (by repeat (first | exact (brefl _).mono hwW.out.size | refine Below.drew ?_)))).mono ?_; rintro e V1 ⟨hv1, z, er, rfl, hcase⟩; have HV1 : Hid (Below wr.heap.size wr V1) := bcall (by repeat (first | exact brefl _ | refine Below.drew ?_)) hv1; have HCA := Lib.hid hcase; clear hv1 hcase))
   all_goals
    have HBV : Hid (Below W0.heap.size W0 V1) := bcall HB.out HV1.out
    have hcV : V1.cell? ⟨b, off + k, none⟩ = some (.string ⟨s.toArray⟩) := (HV1.out.cell (p := ⟨b, off + k, none⟩) hbw).trans hc
    have hbV : b < V1.heap.size := Nat.lt_of_lt_of_le hbw HV1.out.size
    rcases HCA.out with ⟨v, hv, rfl, rfl⟩ | ⟨hv, ty, pp, rfl⟩
    ·have hvr := numT_rng hv
     have HNM := Lib.hid (fun V hV => pname_p V (hT.below hV) z hvr)
     have HKV : Hid (∀ V, Below V1.heap.size V1 V → V.cell? ⟨b, off + k, none⟩ = some (.string ⟨s.toArray⟩)) := fun V hV => (hV.cell (p := ⟨b, off + k, none⟩) hbV).trans hcV
     have hwV : Hid (Below w.heap.size w V1) := bcall hwW.out HV1.out
     have HNV := Lib.hid hv
     clear hv HCA hc HAT HKC
     by_cases hnm : nameP 112 z = s
     ·have hne : (@BEq.beq (List UInt8) instBEqOfDecidableEq (nameP 112 z) s) = true := by rw [hnm]; exact decide_eq_true rfl
      have hne2 : (@BEq.beq (List UInt8) List.instBEq (nameP 112 z) s) = true := by simpa using hnm
      go_wp2_with fail
      go_region_held3 (fun w' => w'.cell? ⟨b, off + k, none⟩ = some (.string ⟨s.toArray⟩))
       (first
        | assumption
        | exact HKV.out _ HV2.out
        | (refine HKV.out _ ?_; (repeat (first | exact brefl _ | refine Below.drew ?_)); done))
       (first | (go_at_call 12; refine (HNM.out _ (hwV.out.trans (by repeat (first | exact (brefl _).mono hwV.out.size | refine Below.drew ?_)))).mono ?_; rintro e V2 ⟨rfl, hv2⟩; have HV2 : Hid (Below V1.heap.size V1 V2) := bcall (by repeat (first | exact brefl _ | refine Below.drew ?_)) hv2; clear hv2))
      all_goals
       have HBV2 : Hid (Below W0.heap.size W0 V2) := bcall HBV.out HV2.out
       have HOK : Hid (okName s = some z) := by show _ = _; unfold okName; rw [hmn, HNV.out, Option.bind_some, if_pos hnm]
       have hc2 : V2.cell? ⟨b, off + k, none⟩ = some (.string ⟨s.toArray⟩) := HKV.out V2 HV2.out
       have HA2 : Hid (Below wA.heap.size wA V2) := bcall HB0.out HBV2.out
       have HRD := Lib.hid (dr_read (HO.out.on (hA.trans (HA2.out.mono hA.size))) ⟨s.toArray⟩ (by rw [size_arr]; unfold maxLen; omega))
       clear hnm HNM HKV hcut hz hcV
       go_wp2_with fail
       refine HRD.out.mono ?_
       rintro e V3 ⟨rfl, ho3, hb3⟩
       obtain ⟨u, hu⟩ : ∃ u : List UInt8, readS D ⟨s.toArray⟩ = ⟨u.toArray⟩ := ⟨(readS D ⟨s.toArray⟩).data.toList, by cases readS D ⟨s.toArray⟩; simp⟩
       have hul : u.length ≤ 1099511627000 := by
        have h1 := readS_len hg ⟨s.toArray⟩
        rw [hu, size_arr] at h1
        exact h1
       have HFU : Hid ((readS D ⟨s.toArray⟩).data.toList = u) := by show _ = _; rw [hu]
       have HRP := Lib.hid (read_pt V3 u hul)
       have HBV3 : Hid (Below W0.heap.size W0 V3) := bcall HBV2.out hb3
       rw [hu]
       clear hu hb3 ho3 HRD
       go_wp2_with fail
       refine HRP.out.mono ?_
       rintro e V4 ⟨hb4, hq⟩
       have HBV4 : Hid (Below W0.heap.size W0 V4) := bcall HBV3.out hb4
       cases hrp : readP u with
       |
        none =>
        rw [hrp] at hq
        simp only at hq
        subst hq
        have HRN : Hid (lateF (fun s => (readS D ⟨s.toArray⟩).data.toList) (l.take k).reverse = R) := by show _ = _; rw [← lateF_bad HOK.out (by rw [HFU.out]; exact hrp)]; exact HRT.out
        clear hret hexit hrp hb4 HRP
        go_wp2_with fail
        go_roundw
        case rel => exact ⟨k, by omega, rfl, Lib.hid (bnew HBV4.out _), HRN⟩
        case measure => first | (simp [intOf]; done) | (simp [intOf]; omega)
       |
        some q =>
        obtain ⟨nx, L⟩ := q
        rw [hrp] at hq
        simp only at hq
        obtain ⟨A2, m, c2, rfl, hsg, hm, hmc, hnew⟩ := hq
        have HRF : Hid (R = some (z, nx, L)) := by show _ = _; rw [← HRT.out]; exact lateF_hit HOK.out (by rw [HFU.out]; exact hrp)
        have HZ4 : Hid (V4.heap[rz]? = some (.cells #[.int .i64 0, .slice none 0 0] 24 (0, 0))) := ((bcall HB0.out HBV4.out).block rz (Array.getElem?_eq_some_iff.1 HZ.out.1).1).trans HZ.out.1
        have hrz4 := (Array.getElem?_eq_some_iff.1 HZ4.out).1
        obtain ⟨V5, hV5⟩ : ∃ V5, V4.alloc (.cells #[.int .i64 nx, .slice A2 m c2] 24) = V5 := ⟨_, rfl⟩
        have HZ5 : Hid (V5.heap[rz]? = some (.cells #[.int .i64 0, .slice none 0 0] 24 (0, 0))) := by show _ = _; rw [← hV5]; exact (heap_alloc_old _ _ hrz4).trans HZ4.out
        have HP5 : Hid (V5.heap[V4.heap.size]? = some (.cells #[.int .i64 nx, .slice A2 m c2] 24 (0, 0))) := by show _ = _; rw [← hV5]; exact heap_alloc_new _ _
        have HB5 : Hid (Below V4.heap.size V4 V5) := by show Below _ _ _; rw [← hV5]; exact bnew (brefl V4) _
        obtain ⟨y0, y1, j0, j1⟩ := cells2 HZ5.out
        obtain ⟨v0, v1, _, _⟩ := cells2 HP5.out
        have hne5 : V4.heap.size ≠ rz := by omega
        have HSG : Hid (SegsIn V4 V4.heap.size A2 m L ∧ m ≤ 1099511627000) := ⟨hsg, hm⟩
        have hrz3 : rz < V3.heap.size := Nat.lt_of_lt_of_le (Array.getElem?_eq_some_iff.1 HZ.out.1).1 (bcall HB0.out HBV3.out).size
        clear hrp hb4 HRP hsg hm hmc hexit
        go_wp2_with fail
        refine wp_region_noPanic ?_
        go_region
        all_goals
         dsimp only [NoPanic]
         go_wp2_with fail
         have hA5 : Below W.heap.size W V5 := (hA.trans ((bcall HB0.out HBV4.out).mono hA.size)).trans (HB5.out.mono (Nat.le_trans hA.size (bcall HB0.out HBV4.out).size))
         refine hret _ z nx A2 m c2 L _ _ _ _ _ _ _ _ _ _ _ _ _ _ _ _ _ _ _ _ _ _ _ _ _ _ _ _ _ _ _ _ _ _ _ _ _ _ _ _ _ _ _ _ _ _ _ _ _ _ _ _ _ _ _ (Lib.hid ⟨HRF.out, ((hA5.setCell HZ.out.2 _).setCell HZ.out.2 _).drew, two_set HZ5.out _ _, ?_, HSG.out.2⟩)
         refine ⟨?_, HSG.out.1.2⟩
         have h5 := (HSG.out.1.1.below HB5.out).more (B' := V5.heap.size) HB5.out.size
         refine ⟨h5.1, fun hn0 => ?_⟩
         obtain ⟨b2, off2, e2, hb2, hc2⟩ := h5.2 hn0
         refine ⟨b2, off2, e2, by simpa [World.setCell] using hb2, fun j u hu => ?_⟩
         have hb2z : b2 ≠ rz := by
          have := hnew _ e2
          simp only at this
          omega
         rw [← hc2 j u hu]
         exact (World.cell?_setCell_other _ _ _ _ (by intro e; injection e with e; exact hb2z e.symm)).trans (World.cell?_setCell_other _ _ _ _ (by intro e; injection e with e; exact hb2z e.symm))
     ·have hne : (@BEq.beq (List UInt8) instBEqOfDecidableEq (nameP 112 z) s) = false := decide_eq_false hnm
      have hne2 : (@BEq.beq (List UInt8) List.instBEq (nameP 112 z) s) = false := beq_eq_false_iff_ne.2 hnm
      go_wp2_with fail
      go_region_held3 (fun w' => w'.cell? ⟨b, off + k, none⟩ = some (.string ⟨s.toArray⟩))
       (first
        | assumption
        | exact HKV.out _ HV2.out
        | (refine HKV.out _ ?_; (repeat (first | exact brefl _ | refine Below.drew ?_)); done))
       (first | (go_at_call 12; refine (HNM.out _ (hwV.out.trans (by repeat (first | exact (brefl _).mono hwV.out.size | refine Below.drew ?_)))).mono ?_; rintro e V2 ⟨rfl, hv2⟩; have HV2 : Hid (Below V1.heap.size V1 V2) := bcall (by repeat (first | exact brefl _ | refine Below.drew ?_)) hv2; clear hv2))
      all_goals
       have HBV2 : Hid (Below W0.heap.size W0 V2) := bcall HBV.out HV2.out
       have HOK : Hid (okName s = none) := by show _ = _; unfold okName; rw [hmn, HNV.out, Option.bind_some, if_neg hnm]
       have HRN : Hid (lateF (fun s => (readS D ⟨s.toArray⟩).data.toList) (l.take k).reverse = R) := by show _ = _; rw [← lateF_skip HOK.out]; exact HRT.out
       clear hret hexit hnm HNM HKV
       clear hcut hz
       go_wp2_with fail
       go_roundw
       case rel => exact ⟨k, by omega, rfl, HBV2, HRN⟩
       case measure => first | (simp [intOf]; done) | (simp [intOf]; omega)
    ·have HOK : Hid (okName s = none) := by show _ = _; unfold okName; rw [hmn, hv]; rfl
     have HRN : Hid (lateF (fun s => (readS D ⟨s.toArray⟩).data.toList) (l.take k).reverse = R) := by show _ = _; rw [← lateF_skip HOK.out]; exact HRT.out
     clear hv HCA hc HAT
     go_wp2_with fail
     go_quiet (fail)
     clear hret hexit
     go_wp2_with fail
     go_roundw
     case rel => exact ⟨k, by omega, rfl, Lib.hid (below_drewN HBV.out _), HRN⟩
     case measure => first | (simp [intOf]; done) | (simp [intOf]; omega)
end Go.Proofs.YtkhemhiifhggmaaGreatDoor
namespace Go.Proofs.YtkhemhiifhggmaaGreatDoor
open Go.RowKit Go.Maps Go.Sort
set_option linter.unusedVariables false
def sortedN (ss : List (List UInt8)) : List (List UInt8) := ss.mergeSort (fun x y => decide (x ≤ y))
def latestD {H : Type} (D : DS H) (ss : List (List UInt8)) : Option (Int × Int × List Sg) := lateF (fun s => (readS D ⟨s.toArray⟩).data.toList) (sortedN ss).reverse
def LatePost (w : World) (o : Option (Int × Int × List Sg)) (e : Ending) (w' : World) : Prop :=
 match o with
 | none => e = .returned (.tuple #[.int .i64 0, .agg #[.int .i64 0, .slice none 0 0], .int .i64 11])
 | some (v, nx, l) => ∃ A n cp, e = .returned (.tuple #[.int .i64 v, .agg #[.int .i64 nx, .slice A n cp], .int .i64 0]) ∧ SegsIn w' w'.heap.size A n l ∧ n ≤ 1099511627000
theorem results_cell3 {fn : Func} {p t u : Tmp} {ty : TypeId} (h : fn.results = #[.tmp t, .cell p ty, .tmp u]) {P : Program} (tmps : Array Value) (w : World) (g : Nat) (cs : Array Value)
  (hp : tmps.getD p undef = .pointer (some ⟨g, 0, none⟩)) (hl : (loadVar ty ⟨g, 0, none⟩).run P w = .ok (.agg cs) w) :
  (results fn tmps).run P w = .ok (.tuple #[tmps.getD t undef, .agg cs, tmps.getD u undef]) w := by
 have hp' : tmps[p]?.getD undef = .pointer (some ⟨g, 0, none⟩) := by simpa using hp
 simp [results, h, hp', asAddr, hl]
theorem dr_down {H : Type} {w W : World} {p : Nat} {D : DS H} (h : Own w W p D) : Calls Tryz.prog 52 #[.pointer (some ⟨p, 0, none⟩)] W fun e w' => e = .returned (.bool D.down) ∧ Below W.heap.size W w' := by
 obtain ⟨F, rfl, h1, h2⟩ := h
 exact (down_any W F D h1).mono fun e' w' hh => hh
theorem latest_any {H : Type} (w W : World) (p : Nat) (D : DS H) (h : Own w W p D) (hT : Tab w) (hE : Errs w) (hf : D.fits) (hd : D.down = false) (hg : D.good 1099511627000) (hnm : ∀ s ∈ strKeys D.names, s.length ≤ 1000) :
  Calls Tryz.prog 23 #[.pointer (some ⟨p, 0, none⟩)] W fun e w' => ∃ ss, ss.Perm (strKeys D.names) ∧ LatePost W (latestD D ss) e w' ∧ Own w w' p D ∧ Below W.heap.size W w' := by
 have HO := Lib.hid h
 obtain ⟨wA, hwA⟩ : ∃ wA, W.alloc (.cells #[.int .i64 0, .slice none 0 0] 24) = wA := ⟨_, rfl⟩
 have hA : Below W.heap.size W wA := by rw [← hwA]; exact bnew (brefl W) _
 have hZ : wA.heap[W.heap.size]? = some (.cells #[.int .i64 0, .slice none 0 0] 24 (0, 0)) := by rw [← hwA]; exact heap_alloc_new _ _
 have HZ := Lib.hid hZ
 have HDN := Lib.hid (dr_down (h.on hA))
 rw [hd] at HDN
 go_enter Tryz.func23, Tryz.ntmps23
 go_wp2_with fail
 refine HDN.out.mono ?_
 rintro e w1 ⟨rfl, hb1⟩
 have HB1 := Lib.hid hb1
 have HLS := Lib.hid (dr_list (h.on (hA.trans (hb1.mono hA.size))) hf hd)
 clear hb1
 go_wp2_with fail
 refine HLS.out.mono ?_
 rintro e w2 ⟨⟨v, ss, rfl, hperm, hown, hb2⟩, ho2⟩
 obtain ⟨A, cp, rfl, _⟩ := own_shape hown
 have HB2 : Hid (Below wA.heap.size wA w2) := bcall HB1.out hb2
 obtain ⟨n, hn⟩ : ∃ n, ss.length = n := ⟨_, rfl⟩
 have hln : (sortedN ss).length = n := by unfold sortedN; rw [List.length_mergeSort]; exact hn
 have hnb : n ≤ 1099511627776 := by
  obtain ⟨F, _, hdk, _⟩ := HO.out
  obtain ⟨n0, hc0, hm0⟩ := hdk.nam
  have h1 := hm0.size_le
  have h2 := hperm.length_eq
  rw [strKeys_length] at h2
  have h3 := hf.c1
  omega
 have HSL : Hid (Sl w2 w2.heap.size 1 A n ((sortedN ss).map encStr)) := by rw [hn] at hown; exact Sl.of_own hown
 have HSH : Hid (∀ s ∈ sortedN ss, s.length ≤ 1000) := fun s hs => hnm s (hperm.mem_iff.1 (List.mem_mergeSort.1 hs))
 have HPM := Lib.hid hperm
 rw [hn]
 obtain ⟨R, hR⟩ : ∃ R, latestD D ss = R := ⟨_, rfl⟩
 have HR := Lib.hid hR
 clear hown hb2 ho2 hn hperm hR HLS HDN
 go_wp2_with fail
 refine late_o w W wA w2 p D HO hT hE hA hg W.heap.size (Lib.hid ⟨HZ.out, Nat.le_refl _⟩) A n cp (sortedN ss) hnb hln HSL HSH HB2 R HR _ _ _ _ _ _ _ _ _ _ _ _ _ _ _ _ _ _ _ _ _ _ _ _ _ _ _ _ _ _ _ _ _ _ _ _ _ _ _ _ _ _ _ _ _ _ _ _ _ _ _ _ _ _ _ _ _ _ _ _ _ _ _ _ _ _ _ _ _ _ (fun c a a' w hd h => by cases a; cases a'; cases hd; exact h) ?_ ?_
 ·intro V v nx A2 m c2 L x6 u7 u8 u9 u10 u11 u12 u24 u25 u26 u27 u28 u29 u30 u31 u32 u33 u34 u35 u36 u37 u38 u39 u40 u41 u42 u43 u44 u45 u46 u47 u48 u49 u50 u51 u52 u53 u54 u55 u56 u57 u58 u59 u60 u61 u62 u63 u64 u65 u66 u67 u68 u69 u70 u71 HV
  go_wp2_with fail
  refine bodyPost_ret (results_cell3 rfl _ _ _ _ rfl (load_point HV.out.2.2.1 rfl)) rfl ?_
  refine ⟨ss, HPM.out, ?_, HO.out.on HV.out.2.1, HV.out.2.1⟩
  rw [HR.out, HV.out.1]
  exact ⟨A2, m, c2, rfl, HV.out.2.2.2.1, HV.out.2.2.2.2⟩
 ·intro V x6 u2 u4 u7 u8 u9 u10 u11 u12 u24 u25 u26 u27 u28 u29 u30 u31 u32 u33 u34 u35 u36 u37 u38 u39 u40 u41 u42 u43 u44 u45 u46 u47 u48 u49 u50 u51 u52 u53 u54 u55 u56 u57 u58 u59 u60 u61 u62 u63 u64 u65 u66 u67 u68 u69 u70 u71 HV
  have hkz := (HV.out.2.block W.heap.size (Array.getElem?_eq_some_iff.1 hZ).1).trans hZ
  obtain ⟨y0, y1, j0, j1⟩ := cells2 hkz
  have HKZ := Lib.hid hkz
  clear hkz
  go_wp2_with fail
  refine bodyPost_ret (results_cell3 rfl _ _ _ _ rfl (load_point (two_set HKZ.out _ _) rfl)) rfl ?_
  have hbv : Below W.heap.size W V := hA.trans (HV.out.2.mono hA.size)
  refine ⟨ss, HPM.out, ?_, HO.out.on ((hbv.setCell (Nat.le_refl _) _).setCell (Nat.le_refl _) _), (hbv.setCell (Nat.le_refl _) _).setCell (Nat.le_refl _) _⟩
  rw [HR.out, HV.out.1]
  rfl
end Go.Proofs.YtkhemhiifhggmaaGreatDoor
namespace Go.Proofs.YtkhemhiifhggmaaGreatDoor
open Go.RowKit Go.Sort
def sortS (zs : List (List UInt8)) : List (List UInt8) := zs.mergeSort fun x y => decide (x ≤ y)
theorem sortS_mem (zs : List (List UInt8)) (x : List UInt8) : x ∈ sortS zs ↔ x ∈ zs := List.mem_mergeSort
theorem sortS_len (zs : List (List UInt8)) : (sortS zs).length = zs.length := List.length_mergeSort _
theorem sortS_le (zs : List (List UInt8)) : (sortS zs).Pairwise fun x y => x ≤ y := by
 have h := List.pairwise_mergeSort (le := fun x y : List UInt8 => decide (x ≤ y)) (fun a b c h1 h2 => decide_eq_true (List.le_trans (of_decide_eq_true h1) (of_decide_eq_true h2))) (fun a b => by
  rcases List.le_total a b with h | h
  ·simp [h]
  ·simp [h]) zs
 exact h.imp fun h => by simpa using h
theorem sle_lt {a b : List UInt8} (h : a ≤ b) (hn : a ≠ b) : a < b := Classical.byContradiction fun h2 => hn (List.le_antisymm h h2)
theorem slt_ne {a b : List UInt8} (h : a < b) : a ≠ b := fun e => by subst e; exact List.lt_irrefl a h
theorem slt_ext : ∀ {l m : List (List UInt8)}, l.Pairwise (fun x y => x < y) → m.Pairwise (fun x y => x < y) → (∀ x, x ∈ l ↔ x ∈ m) → l = m
 | [], [], _, _, _ => rfl
 | [], y :: m, _, _, h => absurd ((h y).2 (List.mem_cons_self ..)) List.not_mem_nil
 | x :: l, [], _, _, h => absurd ((h x).1 (List.mem_cons_self ..)) List.not_mem_nil
 |
  x :: l, y :: m, h1, h2, h => by
  obtain ⟨a1, a2⟩ := List.pairwise_cons.1 h1
  obtain ⟨b1, b2⟩ := List.pairwise_cons.1 h2
  have hxy : x = y := by
   have hx := (h x).1 (List.mem_cons_self ..)
   have hy := (h y).2 (List.mem_cons_self ..)
   rcases List.mem_cons.1 hx with e | hx
   ·exact e
   ·rcases List.mem_cons.1 hy with e | hy
    ·exact e.symm
    ·exact absurd (List.lt_trans (b1 x hx) (a1 y hy)) (List.lt_irrefl _)
  subst hxy
  rw [slt_ext a2 b2 fun z => ?_]
  constructor
  ·intro hz
   rcases List.mem_cons.1 ((h z).1 (List.mem_cons_of_mem _ hz)) with e | hz'
   ·exact absurd e.symm (slt_ne (a1 z hz))
   ·exact hz'
  ·intro hz
   rcases List.mem_cons.1 ((h z).2 (List.mem_cons_of_mem _ hz)) with e | hz'
   ·exact absurd e.symm (slt_ne (b1 z hz))
   ·exact hz'
theorem compactS_upto {d : Array (List UInt8)} (hs : ∀ j, j + 1 < d.size → d[j]! ≤ d[j + 1]!) : ∀ m, m ≤ d.size → (Lib.compactUpTo d m).Pairwise (fun x y => x < y) ∧ (∀ x ∈ Lib.compactUpTo d m, (∃ j, j < m ∧ d[j]! = x) ∧ (0 < m → x ≤ d[m - 1]!)) ∧ ∀ j, j < m → d[j]! ∈ Lib.compactUpTo d m
 |
  0, _ => by
  have : Lib.compactUpTo d 0 = [] := rfl
  rw [this]
  exact ⟨List.Pairwise.nil, fun x hx => absurd hx List.not_mem_nil, fun j hj => absurd hj (Nat.not_lt_zero _)⟩
 |
  m + 1, hm => by
  obtain ⟨i1, i2, i3⟩ := compactS_upto hs m (by omega)
  rw [Lib.compactUpTo_succ]
  have hprev : 0 < m → d[m - 1]! ≤ d[m]! := fun h0 => by
   have := hs (m - 1) (by omega)
   rwa [show m - 1 + 1 = m by omega] at this
  have hle : ∀ x ∈ Lib.compactUpTo d m, x ≤ d[m]! := fun x hx => by
   obtain ⟨⟨j, hj, _⟩, h2⟩ := i2 x hx
   exact List.le_trans (h2 (by omega)) (hprev (by omega))
  by_cases hk : Lib.keeps d m = true
  ·rw [if_pos hk]
   refine ⟨List.pairwise_append.2 ⟨i1, List.pairwise_singleton _ _, fun x hx y hy => ?_⟩, fun x hx => ?_, fun j hj => ?_⟩
   ·rw [List.mem_singleton.1 hy]
    obtain ⟨⟨j, hj, _⟩, h2⟩ := i2 x hx
    have h3 := h2 (by omega)
    have h4 := hprev (by omega)
    have h5 : d[m - 1]! ≠ d[m]! := by
     intro e
     rw [Lib.keeps_neg (by omega) e.symm] at hk
     cases hk
    exact List.lt_of_le_of_lt h3 (sle_lt h4 h5)
   ·rw [Nat.add_sub_cancel]
    rcases List.mem_append.1 hx with hx | hx
    ·obtain ⟨⟨j, hj, h1⟩, _⟩ := i2 x hx
     exact ⟨⟨j, by omega, h1⟩, fun _ => hle x hx⟩
    ·rw [List.mem_singleton.1 hx]
     exact ⟨⟨m, by omega, rfl⟩, fun _ => List.le_refl _⟩
   ·by_cases e : j = m
    ·rw [e]; exact List.mem_append_right _ (List.mem_singleton.2 rfl)
    ·exact List.mem_append_left _ (i3 j (by omega))
  ·rw [if_neg hk, List.append_nil]
   have hm0 : 0 < m := by
    rcases Nat.eq_zero_or_pos m with h0 | h0
    ·subst h0; exact absurd (Lib.keeps_lt_one d 0 (by omega)) hk
    ·exact h0
   have he : d[m]! = d[m - 1]! := by
    apply Classical.byContradiction
    intro hne
    exact hk (Lib.keeps_pos hne)
   refine ⟨i1, fun x hx => ?_, fun j hj => ?_⟩
   ·rw [Nat.add_sub_cancel]
    obtain ⟨⟨j, hj, h1⟩, _⟩ := i2 x hx
    exact ⟨⟨j, by omega, h1⟩, fun _ => hle x hx⟩
   ·by_cases e : j = m
    ·rw [e, he]; exact i3 (m - 1) (by omega)
    ·exact i3 j (by omega)
theorem compactS_sorted {zs : List (List UInt8)} (h : zs.Pairwise fun x y => x ≤ y) : (Lib.compact zs).Pairwise (fun x y => x < y) ∧ ∀ x, x ∈ Lib.compact zs ↔ x ∈ zs := by
 have hget : ∀ j, j < zs.length → zs.toArray[j]! = zs[j]?.getD [] := fun j hj => by
  rw [getElem!_pos _ j (by simpa using hj), List.getElem?_eq_getElem hj]
  rfl
 have hs : ∀ j, j + 1 < zs.toArray.size → zs.toArray[j]! ≤ zs.toArray[j + 1]! := fun j hj => by
  have hj' : j + 1 < zs.length := by simpa using hj
  rw [hget j (by omega), hget (j + 1) hj', List.getElem?_eq_getElem (by omega), List.getElem?_eq_getElem hj']
  exact List.pairwise_iff_getElem.1 h j (j + 1) (by omega) hj' (by omega)
 obtain ⟨h1, h2, h3⟩ := compactS_upto hs zs.length (by simp)
 refine ⟨h1, fun x => ⟨fun hx => ?_, fun hx => ?_⟩⟩
 ·obtain ⟨⟨j, hj, e⟩, _⟩ := h2 x hx
  rw [hget j hj, List.getElem?_eq_getElem hj] at e
  rw [← e]
  exact List.getElem_mem hj
 ·obtain ⟨j, hj⟩ := List.mem_iff_getElem?.1 hx
  have hjl := (List.getElem?_eq_some_iff.1 hj).1
  have := h3 j hjl
  rw [hget j hjl, hj] at this
  exact this
theorem sortS_own {W : World} {base n c : Nat} {A : Option Addr} {zs : List (List UInt8)} (h : W.ownsRow base 9 1 (.slice A n c) n (zs.map encStr)) (hn : n < 4611686018427387904) :
  Calls Tryz.prog 38 #[.slice A n c] W fun e w' => e = .returned (.tuple #[]) ∧ w'.ownsRow base 9 1 (.slice A n c) n ((sortS zs).map encStr) ∧ W.grownBy w' (Value.slice A n c).ownBlock := by
 have hl : zs.length = n := by simpa using h.1
 by_cases h0 : n = 0
 ·subst h0
  have hz : zs = [] := List.eq_nil_of_length_eq_zero hl
  subst hz
  refine (Tryz.slices_Sort_string_none A c W).mono ?_
  rintro e w' ⟨rfl, rfl⟩
  exact ⟨rfl, by simpa [sortS] using h, World.grownBy.refl _ _⟩
 ·obtain ⟨g, rfl, hb, hg⟩ := own_head h (by omega)
  obtain ⟨g', cap, hv, _, _, _, _, _, hH⟩ := Lib.holds_of_ownsRow h (by simp)
  injection hv with hv1 _ hv3
  injection hv1 with hv1
  injection hv1 with hv1 _ _
  subst hv1 hv3
  have hS := Tryz.slices_Sort_string g 0 c zs W hH hg (by omega)
  rw [hl] at hS
  refine hS.mono ?_
  rintro e w' ⟨rfl, q, os, rfl⟩
  obtain ⟨cap, cur, hv, h1, h2, h3, h4, h5⟩ : ∃ cap cur, c = cap ∧ W.heap[g]? = some (.cells cur 9 (0, 0)) ∧ n ≤ cap ∧ cap ≤ maxLen ∧ cur.size = cap * 1 ∧ base ≤ g := by
   rcases h.2 with ⟨hx, _⟩ | ⟨g2, cap, cur, hx, hb2, hg2, h1, h2, h3, _⟩
   ·cases hx
   ·injection hx with hx1 _ hx3
    injection hx1 with hx1
    injection hx1 with hx1 _ _
    subst hx1
    exact ⟨cap, cur, hx3, hg2, h1, h2, h3, hb2⟩
  subst hv
  have := ownsRow_sorted (n := q) (os := os) (ss := zs) (ts := sortS zs) (sortS_len zs) h5 h1 (by omega) h3 h4
  rw [hl] at this
  exact ⟨rfl, this, grownBy_sorted _⟩
theorem compactS_own {W : World} {base n c : Nat} {A : Option Addr} {zs : List (List UInt8)} (h : W.ownsRow base 9 1 (.slice A n c) n (zs.map encStr)) (hn : n < 4611686018427387904) (h0 : 0 < n) :
  Calls Tryz.prog 39 #[.slice A n c] W fun e w' => e = .returned (.slice A (Lib.compact zs).length c) ∧ w'.ownsRow base 9 1 (.slice A (Lib.compact zs).length c) (Lib.compact zs).length ((Lib.compact zs).map encStr) ∧ W.grownBy w' (Value.slice A n c).ownBlock := by
 have hl : zs.length = n := by simpa using h.1
 obtain ⟨g, rfl, hb, hg⟩ := own_head h (by omega)
 obtain ⟨g', cap, hv, _, _, hnc, _, _, hH⟩ := Lib.holds_of_ownsRow h (by simp)
 injection hv with hv1 _ hv3
 injection hv1 with hv1
 injection hv1 with hv1 _ _
 subst hv1 hv3
 have hS := Tryz.slices_Compact_string g 0 c zs W hH (by omega) (by omega)
 rw [hl] at hS
 refine hS.mono ?_
 rintro e w' ⟨rfl, q, rfl⟩
 have hle := Lib.compact_length_le zs
 have := Lib.ownsRow_putRow (q := q) (k := (Lib.compact zs).length) (ys := Lib.compact zs ++ List.replicate (n - (Lib.compact zs).length) []) h (by rw [List.length_append, List.length_replicate]; omega) (by omega)
 rw [List.take_left' rfl] at this
 refine ⟨rfl, this, ?_⟩
 have := grownBy_sorted (w := W) (g := g) (n := q) (os := #[]) (Lib.compact zs ++ List.replicate (n - (Lib.compact zs).length) []).toArray
 rw [grow_empty] at this
 exact this
end Go.Proofs.YtkhemhiifhggmaaGreatDoor
namespace Go.Proofs.YtkhemhiifhggmaaGreatDoor
open Go.Sort
set_option linter.unusedVariables false
def digs : Nat → Nat → List UInt8
 | 0, _ => []
 | k + 1, u => digs k (u / 10) ++ [UInt8.ofNat (48 + u % 10)]
theorem digs_len : ∀ k u, (digs k u).length = k
 | 0, _ => rfl
 |
  k + 1, u => by
  unfold digs
  rw [List.length_append, digs_len k]
  rfl
theorem digs_zero : ∀ k, digs k 0 = List.replicate k 48
 | 0 => rfl
 |
  k + 1 => by
  unfold digs
  rw [show 0 / 10 = 0 from rfl, digs_zero k, List.replicate_succ']
  rfl
theorem digs_ch : ∀ k u, ∀ c ∈ digs k u, 48 ≤ c.toNat ∧ c.toNat ≤ 57
 | 0, _, c, hc => absurd hc List.not_mem_nil
 |
  k + 1, u, c, hc => by
  unfold digs at hc
  rcases List.mem_append.1 hc with hc | hc
  ·exact digs_ch k _ c hc
  ·rw [List.mem_singleton.1 hc]
   have : (UInt8.ofNat (48 + u % 10)).toNat = 48 + u % 10 := by
    rw [UInt8.toNat_ofNat']
    omega
   omega
theorem pad_digs : ∀ k u, u < 10 ^ (k + 1) → List.replicate (k + 1 - (Lib.decDigits u).length) 48 ++ Lib.decDigits u = digs (k + 1) u
 |
  k, u, h => by
  by_cases h10 : u < 10
  ·rw [Lib.decDigits, dif_pos h10]
   unfold digs
   rw [show u / 10 = 0 by omega, digs_zero, show u % 10 = u by omega]
   rfl
  ·rw [Lib.decDigits, dif_neg h10]
   unfold digs
   match k, h with
   | 0, h => omega
   |
    k + 1, h =>
    rw [← pad_digs k (u / 10) (by rw [Nat.pow_succ] at h; omega), List.length_append, List.append_assoc, List.length_singleton, Nat.add_sub_add_right]
theorem parse_app (b : List UInt8) : ∀ (a : List UInt8) (acc v : Nat), Lib.parseUint10 acc a = .ok v → Lib.parseUint10 acc (a ++ b) = Lib.parseUint10 v b
 |
  [], acc, v, h => by
  unfold Lib.parseUint10 at h
  injection h with h
  rw [h]
  rfl
 |
  c :: r, acc, v, h => by
  rw [List.cons_append]
  unfold Lib.parseUint10 at h
  conv => lhs; unfold Lib.parseUint10
  split at h
  ·rename_i hc
   rw [if_pos hc]
   split at h
   ·cases h
   ·rename_i h1
    rw [if_neg h1]
    split at h
    ·cases h
    ·rename_i h2
     rw [if_neg h2]
     exact parse_app b r _ v h
  ·cases h
theorem parse_digs : ∀ k u, k ≤ 18 → u < 10 ^ k → Lib.parseUint10 0 (digs k u) = .ok u
 |
  0, u, _, h => by
  have : u = 0 := by simpa using h
  subst this
  rfl
 |
  k + 1, u, hk, h => by
  have h2 : u / 10 < 10 ^ k := by rw [Nat.pow_succ] at h; omega
  have h3 : (10 : Nat) ^ k ≤ 10 ^ 17 := Nat.pow_le_pow_right (by decide) (by omega)
  have h4 : (10 : Nat) ^ 17 = 100000000000000000 := by decide
  have h5 : (UInt8.ofNat (48 + u % 10)).toNat = 48 + u % 10 := by
   rw [UInt8.toNat_ofNat']
   omega
  unfold digs
  rw [parse_app _ _ _ _ (parse_digs k (u / 10) (by omega) h2)]
  unfold Lib.parseUint10 Lib.parseUint10
  rw [h5, if_pos (by omega), if_neg (by omega), if_neg (by omega)]
  congr 1
  omega
theorem lt_app {c d : List UInt8} : ∀ {a b : List UInt8}, a.length = b.length → a < b → a ++ c < b ++ d
 | [], [], _, h => absurd h (List.lt_irrefl _)
 | [], _ :: _, h, _ => by cases h
 | _ :: _, [], h, _ => by cases h
 |
  x :: a, y :: b, hl, h => by
  rw [List.cons_append, List.cons_append]
  rw [List.cons_lt_cons_iff] at h ⊢
  rcases h with h | ⟨h1, h2⟩
  ·exact .inl h
  ·exact .inr ⟨h1, lt_app (by simpa using hl) h2⟩
theorem lt_pre (a : List UInt8) {c d : List UInt8} (h : c < d) : a ++ c < a ++ d := by
 induction a with
 | nil => exact h
 | cons x r ih => rw [List.cons_append, List.cons_append, List.cons_lt_cons_iff]; exact .inr ⟨rfl, ih⟩
theorem digs_lt : ∀ k u v, v < 10 ^ k → u < v → digs k u < digs k v
 |
  0, u, v, h, h2 => by
  have : v = 0 := by simpa using h
  omega
 |
  k + 1, u, v, h, h2 => by
  unfold digs
  by_cases hd : u / 10 = v / 10
  ·rw [hd]
   refine lt_pre _ ?_
   rw [List.cons_lt_cons_iff]
   left
   rw [UInt8.lt_iff_toNat_lt, UInt8.toNat_ofNat', UInt8.toNat_ofNat']
   omega
  ·exact lt_app (by rw [digs_len, digs_len]) (digs_lt k (u / 10) (v / 10) (by rw [Nat.pow_succ] at h; omega) (by omega))
theorem name_form {c : UInt8} {n : Int} (hn : 1 ≤ n ∧ n ≤ 999999999) (hc : 97 ≤ c.toNat ∧ c.toNat ≤ 122) : nameP c n = c :: 95 :: digs 9 n.toNat := by
 unfold nameP
 rw [if_pos ⟨hn, hc⟩]
 unfold pad9 Lib.itoa
 rw [if_neg (by omega), pad_digs 8 n.toNat (by
                        have : (10 : Nat) ^ (8 + 1) = 1000000000 := by decide
                        omega)]
 rfl
theorem name_len {c : UInt8} {n : Int} (hn : 1 ≤ n ∧ n ≤ 999999999) (hc : 97 ≤ c.toNat ∧ c.toNat ≤ 122) : (nameP c n).length = 11 := by
 rw [name_form hn hc]
 simp [digs_len]
theorem name_le (c : UInt8) (n : Int) : (nameP c n).length ≤ 11 := by
 by_cases h : (1 ≤ n ∧ n ≤ 999999999) ∧ 97 ≤ c.toNat ∧ c.toNat ≤ 122
 ·rw [name_len h.1 h.2]; omega
 ·unfold nameP; rw [if_neg h]; simp
theorem name_lt {c : UInt8} {n m : Int} (hn : 1 ≤ n) (hm : m ≤ 999999999) (hc : 97 ≤ c.toNat ∧ c.toNat ≤ 122) (h : n < m) : nameP c n < nameP c m := by
 rw [name_form ⟨hn, by omega⟩ hc, name_form ⟨by omega, hm⟩ hc]
 have := digs_lt 9 n.toNat m.toNat (by
                    have : (10 : Nat) ^ 9 = 1000000000 := by decide
                    omega) (by omega)
 exact lt_pre [c, 95] this
theorem name_ok {n : Int} (hn : 1 ≤ n ∧ n ≤ 999999999) : okName (nameP 112 n) = some n := by
 have hf := name_form (c := 112) hn (by decide)
 have hd : (nameP 112 n).drop (min 2 (nameP 112 n).length) = digs 9 n.toNat := by
  rw [hf]
  simp [digs_len]
 have hlt : n.toNat < 10 ^ 9 := by
  have : (10 : Nat) ^ 9 = 1000000000 := by decide
  omega
 have hp := parse_digs 9 n.toNat (by decide) hlt
 have hnum : numT (digs 9 n.toNat) = some n := by
  have hch := digs_ch 9 n.toNat
  have hlen := digs_len 9 n.toNat
  generalize digs 9 n.toNat = t at hp hch hlen
  match t, hlen with
  |
   c :: r, _ =>
   have h1 := hch c (List.mem_cons_self ..)
   unfold numT
   rw [Lib.atoiAll_plain c r (by omega) (by omega)]
   unfold Lib.parseMag
   rw [if_neg (by simp), hp]
   unfold Lib.signless
   simp only
   rw [if_neg (by omega)]
   simp only
   congr 1
   omega
 unfold okName
 rw [hd, hnum, Option.bind_some, if_pos rfl]
theorem new_none : okName [110, 101, 119] = none := by decide +kernel
theorem new_ne (n : Int) : nameP 112 n ≠ [110, 101, 119] := by
 by_cases h : (1 ≤ n ∧ n ≤ 999999999) ∧ (97 ≤ (112 : UInt8).toNat ∧ (112 : UInt8).toNat ≤ 122)
 ·rw [name_form h.1 h.2]
  intro e
  injection e with e
  cases e
 ·unfold nameP
  rw [if_neg h]
  simp
theorem name_good {c : UInt8} {n : Int} (hn : 1 ≤ n ∧ n ≤ 999999999) (hc : 97 ≤ c.toNat ∧ c.toNat ≤ 122) : nameB (bs (nameP c n)) = true := by
 unfold nameB
 have h1 : (bs (nameP c n)).size = 11 := by rw [bs_size, name_len hn hc]
 have h2 : (bs (nameP c n)).data.toList = nameP c n := by simp [bs]
 rw [h1, h2, name_form hn hc]
 simp only [List.all_cons, Bool.and_eq_true, decide_eq_true_eq]
 refine ⟨by omega, ?_, by decide, ?_⟩
 ·unfold nameC
  exact decide_eq_true (.inl ⟨by omega, by omega⟩)
 ·rw [List.all_eq_true]
  intro x hx
  have := digs_ch _ _ x hx
  unfold nameC
  exact decide_eq_true (.inr (.inl ⟨by omega, by omega⟩))
end Go.Proofs.YtkhemhiifhggmaaGreatDoor
namespace Go.Proofs.YtkhemhiifhggmaaGreatDoor
open Go.RowKit Go.Maps
set_option linter.unusedVariables false
theorem digs_front : ∀ (i u : Nat), digs (i + 1) u = UInt8.ofNat (48 + u / 10 ^ i % 10) :: digs i u
 |
  0, u => by
  show digs 0 (u / 10) ++ [UInt8.ofNat (48 + u % 10)] = _
  rw [Nat.pow_zero, Nat.div_one]
  rfl
 |
  i + 1, u => by
  show digs (i + 1) (u / 10) ++ [UInt8.ofNat (48 + u % 10)] = _
  rw [digs_front i (u / 10), List.cons_append, Nat.div_div_eq_div_mul, Nat.mul_comm, ← Nat.pow_succ]
  rfl
theorem conv_own2 (w : World) (a b : Int) : (convert 66 9 (.slice (some ⟨w.heap.size, 0, none⟩) 2 2)).run Tryz.prog (w.alloc (.cells #[.int .u8 a, .int .u8 b] 5)) = .ok (.string ⟨(by8 [a, b]).toArray⟩) (w.alloc (.cells #[.int .u8 a, .int .u8 b] 5)) := by
 have h : (w.alloc (.cells #[.int .u8 a, .int .u8 b] 5)).ownsRow 0 5 1 (.slice (some ⟨w.heap.size, 0, none⟩) 2 2) 2 ([a, b].map (.int .u8)) := own_new w #[.int .u8 a, .int .u8 b] 5 1 2 rfl (by unfold maxLen; omega) rfl (Nat.zero_le _)
 exact convert_own (P := Tryz.prog) Tryz.underlying66 Tryz.underlying5 (dst := 9) Tryz.underlying9 h
theorem rname_o (w W0 : World) (HB0 : Hid (Below w.heap.size w W0)) (n : Int) (hn : 0 ≤ n ∧ n ≤ 999999999)
  (c0 c2 c3 c4 c7 c8 c9 c10 c11 c12 c13 c14 c15 c16 c17 c18 c19 c20 c35 c36 c37 c38 c39 u21 u22 u23 u24 u25 u26 u27 u28 u29 u30 u31 u32 u33 u34 : Value) (Q0 : Exit → Act → World → Prop) (hQ0 : ∀ c (a a' : Act) w, a.defers = a'.defers → Q0 (.panic c) a w → Q0 (.panic c) a' w)
  (hexit : ∀ (W : World) (x1 x6 u21 u22 u23 u24 u25 u26 u27 u28 u29 u30 u31 u32 u33 u34 : Value), Hid (Below w.heap.size w W) → Q0 (.exit 0) ⟨List.toArray (c0 :: x1 :: c2 :: c3 :: c4 :: .string ⟨(digs 9 n.toNat).toArray⟩ :: x6 :: c7 :: c8 :: c9 :: c10 :: c11 :: c12 :: c13 :: c14 :: c15 :: c16 :: c17 :: c18 :: c19 :: c20 :: u21 :: u22 :: u23 :: u24 :: u25 :: u26 :: u27 :: u28 :: u29 :: u30 :: u31 :: u32 :: u33 :: u34 :: c35 :: c36 :: c37 :: c38 :: c39 :: []), []⟩ W) :
  Code.wp Tryz.prog (.loop (loopOf Tryz.f13 0)) Q0 ⟨List.toArray (c0 :: .int .i64 n :: c2 :: c3 :: c4 :: .string ⟨#[]⟩ :: .int .i64 (0 : Int) :: c7 :: c8 :: c9 :: c10 :: c11 :: c12 :: c13 :: c14 :: c15 :: c16 :: c17 :: c18 :: c19 :: c20 :: u21 :: u22 :: u23 :: u24 :: u25 :: u26 :: u27 :: u28 :: u29 :: u30 :: u31 :: u32 :: u33 :: u34 :: c35 :: c36 :: c37 :: c38 :: c39 :: []), []⟩ W0 := by
 obtain ⟨u, rfl⟩ := Int.eq_ofNat_of_zero_le hn.1
 conv => arg 2; arg 1; whnf
 go_loopw [1, 5, 6] (fun nv sv iv wr => ∃ (i v : Nat) (t : List UInt8), i ≤ 9 ∧ v ≤ 999999999 ∧ nv = .int .i64 (v : Int) ∧ sv = .string ⟨t.toArray⟩ ∧ iv = .int .i64 (i : Int) ∧ Hid (v = u / 10 ^ i ∧ t = digs i u) ∧ Hid (Below w.heap.size w wr)) (fun _ _ iv _ => 9 - (intOf iv).toNat)
 case atStart => exact ⟨0, u, [], Nat.zero_le _, by omega, rfl, rfl, rfl, (by show _ ∧ _; simp [digs]), HB0⟩
 case round =>
  clear HB0
  obtain ⟨i, v, t, hi, hv, rfl, rfl, rfl, HE, HB⟩ := hrel
  by_cases hin : i < 9
  ·have q0 : decide ((i : Int) < 9) = true := decide_eq_true (by omega)
   have t1 : Int.tmod (v : Int) 10 = (v : Int) % 10 := Int.tmod_eq_emod_of_nonneg (by omega)
   have t2 : Int.tdiv (v : Int) 10 = ((v / 10 : Nat) : Int) := by rw [Int.tdiv_eq_ediv_of_nonneg (by omega)]; omega
   have w1 : IntKind.i64.wrap ((v : Int) % 10) = (v : Int) % 10 := IntWalk.i64_in _ (by omega)
   have w2 : IntKind.i64.wrap (48 + (v : Int) % 10) = 48 + (v : Int) % 10 := IntWalk.i64_in _ (by omega)
   have w3 : IntKind.u8.wrap (48 + (v : Int) % 10) = 48 + (v : Int) % 10 := by rw [IntKind.wrap_u8]; omega
   have hcv := conv_one wr (48 + (v : Int) % 10)
   have e1 : strOfNums [48 + (v : Int) % 10] = ⟨[UInt8.ofNat (48 + v % 10)].toArray⟩ := by
    have : (48 + (v : Int) % 10).toNat = 48 + v % 10 := by omega
    simp [strOfNums, this]
   rw [e1] at hcv
   have htl : t.length ≤ 9 := by rw [HE.out.2, digs_len]; omega
   have hc := cat_arr [UInt8.ofNat (48 + v % 10)] t (by rw [List.length_singleton]; omega)
   have HEN : Hid (v / 10 = u / 10 ^ (i + 1) ∧ [UInt8.ofNat (48 + v % 10)] ++ t = digs (i + 1) u) := by
    show _ ∧ _
    rw [HE.out.1, HE.out.2, digs_front, Nat.div_div_eq_div_mul, ← Nat.pow_succ]
    exact ⟨rfl, rfl⟩
   generalize UInt8.ofNat (48 + v % 10) = dg at *
   obtain ⟨T, hT⟩ : ∃ T, [dg] ++ t = T := ⟨_, rfl⟩
   rw [hT] at HEN hc
   have HBN := Lib.hid (bnew HB.out (.cells #[.int .u8 (48 + (v : Int) % 10)] 5))
   clear hT hexit e1
   go_wp2_with fail
   go_roundw
   case rel => exact ⟨i + 1, v / 10, T, by omega, by omega, by go_num, rfl, by go_num, HEN, HBN⟩
   case measure => simp [intOf]; omega
  ·obtain rfl : i = 9 := by omega
   have q0 : decide (((9 : Nat) : Int) < 9) = false := rfl
   have hT := HE.out.2
   subst hT
   go_wp2_with fail
   all_goals first
    | exact HB
    | exact hexit wr _ _ _ _ _ _ _ _ _ _ _ _ _ _ _ _ HB
theorem rname_any (w : World) (c : UInt8) (n : Int) :
  Calls Tryz.prog 13 #[.int .u8 (c.toNat : Int), .int .i64 n] w fun e w' => e = .returned (.string ⟨(nameP c n).toArray⟩) ∧ Below w.heap.size w w' := by
 have hcb := c.toNat_lt
 by_cases h : (1 ≤ n ∧ n ≤ 999999999) ∧ 97 ≤ c.toNat ∧ c.toNat ≤ 122
 ·have p0 : decide (n < 1) = false := decide_eq_false (by omega)
  have p1 : decide (n > 999999999) = false := decide_eq_false (by omega)
  have HF : Hid (nameP c n = [c, 95] ++ digs 9 n.toNat) := name_form h.1 h.2
  obtain ⟨z, hz⟩ : ∃ z : Int, (c.toNat : Int) = z := ⟨_, rfl⟩
  have p2 : decide (z < 97) = false := decide_eq_false (by omega)
  have p3 : decide (z > 122) = false := decide_eq_false (by omega)
  rw [hz]
  have HN := Lib.hid (show 0 ≤ n ∧ n ≤ 999999999 by omega)
  have e1 : by8 [z, 95] = [c, 95] := by
   have : z.toNat = c.toNat := by omega
   simp [by8, this]
  have hcv := fun W : World => conv_own2 W z 95
  rw [e1] at hcv
  have hc := cat_arr [c, 95] (digs 9 n.toNat) (by rw [digs_len]; show 2 + 9 ≤ _; omega)
  rw [← HF.out] at hc
  clear h hcb hz e1
  go_enter Tryz.func13, Tryz.ntmps13
  go_wp2_with fail
  refine rname_o w w (Lib.hid (brefl w)) n HN.out _ _ _ _ _ _ _ _ _ _ _ _ _ _ _ _ _ _ _ _ _ _ _ _ _ _ _ _ _ _ _ _ _ _ _ _ _ _ (fun c a a' w hd h => by cases a; cases a'; cases hd; exact h) ?_
  intro V x1 x6 u21 u22 u23 u24 u25 u26 u27 u28 u29 u30 u31 u32 u33 u34 HBV
  have HBN := Lib.hid (bnew HBV.out (.cells #[.int .u8 z, .int .u8 95] 5))
  go_wp2_with fail
  go_ret
  exact ⟨rfl, HBN.out⟩
 ·have HF : Hid (nameP c n = []) := by show _ = _; unfold nameP; rw [if_neg h]
  obtain ⟨z, hz⟩ : ∃ z : Int, (c.toNat : Int) = z := ⟨_, rfl⟩
  rw [hz]
  by_cases h0 : n < 1
  ·have p0 : decide (n < 1) = true := decide_eq_true h0
   clear h hcb hz h0
   go_enter Tryz.func13, Tryz.ntmps13
   go_wp2_with fail
   go_ret
   exact ⟨by rw [HF.out]; rfl, brefl w⟩
  have p0 : decide (n < 1) = false := decide_eq_false h0
  by_cases h1 : n > 999999999
  ·have p1 : decide (n > 999999999) = true := decide_eq_true h1
   clear h hcb hz h0 h1
   go_enter Tryz.func13, Tryz.ntmps13
   go_wp2_with fail
   go_ret
   exact ⟨by rw [HF.out]; rfl, brefl w⟩
  have p1 : decide (n > 999999999) = false := decide_eq_false h1
  by_cases h2 : z < 97
  ·have p2 : decide (z < 97) = true := decide_eq_true h2
   clear h hcb hz h0 h1 h2
   go_enter Tryz.func13, Tryz.ntmps13
   go_wp2_with fail
   go_ret
   exact ⟨by rw [HF.out]; rfl, brefl w⟩
  have p2 : decide (z < 97) = false := decide_eq_false h2
  have p3 : decide (z > 122) = true := decide_eq_true (by omega)
  clear h hcb hz h0 h1 h2
  go_enter Tryz.func13, Tryz.ntmps13
  go_wp2_with fail
  go_ret
  exact ⟨by rw [HF.out]; rfl, brefl w⟩
end Go.Proofs.YtkhemhiifhggmaaGreatDoor
namespace Go.Proofs.YtkhemhiifhggmaaGreatDoor
open Go.RowKit Go.Maps Go.Sort
set_option linter.unusedVariables false
def upd {α β : Type} [DecidableEq α] (f : α → β) (a : α) (b : β) : α → β := fun x => if x = a then b else f x
theorem upd_same {α β : Type} [DecidableEq α] (f : α → β) (a : α) (b : β) : upd f a b a = b := if_pos rfl
theorem upd_other {α β : Type} [DecidableEq α] (f : α → β) {a x : α} (b : β) (h : x ≠ a) : upd f a b x = f x := if_neg h
section
variable {H : Type}
def Vw (N : DataW H) (f : ByteArray → Option Int) : Prop := IsMap N ∧ ∀ s, Maps.has N (keyS s) = (f s).isSome ∧ ∀ k, f s = some k → numOf N s = k
theorem numOf_del_other {M : DataW H} {s t : ByteArray} (h : s ≠ t) : numOf (M.del (keyS t)) s = numOf M s := by
 unfold numOf
 rw [atKey_del_other (fun e => h (keyS_inj e))]
theorem Vw.put {N : DataW H} {f : ByteArray → Option Int} (h : Vw N f) (s : ByteArray) (k : Int) : Vw (N.put (keyS s) (.lit (.int .i64 k))) (upd f s (some k)) := by
 refine ⟨h.1.put _ _, fun t => ?_⟩
 by_cases e : t = s
 ·subst e
  rw [upd_same, has_putS_same h.1, numOf_put_same h.1]
  exact ⟨rfl, fun k' hk => by injection hk⟩
 ·rw [upd_other _ _ e, has_putS_other e, numOf_put_other e]
  exact h.2 t
theorem Vw.del {N : DataW H} {f : ByteArray → Option Int} (h : Vw N f) (s : ByteArray) : Vw (N.del (keyS s)) (upd f s none) := by
 refine ⟨h.1.del _, fun t => ?_⟩
 by_cases e : t = s
 ·subst e
  rw [upd_same, has_del_same]
  exact ⟨rfl, fun k' hk => by cases hk⟩
 ·rw [upd_other _ _ e, has_del_other (fun e' => e (keyS_inj e')), numOf_del_other e]
  exact h.2 t
theorem Vw.has {N : DataW H} {f : ByteArray → Option Int} (h : Vw N f) {s : ByteArray} {k : Int} (hk : f s = some k) : Maps.has N (keyS s) = true ∧ numOf N s = k := ⟨by rw [(h.2 s).1, hk]; rfl, (h.2 s).2 k hk⟩
theorem Vw.none {N : DataW H} {f : ByteArray → Option Int} (h : Vw N f) {s : ByteArray} (hk : f s = none) : Maps.has N (keyS s) = false := by rw [(h.2 s).1, hk]; rfl
structure DV (D : DS H) (f h : ByteArray → Option Int) (g : Int → List UInt8 × Int) (L : Int) : Prop where
 n : Vw D.names f
 k : Vw D.kept h
 m : IsMap D.files
 g : ∀ k, fileOf D.files k = g k
 l : D.last = L
 b : ∀ s k, f s = some k → k ≤ L
 c : ∀ s k, h s = some k → k ≤ L
theorem dv_new : DV (DS.new H) (fun _ => none) (fun _ => none) (fun _ => ([], 0)) 0 :=
 ⟨⟨⟨[], rfl⟩, fun s => ⟨rfl, (fun k hk => by cases hk)⟩⟩, ⟨⟨[], rfl⟩, fun s => ⟨rfl, (fun k hk => by cases hk)⟩⟩, ⟨[], rfl⟩, fun k => rfl, rfl, (fun _ _ hk => by cases hk), (fun _ _ hk => by cases hk)⟩
def Ar (D : DS H) (a q : Int) : Prop := D.armed = a ∧ D.fault = q ∧ D.down = false
theorem step_go {D : DS H} {a q : Int} (h : Ar D a q) (h0 : a ≠ 0) : D.step = ({ D with armed := max (-1) (a - 1), steps := D.steps + 1 }, 0) := by
 unfold DS.step
 rw [h.1, if_neg h0]
theorem step_no {D : DS H} {q : Int} (h : Ar D 0 q) : D.step = ({ D with armed := -1, down := q == 15 }, q) := by
 unfold DS.step
 rw [h.1, if_pos rfl, h.2.1]
variable {D : DS H} {f h : ByteArray → Option Int} {g : Int → List UInt8 × Int} {L a q : Int}
theorem dv_step (v : DV D f h g L) {D' : DS H} (e1 : D'.files = D.files) (e2 : D'.names = D.names) (e3 : D'.kept = D.kept) (e4 : D'.last = D.last) : DV D' f h g L :=
 ⟨by rw [e2]; exact v.n, by rw [e3]; exact v.k, by rw [e1]; exact v.m, by rw [e1]; exact v.g, e4.trans v.l, v.b, v.c⟩
theorem may1 {s : ByteArray} (hs : nameB s = true) : mayE [s] false = 0 := by simp [mayE, hs]
theorem may2 {s x : ByteArray} (hs : nameB s = true) (hx : nameB x = true) : mayE [s, x] false = 0 := by simp [mayE, hs, hx]
theorem ar_fault {D' : DS H} (e : D' = { D with armed := -1, down := q == 15 }) (hq : D.fault = q) (v : DV D f h g L) : DV D' f h g L ∧ D'.armed = -1 ∧ D'.fault = q ∧ D'.down = (q == 15) := by
 subst e
 exact ⟨dv_step v rfl rfl rfl rfl, rfl, hq, rfl⟩
theorem create_go (v : DV D f h g L) (hA : Ar D a q) (h0 : a ≠ 0) {s : ByteArray} (hs : nameB s = true) :
  (D.create s).2 = 0 ∧ DV (D.create s).1 (upd f s (some (L + 1))) h (upd g (L + 1) ([], 0)) (L + 1) ∧ Ar (D.create s).1 (max (-1) (a - 1)) q := by
 have e : D.create s = ({ D.step.1 with last := D.last + 1, files := D.files.put (.int .i64 (D.last + 1)) (.agg [.lit (.string []), .lit (.int .i64 0)]), names := D.names.put (.string s.data.toList) (.lit (.int .i64 (D.last + 1))), cap := D.cap + 2 }, 0) := by
  unfold DS.create
  rw [hA.2.2, may1 hs, if_neg (by simp), if_neg (by rw [step_go hA h0]; simp)]
 rw [e, step_go hA h0]
 refine ⟨rfl, ⟨?_, v.k, v.m.put _ _, fun k => ?_, by show D.last + 1 = _; rw [v.l], fun t k hk => ?_, fun t k hk => ?_⟩, rfl, hA.2.1, hA.2.2⟩
 ·have := v.n.put s (L + 1)
  rw [← v.l] at this ⊢
  exact this
 ·show fileOf (D.files.put (.int .i64 (D.last + 1)) _) k = _
  rw [fileOf_put v.m, v.l, v.g]
  rfl
 ·unfold upd at hk
  split at hk
  ·injection hk with hk; omega
  ·have := v.b t k hk; omega
 ·have := v.c t k hk; omega
theorem change_go (v : DV D f h g L) (hA : Ar D a q) (h0 : a ≠ 0) {s : ByteArray} (hs : nameB s = true) {k : Int} (hk : f s = some k) (G : List UInt8 × Int → List UInt8 × Int) :
  (D.change s G).2 = 0 ∧ DV (D.change s G).1 f h (upd g k (G (g k))) L ∧ Ar (D.change s G).1 (max (-1) (a - 1)) q := by
 obtain ⟨h1, h2⟩ := v.n.has hk
 have e : D.change s G = ({ D.step.1 with files := D.files.put (.int .i64 (numOf D.names s)) (.agg [.lit (.string (G (fileOf D.files (numOf D.names s))).1), .lit (.int .i64 (G (fileOf D.files (numOf D.names s))).2)]), cap := D.cap + 1 }, 0) := by
  unfold DS.change
  rw [hA.2.2, may1 hs, if_neg (by simp), if_neg (by rw [h1]; simp), if_neg (by rw [step_go hA h0]; simp)]
 rw [e, step_go hA h0, h2, v.g]
 refine ⟨rfl, ⟨v.n, v.k, v.m.put _ _, fun j => ?_, v.l, v.b, v.c⟩, rfl, hA.2.1, hA.2.2⟩
 show fileOf (D.files.put (.int .i64 k) _) j = _
 rw [fileOf_put v.m, v.g]
 rfl
theorem rename_go (v : DV D f h g L) (hA : Ar D a q) (h0 : a ≠ 0) {s x : ByteArray} (hs : nameB s = true) (hx : nameB x = true) {k : Int} (hk : f s = some k) :
  (D.rename s x).2 = 0 ∧ DV (D.rename s x).1 (upd (upd f s none) x (some k)) h g L ∧ Ar (D.rename s x).1 (max (-1) (a - 1)) q := by
 obtain ⟨h1, h2⟩ := v.n.has hk
 have e : D.rename s x = ({ D.step.1 with names := (D.names.del (keyS s)).put (keyS x) (.lit (.int .i64 (numOf D.names s))), cap := D.cap + 2 }, 0) := by
  unfold DS.rename
  rw [hA.2.2, may2 hs hx, if_neg (by simp), if_neg (by rw [h1]; simp), if_neg (by rw [step_go hA h0]; simp)]
 rw [e, step_go hA h0, h2]
 refine ⟨rfl, ⟨(v.n.del s).put x k, v.k, v.m, v.g, v.l, fun t j hj => ?_, v.c⟩, rfl, hA.2.1, hA.2.2⟩
 unfold upd at hj
 split at hj
 ·injection hj with hj; have := v.b s k hk; omega
 ·split at hj
  ·cases hj
  ·exact v.b t j hj
theorem syncDir_go (v : DV D f h g L) (hA : Ar D a q) (h0 : a ≠ 0) :
  D.syncDir.2 = 0 ∧ DV D.syncDir.1 f f g L ∧ Ar D.syncDir.1 (max (-1) (a - 1)) q := by
 have e : D.syncDir = ({ D.step.1 with kept := D.names }, 0) := by
  unfold DS.syncDir
  rw [hA.2.2, if_neg (by simp), if_neg (by rw [step_go hA h0]; simp)]
 rw [e, step_go hA h0]
 exact ⟨rfl, ⟨v.n, v.n, v.m, v.g, v.l, v.b, v.b⟩, rfl, hA.2.1, hA.2.2⟩
theorem create_no (hA : Ar D 0 q) (hq : q ≠ 0) {s : ByteArray} (hs : nameB s = true) : D.create s = D.step := by
 unfold DS.create
 rw [hA.2.2, may1 hs, if_neg (by simp), if_pos (by rw [step_no hA]; exact hq)]
theorem change_no (v : DV D f h g L) (hA : Ar D 0 q) (hq : q ≠ 0) {s : ByteArray} (hs : nameB s = true) {k : Int} (hk : f s = some k) (G : List UInt8 × Int → List UInt8 × Int) : D.change s G = D.step := by
 unfold DS.change
 rw [hA.2.2, may1 hs, if_neg (by simp), if_neg (by rw [(v.n.has hk).1]; simp), if_pos (by rw [step_no hA]; exact hq)]
theorem rename_no (v : DV D f h g L) (hA : Ar D 0 q) (hq : q ≠ 0) {s x : ByteArray} (hs : nameB s = true) (hx : nameB x = true) {k : Int} (hk : f s = some k) : D.rename s x = D.step := by
 unfold DS.rename
 rw [hA.2.2, may2 hs hx, if_neg (by simp), if_neg (by rw [(v.n.has hk).1]; simp), if_pos (by rw [step_no hA]; exact hq)]
theorem syncDir_no (hA : Ar D 0 q) (hq : q ≠ 0) : D.syncDir = D.step := by
 unfold DS.syncDir
 rw [hA.2.2, if_neg (by simp), if_pos (by rw [step_no hA]; exact hq)]
theorem read_dv (v : DV D f h g L) (hd : D.down = false) {s : ByteArray} (hs : nameB s = true) : (∀ k, f s = some k → readE D s = 0 ∧ readS D s = bs (g k).1) ∧ (f s = none → readE D s = 11 ∧ readS D s = bs []) := by
 refine ⟨fun k hk => ?_, fun hk => ?_⟩
 ·obtain ⟨h1, h2⟩ := v.n.has hk
  unfold readE readS
  rw [hd, may1 hs, if_neg (by simp), if_neg (by rw [h1]; simp), if_neg (by simp), if_neg (by rw [h1]; simp), h2, v.g]
  exact ⟨rfl, rfl⟩
 ·have h1 := v.n.none hk
  unfold readE readS
  rw [hd, may1 hs, if_neg (by simp), if_pos h1, if_neg (by simp), if_pos h1]
  exact ⟨rfl, rfl⟩
end
end Go.Proofs.YtkhemhiifhggmaaGreatDoor
