/- glossref20.Pack. -/
import Derived.Test.YtkhemhiifhggmaaGreatDoorHPt9
import Derived.Test.YtkhemhiifhggmaaGreatDoorHPt12
import Derived.Test.YtkhemhiifhggmaaGreatDoorHPt6
import Derived.Test.YtkhemhiifhggmaaGreatDoorHPt11
import Derived.Test.YtkhemhiifhggmaaGreatDoorHPt1
import Derived.SizedLaws
import Derived.ChangeArms
import Derived.Test.YtkhemhiifhggmaaGreatDoorChecked
set_option maxRecDepth 100000
set_option maxHeartbeats 40000000
namespace Go.Proofs.YtkhemhiifhggmaaGreatDoor
open Go.RowKit Go.Maps
set_option linter.unusedVariables false
theorem refnum_pos (w : World) (z : Int) (h : pos63 z) : Calls Tryz.prog 34 #[.int .i64 z] w fun e w' => e = .returned (.string ⟨(by8 (numI z)).toArray⟩) ∧ Below w.heap.size w w' := by
 have h1 := refnum_any z (by have := h.1; omega) h.2 w
 rw [numA_eq h.1 h.2, str_by8] at h1
 exact h1
theorem rpack_o (w W0 : World) (B : Nat) (hB : B ≤ w.heap.size) (A : Option Addr) (n c : Nat) (l : List Sg) (HS : Hid (SegsIn w B A n l)) (hn : n ≤ 999999999) (HZ : Hid (∀ s ∈ l, ∀ z ∈ s.nums, pos63 z)) (h : List UInt8) (hh : h.length ≤ 1000) (pb : Nat) (hpb : w.heap.size = pb)
  (HP : Hid (∀ W, Below (w.heap.size + 1) W0 W → W.cell? ⟨pb, 1, none⟩ = some (.slice A n c))) (HW : Hid (Below w.heap.size w W0 ∧ w.heap.size + 1 ≤ W0.heap.size))
  (c0 c2 c3 c6 c7 c8 c9 c10 c11 c12 c13 c14 c15 c16 c57 c58 c59 c60 u17 u18 u19 u20 u21 u22 u23 u24 u25 u26 u27 u28 u29 u30 u31 u32 u33 u34 u35 u36 u37 u38 u39 u40 u41 u42 u43 u44 u45 u46 u47 u48 u49 u50 u51 u52 u53 u54 u55 u56 : Value) (Q0 : Exit → Act → World → Prop) (hQ0 : ∀ c (a a' : Act) w, a.defers = a'.defers → Q0 (.panic c) a w → Q0 (.panic c) a' w)
  (hexit : ∀ (W : World) (x5 u17 u18 u19 u20 u21 u22 u23 u24 u25 u26 u27 u28 u29 u30 u31 u32 u33 u34 u35 u36 u37 u38 u39 u40 u41 u42 u43 u44 u45 u46 u47 u48 u49 u50 u51 u52 u53 u54 u55 u56 : Value), Hid (Below w.heap.size w W) → Q0 (.exit 0) ⟨List.toArray (c0 :: .pointer (some ⟨pb, 0, none⟩) :: c2 :: c3 :: .string ⟨(h ++ l.flatMap segB).toArray⟩ :: x5 :: c6 :: c7 :: c8 :: c9 :: c10 :: c11 :: c12 :: c13 :: c14 :: c15 :: c16 :: u17 :: u18 :: u19 :: u20 :: u21 :: u22 :: u23 :: u24 :: u25 :: u26 :: u27 :: u28 :: u29 :: u30 :: u31 :: u32 :: u33 :: u34 :: u35 :: u36 :: u37 :: u38 :: u39 :: u40 :: u41 :: u42 :: u43 :: u44 :: u45 :: u46 :: u47 :: u48 :: u49 :: u50 :: u51 :: u52 :: u53 :: u54 :: u55 :: u56 :: c57 :: c58 :: c59 :: c60 :: []), []⟩ W) :
  Code.wp Tryz.prog (.loop (loopOf Tryz.f8 0)) Q0 ⟨List.toArray (c0 :: .pointer (some ⟨pb, 0, none⟩) :: c2 :: c3 :: .string ⟨h.toArray⟩ :: .int .i64 (0 : Int) :: c6 :: c7 :: c8 :: c9 :: c10 :: c11 :: c12 :: c13 :: c14 :: c15 :: c16 :: u17 :: u18 :: u19 :: u20 :: u21 :: u22 :: u23 :: u24 :: u25 :: u26 :: u27 :: u28 :: u29 :: u30 :: u31 :: u32 :: u33 :: u34 :: u35 :: u36 :: u37 :: u38 :: u39 :: u40 :: u41 :: u42 :: u43 :: u44 :: u45 :: u46 :: u47 :: u48 :: u49 :: u50 :: u51 :: u52 :: u53 :: u54 :: u55 :: u56 :: c57 :: c58 :: c59 :: c60 :: []), []⟩ W0 := by
 have hlen := HS.out.2
 conv => arg 2; arg 1; whnf
 go_loopw [4, 5] (fun sv iv wr => ∃ (i : Nat) (t : List UInt8), i ≤ n ∧ sv = .string ⟨t.toArray⟩ ∧ iv = .int .i64 (i : Int) ∧ Hid (t = h ++ (l.take i).flatMap segB) ∧ Hid (Below (w.heap.size + 1) W0 wr)) (fun _ iv _ => n - (intOf iv).toNat)
 case atStart => exact ⟨0, h, Nat.zero_le _, rfl, rfl, (by show _ = _; simp), Lib.hid ((brefl W0).mono HW.out.2)⟩
 case round =>
  obtain ⟨i, t, hi, rfl, rfl, HT, HB⟩ := hrel
  have HBW : Hid (Below w.heap.size w wr) := HW.out.1.trans (HB.out.mono (by omega))
  have hbs := HB.out.size
  have hws := HW.out.2
  have hp1 := HP.out wr HB.out
  by_cases hin : i < n
  ·obtain ⟨s, hs⟩ : ∃ s, l[i]? = some s := ⟨l[i]'(by omega), List.getElem?_eq_getElem _⟩
   obtain ⟨b, off, rfl, hb, c0, c1, c2, c3⟩ := (HS.out.keep (HBW.out.mono hB)).at_ hs
   have q0 : decide ((i : Int) < (n : Int)) = true := decide_eq_true (by omega)
   have hz := HZ.out s (List.mem_of_getElem? hs)
   have hfl := flatB_len (l := l.take i) (fun s hs => HZ.out s (List.mem_of_mem_take hs))
   rw [List.length_take] at hfl
   have htl : t.length ≤ 100000000000 := by rw [HT.out, List.length_append]; omega
   have HTN : Hid (t ++ segB s = h ++ (l.take (i + 1)).flatMap segB) := by
    show _ = _
    rw [HT.out, List.take_add_one, hs, List.flatMap_append, List.append_assoc]
    simp
   rw [segB_eq] at HTN
   obtain ⟨z0, z1, z2, z3⟩ := s
   simp only at c0 c1 c2 c3 HTN
   have g0 := hz z0 (by simp [Sg.nums])
   have g1 := hz z1 (by simp [Sg.nums])
   have g2 := hz z2 (by simp [Sg.nums])
   have g3 := hz z3 (by simp [Sg.nums])
   have l0 := (numI_len g0).2
   have l1 := (numI_len g1).2
   have l2 := (numI_len g2).2
   have l3 := (numI_len g3).2
   have HN0 := Lib.hid (fun W => refnum_pos W z0 g0)
   have HN1 := Lib.hid (fun W => refnum_pos W z1 g1)
   have HN2 := Lib.hid (fun W => refnum_pos W z2 g2)
   have HN3 := Lib.hid (fun W => refnum_pos W z3 g3)
   rw [← by8_length] at l0 l1 l2 l3
   generalize by8 (numI z0) = y0 at *
   generalize by8 (numI z1) = y1 at *
   generalize by8 (numI z2) = y2 at *
   generalize by8 (numI z3) = y3 at *
   have k0 := cat_arr t y0 (by omega)
   have k1 := cat_arr (t ++ y0) y1 (by rw [List.length_append]; omega)
   have k2 := cat_arr (t ++ y0 ++ y1) y2 (by rw [List.length_append, List.length_append]; omega)
   have k3 := cat_arr (t ++ y0 ++ y1 ++ y2) y3 (by rw [List.length_append, List.length_append, List.length_append]; omega)
   have HTA : Hid (t ++ y0 ++ y1 ++ y2 ++ y3 = h ++ (l.take (i + 1)).flatMap segB) := by
    show _ = _
    rw [← HTN.out]
    simp
   obtain ⟨T, hT⟩ : ∃ T, t ++ y0 ++ y1 ++ y2 ++ y3 = T := ⟨_, rfl⟩
   rw [hT] at k3 HTA
   clear hT
   generalize hT2 : t ++ y0 ++ y1 ++ y2 = T2 at *
   generalize hT1 : t ++ y0 ++ y1 = T1 at *
   generalize hT0 : t ++ y0 = T0 at *
   have HK : Hid (∀ V, Below wr.heap.size wr V → V.cell? ⟨pb, 1, none⟩ = some (.slice (some ⟨b, off, none⟩) n c) ∧ V.cell? ⟨b, off + i * 4, none⟩ = some (.int .i64 z0) ∧ V.cell? ⟨b, off + i * 4 + 1, none⟩ = some (.int .i64 z1) ∧ V.cell? ⟨b, off + i * 4 + 2, none⟩ = some (.int .i64 z2) ∧ V.cell? ⟨b, off + i * 4 + 3, none⟩ = some (.int .i64 z3)) := fun V hv =>
    ⟨cell_over hv _ _ hp1, cell_over hv _ _ c0, cell_over hv _ _ c1, cell_over hv _ _ c2, cell_over hv _ _ c3⟩
   clear hT2 hT1 hT0 hs hz g0 g1 g2 g3 HTN hexit hfl
   go_wp2_with fail
   go_region_held3 (fun w' => w'.cell? ⟨pb, 1, none⟩ = some (.slice (some ⟨b, off, none⟩) n c) ∧ w'.cell? ⟨b, off + i * 4, none⟩ = some (.int .i64 z0) ∧ w'.cell? ⟨b, off + i * 4 + 1, none⟩ = some (.int .i64 z1) ∧ w'.cell? ⟨b, off + i * 4 + 2, none⟩ = some (.int .i64 z2) ∧ w'.cell? ⟨b, off + i * 4 + 3, none⟩ = some (.int .i64 z3))
    (first | assumption | (refine HK.out _ ?_; (repeat (first | exact HV3.out | exact HV2.out | exact HV1.out | exact HV0.out | exact brefl _ | refine Below.drew ?_)); done))
    (first
    | (go_at_call 34; refine (HN0.out _).mono ?_; rintro e V0 ⟨rfl, hv⟩; have HV0 : Hid (Below wr.heap.size wr V0) := bcall (by repeat (first | exact brefl _ | refine Below.drew ?_)) hv; clear HN0 hv)
    | (go_at_call 34; refine (HN1.out _).mono ?_; rintro e V1 ⟨rfl, hv⟩; have HV1 : Hid (Below wr.heap.size wr V1) := bcall (by repeat (first | exact HV0.out | refine Below.drew ?_)) hv; clear HN1 hv)
    | (go_at_call 34; refine (HN2.out _).mono ?_; rintro e V2 ⟨rfl, hv⟩; have HV2 : Hid (Below wr.heap.size wr V2) := bcall (by repeat (first | exact HV1.out | refine Below.drew ?_)) hv; clear HN2 hv)
    | (go_at_call 34; refine (HN3.out _).mono ?_; rintro e V3 ⟨rfl, hv⟩; have HV3 : Hid (Below wr.heap.size wr V3) := bcall (by repeat (first | exact HV2.out | refine Below.drew ?_)) hv; clear HN3 hv))
   go_wp2_with fail
   go_roundw
   case rel =>
    refine ⟨i + 1, T, by omega, rfl, by go_num, HTA, Lib.hid (HB.out.trans ((show Below wr.heap.size wr _ from ?_).mono (by omega)))⟩
    repeat (first | exact HV3.out | refine Below.drew ?_)
   case measure => simp [intOf]; omega
  ·obtain rfl : i = n := by omega
   have q0 : decide ((i : Int) < (i : Int)) = false := decide_eq_false (by omega)
   have HE : Hid (t = h ++ l.flatMap segB) := by show _ = _; rw [HT.out, List.take_of_length_le (by omega)]
   rw [← HE.out] at hexit
   go_wp2_with fail
   first
    | exact HBW
    | exact hexit wr _ _ _ _ _ _ _ _ _ _ _ _ _ _ _ _ _ _ _ _ _ _ _ _ _ _ _ _ _ _ _ _ _ _ _ _ _ _ _ _ _ HBW
theorem rpack_any (w : World) (B : Nat) (hB : B ≤ w.heap.size) (A : Option Addr) (n c : Nat) (l : List Sg) (HS : Hid (SegsIn w B A n l)) (hn : n ≤ 4398046511104) (next : Int) :
  Calls Tryz.prog 8 #[.agg #[.int .i64 next, .slice A n c]] w fun e w' => e = .returned (.tuple #[.string ⟨(packP next l).1.toArray⟩, .int .i64 (packP next l).2]) ∧ Below w.heap.size w w' := by
 have hpb := bnew (brefl w) (.cells #[.int .i64 next, .slice A n c] 24)
 have HC := Lib.hid (rcheck_any (w.alloc (.cells #[.int .i64 next, .slice A n c] 24)) B (by simp; omega) A n c l (Lib.hid (HS.out.keep (hpb.mono hB))) hn next)
 obtain ⟨W1, hW1⟩ : ∃ W1, w.alloc (.cells #[.int .i64 next, .slice A n c] 24) = W1 := ⟨_, rfl⟩
 have hx : W1.heap[w.heap.size]? = some (.cells #[.int .i64 next, .slice A n c] 24 (0, 0)) := by rw [← hW1]; exact heap_alloc_new _ _
 have HX : Hid (∀ V, Below W1.heap.size W1 V → V.cell? ⟨w.heap.size, 0, none⟩ = some (.int .i64 next) ∧ V.cell? ⟨w.heap.size, 1, none⟩ = some (.slice A n c)) := fun V hv => by
  obtain ⟨k0, k1, _, _⟩ := cells2 ((hv.block _ (Array.getElem?_eq_some_iff.1 hx).1).trans hx)
  exact ⟨k0, k1⟩
 have HWE := Lib.hid hW1
 rw [hW1] at HC hpb
 have HB := Lib.hid hpb
 have hs1 : W1.heap.size = w.heap.size + 1 := by rw [← hW1]; simp
 have HS1 := Lib.hid hs1
 clear hpb hx hW1 hs1
 by_cases hok : PtOk next l
 ·have HP : Hid (packP next l = (sealB 2 (textP next l), 0)) := if_pos hok
  have hck : checkP next l = 0 := if_pos hok
  rw [hck] at HC
  have HPO := Lib.hid (segsOk_pos hok.2.1 (Int.le_refl 0) hok.2.2)
  have hlen := HS.out.2
  have hl9 := ptOk_len hok
  have p0 : pos63 next := ⟨by have := hok.1; omega, by have := hok.2.1; omega⟩
  have p1 : pos63 (n : Int) := ⟨by omega, by omega⟩
  have HN0 := Lib.hid (fun W => refnum_pos W next p0)
  have HN1 := Lib.hid (fun W => refnum_pos W (n : Int) p1)
  have l0 := (numI_len p0).2
  have l1 := (numI_len p1).2
  rw [← by8_length] at l0 l1
  have hbody := flatB_len HPO.out
  have HTX : Hid (by8 (numI next) ++ by8 (numI (n : Int)) ++ l.flatMap segB = textP next l) := by
   show _ = _
   unfold textP numsI
   rw [hlen]
   simp [by8_append]
  have htl : (textP next l).length ≤ 36 * l.length + 18 := textP_len hok (by omega)
  generalize by8 (numI next) = y0 at *
  generalize by8 (numI (n : Int)) = y1 at *
  have hcat := cat_arr y0 y1 (by omega)
  obtain ⟨y, hy⟩ : ∃ y, y0 ++ y1 = y := ⟨_, rfl⟩
  have hyl : y.length ≤ 1000 := by rw [← hy, List.length_append]; omega
  rw [hy] at hcat HTX
  obtain ⟨c0, c1⟩ := HX.out W1 (brefl W1)
  clear hy hck hok
  go_enter Tryz.func8, Tryz.ntmps8
  go_wp2_with fail
  rw [HWE.out]
  refine HC.out.mono ?_
  rintro e w2 ⟨rfl, hb2⟩
  have HB2 := Lib.hid hb2
  obtain ⟨d0, d1⟩ := HX.out w2 hb2
  clear hb2 c0 c1 HC
  go_wp2_with fail
  go_region_held3 (fun w' => w'.cell? ⟨w.heap.size, 0, none⟩ = some (.int .i64 next) ∧ w'.cell? ⟨w.heap.size, 1, none⟩ = some (.slice A n c))
   (first | assumption | (refine HX.out _ ?_; (repeat (first | exact HV1.out | exact HV0.out | exact HB2.out | refine Below.drew ?_)); done))
   (first
   | (go_at_call 34; refine (HN0.out _).mono ?_; rintro e V0 ⟨rfl, hv⟩; have HV0 : Hid (Below W1.heap.size W1 V0) := bcall (by repeat (first | exact HB2.out | refine Below.drew ?_)) hv; clear HN0 hv)
   | (go_at_call 34; refine (HN1.out _).mono ?_; rintro e V1 ⟨rfl, hv⟩; have HV1 : Hid (Below W1.heap.size W1 V1) := bcall (by repeat (first | exact HV0.out | refine Below.drew ?_)) hv; clear HN1 hv))
  go_wp2_with fail
  have HW : ∀ V : World, Below W1.heap.size W1 V → Hid (∀ W, Below (w.heap.size + 1) V W → W.cell? ⟨w.heap.size, 1, none⟩ = some (.slice A n c)) ∧ Hid (Below w.heap.size w V ∧ w.heap.size + 1 ≤ V.heap.size) := fun V hv => by
   have e := HS1.out
   refine ⟨fun W hw => (HX.out W (hv.trans (by rw [e]; exact hw))).2, bcall HB.out hv, ?_⟩
   rw [← e]
   exact hv.size
  have HWV := HW _ (show Below W1.heap.size W1 _ by repeat (first | exact HV1.out | refine Below.drew ?_))
  clear HW
  refine rpack_o w _ B hB A n c l HS (by omega) HPO y hyl w.heap.size rfl HWV.1 HWV.2 _ _ _ _ _ _ _ _ _ _ _ _ _ _ _ _ _ _ _ _ _ _ _ _ _ _ _ _ _ _ _ _ _ _ _ _ _ _ _ _ _ _ _ _ _ _ _ _ _ _ _ _ _ _ _ _ _ _ _ (fun c a a' w hd h => by cases a; cases a'; cases hd; exact h) ?_
  rw [HTX.out]
  intro V x5 u17 u18 u19 u20 u21 u22 u23 u24 u25 u26 u27 u28 u29 u30 u31 u32 u33 u34 u35 u36 u37 u38 u39 u40 u41 u42 u43 u44 u45 u46 u47 u48 u49 u50 u51 u52 u53 u54 u55 u56 HBV
  have HSL := Lib.hid (rseal_any V 2 (by omega) (textP next l) (by omega))
  go_wp2_with fail
  refine HSL.out.mono ?_
  rintro e V4 ⟨rfl, hb4⟩
  have HB4 := Lib.hid (bcall HBV.out hb4)
  clear hb4
  go_wp2_with fail
  go_ret2
  exact ⟨by rw [HP.out]; rfl, HB4.out⟩
 ·have HP : Hid (packP next l = ([], 1)) := if_neg hok
  have hck : checkP next l = 1 := if_neg hok
  rw [hck] at HC
  obtain ⟨c0, c1⟩ := HX.out W1 (brefl W1)
  clear hck hok
  go_enter Tryz.func8, Tryz.ntmps8
  go_wp2_with fail
  rw [HWE.out]
  refine HC.out.mono ?_
  rintro e w2 ⟨rfl, hb2⟩
  have HB2 : Hid (Below w.heap.size w w2) := bcall HB.out hb2
  clear hb2 c0 c1 HC
  go_wp2_with fail
  go_ret2
  exact ⟨by rw [HP.out]; rfl, HB2.out⟩
end Go.Proofs.YtkhemhiifhggmaaGreatDoor
namespace Go.Proofs.YtkhemhiifhggmaaGreatDoor
open Go.RowKit Go.Maps Go.Sort
set_option linter.unusedVariables false
section
variable {H : Type} {D : DS H} {f h : ByteArray → Option Int} {g : Int → List UInt8 × Int} {L : Int}
structure Two (n nx0 nx : Int) (l0 l : List Sg) (f : ByteArray → Option Int) (g : Int → List UInt8 × Int) : Prop where
 on : ∀ s k, f s = some k → s = newN ∨ s = bs (nameP 112 n) ∨ s = bs (nameP 112 (n + 1))
 c1 : ∀ k, f (bs (nameP 112 (n + 1))) = some k → (g k).1 = sealB 2 (textP nx l)
 c0 : f (bs (nameP 112 (n + 1))) = none → ∃ k, f (bs (nameP 112 n)) = some k ∧ (g k).1 = sealB 2 (textP nx0 l0)
theorem Two.names {n nx0 nx : Int} {l0 l : List Sg} (t : Two n nx0 nx l0 l f g) (v : Vw D.names f) (hK : StrK D.names) : ∀ s ∈ strKeys D.names, s.length ≤ 1000 := by
 intro s hs
 rw [hK.mem, (v.2 _).1] at hs
 obtain ⟨k, hk⟩ := Option.isSome_iff_exists.1 hs
 rcases t.on _ _ hk with e | e | e
 ·have : s = [110, 101, 119] := bs_inj e
  rw [this]
  decide
 ·rw [bs_inj e]
  have := name_le 112 n
  omega
 ·rw [bs_inj e]
  have := name_le 112 (n + 1)
  omega
theorem Two.look {n nx0 nx : Int} {l0 l : List Sg} (t : Two n nx0 nx l0 l f g) (hn : 1 ≤ n ∧ n + 1 ≤ 999999999) (hp0 : PtOk nx0 l0) (hp : PtOk nx l) (v : DV D f h g L) (hd : D.down = false) (hK : StrK D.names) {ss : List (List UInt8)} (hss : ss.Perm (strKeys D.names)) :
  (latestD D ss = some (n + 1, nx, l) ∧ f (bs (nameP 112 (n + 1))) ≠ none) ∨ (f (bs (nameP 112 (n + 1))) = none ∧ latestD D ss = some (n, nx0, l0)) := by
 have hl := ptOk_len hp
 have hl0 := ptOk_len hp0
 cases e : f (bs (nameP 112 (n + 1))) with
 |
  some k =>
  left
  refine ⟨latest_at (p := (nx, l)) v hd hK hss (by omega) e (by rw [t.c1 k e]; exact read_seal hp (by omega)) fun s k' hk => ?_, by simp⟩
  rcases t.on s k' hk with e | e | e
  ·exact .inl e
  ·exact .inr ⟨n, by omega, e⟩
  ·exact .inr ⟨n + 1, by omega, e⟩
 |
  none =>
  right
  obtain ⟨k, hk, hgk⟩ := t.c0 e
  refine ⟨rfl, latest_at (p := (nx0, l0)) v hd hK hss (by omega) hk (by rw [hgk]; exact read_seal hp0 (by omega)) fun s k' hk' => ?_⟩
  rcases t.on s k' hk' with e' | e' | e'
  ·exact .inl e'
  ·exact .inr ⟨n, by omega, e'⟩
  ·rw [e', e] at hk'
   cases hk'
end
end Go.Proofs.YtkhemhiifhggmaaGreatDoor
namespace Go.Proofs.YtkhemhiifhggmaaGreatDoor
open Go.RowKit Go.ChangeShapes Go.WideShapes Go.Deep
inductive Ty where
 | int (k : IntKind)
 | bool
 | str
 | slice (e : Ty) (bytes : Nat)
 | nil
 | cons (f r : Ty)
def Ty.size : Ty → Nat
 | .nil => 0
 | .cons f r => f.size + r.size
 | _ => 1
structure SlH where
 A : Option Addr
 n : Nat
 c : Nat
def Ty.den : Ty → Type
 | .int _ => Int
 | .bool => Bool
 | .str => ByteArray
 | .slice e _ => SlH × (Nat → e.den)
 | .nil => Unit
 | .cons f r => f.den × r.den
theorem Ty.inh : (t : Ty) → Nonempty t.den
 | .int _ => ⟨(0 : Int)⟩
 | .bool => ⟨false⟩
 | .str => ⟨ByteArray.empty⟩
 |
  .slice e _ => by
  obtain ⟨x⟩ := Ty.inh e
  exact ⟨(⟨none, 0, 0⟩, fun _ => x)⟩
 | .nil => ⟨()⟩
 |
  .cons f r => by
  obtain ⟨x⟩ := Ty.inh f
  obtain ⟨y⟩ := Ty.inh r
  exact ⟨(x, y)⟩
def SlH.ok (s : SlH) (bytes : Nat) : Prop := s.n ≤ s.c ∧ s.c ≤ maxLen ∧ s.n * bytes ≤ reachBytes ∧ (s.A = none → s.c = 0)
def Reads (w : World) (B : Nat) : (t : Ty) → t.den → List Value → Prop
 | .int k, d, cs => ∃ z : Int, d = z ∧ cs = [.int k z] ∧ (Lit.int k z).wf = true
 | .bool, d, cs => ∃ b : Bool, d = b ∧ cs = [.bool b]
 | .str, d, cs => ∃ s : ByteArray, d = s ∧ cs = [.string s] ∧ s.size ≤ maxLen ∧ s.size ≤ reachBytes
 | .slice e bytes, d, cs => cs = [.slice d.1.A d.1.n d.1.c] ∧ d.1.ok bytes ∧ (0 < d.1.n → ∃ b off, d.1.A = some ⟨b, off, none⟩ ∧ b < B ∧
   ∀ i, i < d.1.n → ∃ cl : List Value, cl.length = e.size ∧ (∀ j u, cl[j]? = some u → w.cell? ⟨b, off + (i * e.size + j), none⟩ = some u) ∧ Reads w B e (d.2 i) cl)
 | .nil, _, cs => cs = []
 | .cons f r, d, cs => ∃ c1 c2, cs = c1 ++ c2 ∧ c1.length = f.size ∧ Reads w B f d.1 c1 ∧ Reads w B r d.2 c2
theorem Reads.keep {w w' : World} {B B' : Nat} (hB : B ≤ B') (hk : ∀ b o, b < B → w'.cell? ⟨b, o, none⟩ = w.cell? ⟨b, o, none⟩) : ∀ {t : Ty} {d : t.den} {cs : List Value}, Reads w B t d cs → Reads w' B' t d cs
 | .int _, _, _, h => h
 | .bool, _, _, h => h
 | .str, _, _, h => h
 |
  .slice e bytes, d, cs, h => by
  obtain ⟨h1, h2, h3⟩ := h
  refine ⟨h1, h2, fun hn => ?_⟩
  obtain ⟨b, off, hA, hb, hi⟩ := h3 hn
  refine ⟨b, off, hA, by omega, fun i hin => ?_⟩
  obtain ⟨cl, hl, hc, hr⟩ := hi i hin
  exact ⟨cl, hl, fun j u hu => (hk _ _ hb).trans (hc j u hu), Reads.keep hB hk hr⟩
 | .nil, _, _, h => h
 |
  .cons f r, d, cs, h => by
  obtain ⟨c1, c2, h1, h2, h3, h4⟩ := h
  exact ⟨c1, c2, h1, h2, Reads.keep hB hk h3, Reads.keep hB hk h4⟩
theorem Reads.below {w w' : World} {t : Ty} {d : t.den} {cs : List Value} (h : Reads w w.heap.size t d cs) (hb : Below w.heap.size w w') : Reads w' w'.heap.size t d cs :=
 h.keep hb.size fun b o hl => hb.cell (p := ⟨b, o, none⟩) hl
theorem Reads.len {w : World} {B : Nat} : ∀ {t : Ty} {d : t.den} {cs : List Value}, Reads w B t d cs → cs.length = t.size
 | .int _, _, _, ⟨_, _, h, _⟩ => by rw [h]; rfl
 | .bool, _, _, ⟨_, _, h⟩ => by rw [h]; rfl
 | .str, _, _, ⟨_, _, h, _⟩ => by rw [h]; rfl
 | .slice _ _, _, _, ⟨h, _⟩ => by rw [h]; rfl
 | .nil, _, _, h => by rw [show _ = [] from h]; rfl
 |
  .cons f r, d, cs, ⟨c1, c2, h, hl, _, h2⟩ => by
  have := Reads.len h2
  rw [h, List.length_append, hl, this]
  rfl
def Ty.cells : (t : Ty) → t.den → List Value
 | .int k, d => [.int k d]
 | .bool, d => [.bool d]
 | .str, d => [.string d]
 | .slice _ _, d => [.slice d.1.A d.1.n d.1.c]
 | .nil, _ => []
 | .cons f r, d => f.cells d.1 ++ r.cells d.2
theorem Reads.cells {w : World} {B : Nat} : ∀ {t : Ty} {d : t.den} {cs : List Value}, Reads w B t d cs → cs = t.cells d
 | .int _, _, _, ⟨_, h, e, _⟩ => by rw [e, h]; rfl
 | .bool, _, _, ⟨_, h, e⟩ => by rw [e, h]; rfl
 | .str, _, _, ⟨_, h, e, _⟩ => by rw [e, h]; rfl
 | .slice _ _, _, _, ⟨h, _⟩ => h
 | .nil, _, _, h => h
 | .cons f r, d, cs, ⟨c1, c2, h, _, h1, h2⟩ => by rw [h, Reads.cells h1, Reads.cells h2]; rfl
theorem Reads.sl {w : World} {B bytes : Nat} {e : Ty} {A : Option Addr} {n c : Nat} {x : Nat → e.den} {cs : List Value} (h : Reads w B (.slice e bytes) (⟨A, n, c⟩, x) cs) (hl : ∀ d : e.den, (e.cells d).length = e.size) :
  Sl w B e.size A n ((List.range n).flatMap fun i => e.cells (x i)) := by
 obtain ⟨_, _, h3⟩ := h
 refine ⟨by rw [flat_length _ e.size (fun i => hl (x i)), List.length_range], fun hn => ?_⟩
 obtain ⟨b, off, hA, hb, hi⟩ := h3 hn
 refine ⟨b, off, hA, hb, fun j u hu => ?_⟩
 have hjl : j < n * e.size := by
  have := (List.getElem?_eq_some_iff.1 hu).1
  rw [flat_length _ e.size (fun i => hl (x i)), List.length_range] at this
  exact this
 have hs : 0 < e.size := by
  rcases Nat.eq_zero_or_pos e.size with h0 | h0
  ·rw [h0, Nat.mul_zero] at hjl; omega
  ·exact h0
 have hq : j / e.size < n := Nat.div_lt_of_lt_mul (by rw [Nat.mul_comm]; exact hjl)
 have hr : j % e.size < e.size := Nat.mod_lt _ hs
 have hj : j / e.size * e.size + j % e.size = j := by rw [Nat.mul_comm]; exact Nat.div_add_mod j e.size
 obtain ⟨cl, _, hc, hrd⟩ := hi (j / e.size) hq
 rw [← hj] at hu ⊢
 rw [flat_at _ e.size (fun i => hl (x i)) (List.range n) (j / e.size) (j % e.size) (j / e.size) (by simp [hq]) hr] at hu
 refine hc (j % e.size) u ?_
 rw [hrd.cells]
 exact hu
def tyFields (P : Program) (g : TypeId → Option Ty) : List Field → Nat → Option Ty
 | [], _ => some .nil
 | f :: fs, o => if f.offset = o then
   match g f.type with
   | some τ => if P.cellsOf f.type = τ.size then (tyFields P g fs (o + τ.size)).map (.cons τ) else none
   | none => none
  else none
def tyOf (P : Program) : Nat → TypeId → Option Ty
 | 0, _ => none
 | k + 1, t => match P.underlying t with
  | some (.int k) => some (.int k)
  | some .bool => some .bool
  | some .string => some .str
  | some (.slice e) => match tyOf P k e with
   | some τ => if P.cellsOf e = τ.size ∧ 0 < τ.size then some (.slice τ (P.bytesOf e)) else none
   | none => none
  | some (.struct fs) => match tyFields P (tyOf P k) fs.toList 0 with
   | some τ => if P.cellsOf t = τ.size then some τ else none
   | none => none
  | _ => none
section
variable {H : Type} {enc : TypeId × Value → H} {P : Program} {w : World} {base : Nat} {spare : Nat → Bool} {held : Bool}
def Small (P : Program) (t : TypeId) (d : DataW H) : Prop := ∀ n ∈ d.weights P t, n ≤ reachBytes
theorem weights_mem_all {e : TypeId} : ∀ {ds : List (DataW H)} {d : DataW H}, d ∈ ds → ∀ n ∈ d.weights P e, n ∈ DataW.weightsAll P e ds
 |
  x :: ds, d, hd, n, hn => by
  rw [DataW.weightsAll, List.mem_append]
  rcases List.mem_cons.1 hd with rfl | h
  ·exact .inl hn
  ·exact .inr (weights_mem_all h n hn)
theorem reads_fields {k n : Nat} (ih : ∀ (t : TypeId) (τ : Ty), tyOf P k t = some τ → ∀ (fuel : Nat) (cs : List Value) (x : DataW H × List MemPlace), DataW.trod enc P w base spare held fuel t cs = some x → Small P t x.1 → ∃ d : τ.den, Reads w w.heap.size τ d cs) (cs : List Value) :
  ∀ (fs : List Field) (o : Nat) (τ : Ty), tyFields P (tyOf P k) fs o = some τ → cs.length = o + τ.size →
   (∀ f ∈ fs, ∃ y : DataW H × List MemPlace, DataW.trod enc P w base spare held n f.type ((cs.drop f.offset).take (P.cellsOf f.type)) = some y ∧ Small P f.type y.1) → ∃ d : τ.den, Reads w w.heap.size τ d (cs.drop o)
 |
  [], o, τ, h, hl, _ => by
  rw [tyFields] at h
  injection h with h
  subst h
  exact ⟨(), List.drop_eq_nil_of_le (by rw [hl]; exact Nat.le_refl _)⟩
 |
  f :: fs, o, τ, h, hl, hf => by
  rw [tyFields] at h
  split at h
  ·rename_i ho
   split at h
   ·rename_i τ0 h0
    split at h
    ·rename_i hc
     cases hr : tyFields P (tyOf P k) fs (o + τ0.size) with
     | none => rw [hr] at h; cases h
     |
      some τ1 =>
      rw [hr] at h
      injection h with h
      subst h
      have hl' : cs.length = o + τ0.size + τ1.size := by rw [hl]; show o + (τ0.size + τ1.size) = _; omega
      obtain ⟨y, hy, hs⟩ := hf f (List.mem_cons_self ..)
      obtain ⟨d0, r0⟩ := ih f.type τ0 h0 n _ y hy hs
      obtain ⟨d1, r1⟩ := reads_fields ih cs fs (o + τ0.size) τ1 hr hl' (fun g hg => hf g (List.mem_cons_of_mem _ hg))
      rw [hc, ho] at r0
      refine ⟨(d0, d1), (cs.drop o).take τ0.size, cs.drop (o + τ0.size), ?_, ?_, r0, r1⟩
      ·rw [← List.drop_drop, List.take_append_drop]
      ·rw [List.length_take, List.length_drop]; omega
    ·cases h
   ·cases h
  ·cases h
theorem reads_of : ∀ (k : Nat) (t : TypeId) (τ : Ty), tyOf P k t = some τ → ∀ (fuel : Nat) (cs : List Value) (x : DataW H × List MemPlace), DataW.trod enc P w base spare held fuel t cs = some x → Small P t x.1 → ∃ d : τ.den, Reads w w.heap.size τ d cs
 | 0, t, τ, h, _, _, _, _, _ => by rw [tyOf] at h; cases h
 |
  k + 1, t, τ, h, fuel, cs, x, hx, hs => by
  have ih := reads_of k
  rw [tyOf] at h
  split at h
  ·rename_i kk hu
   injection h with h
   subst h
   obtain ⟨z, e, _, wz⟩ := DataW.trod_int hu hx
   exact ⟨z, z, rfl, e, wz⟩
  ·rename_i hu
   injection h with h
   subst h
   obtain ⟨b, e, _⟩ := DataW.trod_bool hu hx
   exact ⟨b, b, rfl, e⟩
  ·rename_i hu
   injection h with h
   subst h
   obtain ⟨s, e, ex, hm⟩ := DataW.trod_string hu hx
   subst ex
   refine ⟨s, s, rfl, e, hm, ?_⟩
   have := hs s.data.toList.length (by simp [DataW.weights])
   simpa using this
  ·rename_i e hu
   split at h
   ·rename_i τ0 h0
    split at h
    ·rename_i hc
     obtain ⟨hc, hp⟩ := hc
     injection h with h
     subst h
     rcases open_slice hu hx with ⟨hcs, _⟩ | ⟨a, len, cap, mm, nn, D, Pl, hcs, _, hlc, hcm, hmm, ex, hi⟩
     ·obtain ⟨x0⟩ := Ty.inh τ0
      exact ⟨(⟨none, 0, 0⟩, fun _ => x0), hcs, ⟨Nat.le_refl _, Nat.zero_le _, by rw [Nat.zero_mul]; exact Nat.zero_le _, fun _ => rfl⟩, fun h => absurd h (Nat.lt_irrefl _)⟩
     ·have hle : len ≤ mm := by rw [hmm]; split <;> omega
      subst ex
      have hsl : Small P t (DataW.slice ((List.range len).map D) ((List.range (mm - len)).map fun j => D (len + j))) := hs
      have hbytes : len * P.bytesOf e ≤ reachBytes := by
       have := hsl ((((List.range len).map D).length + ((List.range (mm - len)).map fun j => D (len + j)).length) * P.bytesOf e) (by simp [DataW.weights, hu])
       refine Nat.le_trans (Nat.mul_le_mul_right _ ?_) this
       simp
      have row : ∀ i, i < len → ∃ d : τ0.den, ∃ cl : List Value, cl.length = τ0.size ∧ (∀ j u, cl[j]? = some u → w.cell? ((a.add (i * τ0.size)).add j) = some u) ∧ Reads w w.heap.size τ0 d cl := by
       intro i hin
       obtain ⟨cs', hcs', htr⟩ := hi i (by omega)
       rw [hc] at hcs'
       obtain ⟨_, hcl, hat⟩ := World.cells?_some hcs'
       obtain ⟨d, hd⟩ := ih e τ0 h0 nn cs' _ htr (fun n hn => hsl n (by
        rw [DataW.weights, hu]
        simp only [List.mem_cons, List.mem_append]
        exact .inr (.inl (weights_mem_all (List.mem_map.2 ⟨i, List.mem_range.2 hin, rfl⟩) n hn))))
       refine ⟨d, cs', hd.len, fun j u hu => ?_, hd⟩
       have hj : j < τ0.size := by have := (List.getElem?_eq_some_iff.1 hu).1; have := hd.len; omega
       rw [hat j hj, hu]
      haveI : Inhabited τ0.den := ⟨Classical.choice (Ty.inh τ0)⟩
      obtain ⟨g, hg⟩ := choose_lt' row
      refine ⟨(⟨some a, len, cap⟩, g), hcs, ⟨hlc, hcm, hbytes, fun e => by cases e⟩, fun hn => ?_⟩
      have hn' : 0 < len := hn
      obtain ⟨cl, hl, hcell, _⟩ := hg 0 hn'
      have h00 := hcell 0 (cl[0]'(by omega)) (List.getElem?_eq_getElem _)
      obtain ⟨hb, hsp⟩ := lt_of_cell h00
      simp only [Nat.zero_mul, Addr.add, if_true] at hb hsp
      obtain ⟨ab, ao, asp⟩ := a
      simp only at hb hsp
      subst hsp
      refine ⟨ab, ao, rfl, hb, fun i hin => ?_⟩
      obtain ⟨cl, hl, hcell, hr⟩ := hg i hin
      refine ⟨cl, hl, fun j u hu => ?_, hr⟩
      have := hcell j u hu
      rw [Addr.add_lit, Addr.add_lit, Nat.add_assoc] at this
      exact this
    ·cases h
   ·cases h
  ·rename_i fs hu
   split at h
   ·rename_i τ0 h0
    split at h
    ·rename_i hc
     injection h with h
     subst h
     obtain ⟨xs, n, _, ex, hl, hxl, hf⟩ := DataW.trod_struct hu hx
     subst ex
     have hS : Small P t (DataW.agg (xs.map (·.1))) := hs
     have := reads_fields (n := n) ih cs fs.toList 0 τ0 h0 (by rw [hl, hc, Nat.zero_add]) (fun f hm => by
      obtain ⟨i, hi⟩ := List.mem_iff_getElem?.1 hm
      have hi' : fs[i]? = some f := by simpa using hi
      have hlt : i < xs.length := by rw [hxl]; exact (Array.getElem?_eq_some_iff.1 hi').1
      refine ⟨xs[i], by rw [hf i f hi', List.getElem?_eq_getElem hlt], fun m hm' => hS m ?_⟩
      rw [DataW.weights, hu]
      exact DataW.weights_mem_each (j := i) (t := f.type) (d := xs[i].1) (by simp [hi]) (by simp [hlt]) m hm')
     rwa [List.drop_zero] at this
    ·cases h
   ·cases h
  ·cases h
theorem small_of {ts : List TypeId} {ds : List (DataW H)} (h : (DataW.weightsEach P ts ds).all (· ≤ reachBytes) = true) {j : Nat} {t : TypeId} {d : DataW H} (ht : ts[j]? = some t) (hd : ds[j]? = some d) : Small P t d :=
 fun n hn => by simpa using List.all_eq_true.1 h n (DataW.weights_mem_each ht hd n hn)
theorem open_deep_struct {k : Nat} {t : TypeId} {e : Ty} {cs : Array Value} {d : DataW H} {p : List MemPlace} (hT : tyOf P k t = some e) (h : DataW.Trod enc P w base spare held t (.agg cs) d p) (hs : Small P t d) :
  ∃ x : e.den, Reads w w.heap.size e x cs.toList := by
 obtain ⟨m, hm⟩ := h
 obtain ⟨x, hr⟩ := reads_of k t _ hT m _ _ hm hs
 exact ⟨x, hr⟩
end
end Go.Proofs.YtkhemhiifhggmaaGreatDoor
namespace Go.Proofs.YtkhemhiifhggmaaGreatDoor
open Go.RowKit Go.Maps
structure TextsIn (w : World) (A : Option Addr) (n c : Nat) (x : Nat → ByteArray) : Prop where
 nc : n ≤ c
 cm : c ≤ maxLen
 rb : n * 16 ≤ reachBytes
 sl : Sl w w.heap.size 1 A n ((List.range n).map fun i => .string (x i))
 sz : ∀ i, i < n → (x i).size ≤ reachBytes
theorem TextsIn.get {w W : World} {A : Option Addr} {n c : Nat} {x : Nat → ByteArray} (h : TextsIn w A n c x) (hb : Below w.heap.size w W) {i : Nat} (hi : i < n) : ∃ b off t, A = some ⟨b, off, none⟩ ∧ b < W.heap.size ∧ x i = ⟨(t : List UInt8).toArray⟩ ∧ t.length ≤ 1125899906842624 ∧ W.cell? ⟨b, off + i, none⟩ = some (.string ⟨t.toArray⟩) := by
 obtain ⟨b, off, hA, hb0, hcell⟩ := h.sl.at_ hi
 have hc0 := hcell i (.string (x i)) (by rw [List.getElem?_map, List.getElem?_range hi]; rfl)
 have ht : x i = ⟨(x i).data.toList.toArray⟩ := by cases x i; simp
 refine ⟨b, off, (x i).data.toList, hA, Nat.lt_of_lt_of_le hb0 hb.size, ht, ?_, ?_⟩
 ·have h1 := h.sz i hi
  have h2 : (x i).data.toList.length = (x i).size := rfl
  rw [h2]
  unfold reachBytes at h1
  omega
 ·rw [← ht]
  exact (hb.cell (p := ⟨b, off + i, none⟩) hb0).trans hc0
end Go.Proofs.YtkhemhiifhggmaaGreatDoor
