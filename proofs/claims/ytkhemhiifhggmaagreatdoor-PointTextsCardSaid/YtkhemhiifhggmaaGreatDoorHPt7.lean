/- point.Read: the loop over segments, walked. -/
import Derived.Test.YtkhemhiifhggmaaGreatDoorHPt6
import Derived.Deep.RegionHeld3
import Derived.Test.YtkhemhiifhggmaaGreatDoorHPt4
set_option maxRecDepth 100000
set_option maxHeartbeats 40000000
namespace Go.Proofs.YtkhemhiifhggmaaGreatDoor
open Go.RowKit Go.Maps
set_option linter.unusedVariables false
theorem cnt_less {t : List UInt8} (h : (readCnt t).2.1 = 0) : (readCnt t).2.2.length + 1 ≤ t.length := by
 unfold readCnt at h ⊢
 by_cases hc : (readNum t).2.1 = 0 ∧ (readNum t).1 < 0
 ·rw [if_pos hc] at h
  cases h
 ·rw [if_neg hc] at h ⊢
  unfold readNum at h ⊢
  by_cases he : (numR t).2.2 = 0
  ·rw [if_pos he]
   obtain ⟨k, h1, h2, h3⟩ := numR_k t he
   rw [h1]
   simp only [Int.toNat_natCast, List.length_drop]
   omega
  ·rw [if_neg he] at h
   exact absurd h he
theorem step_fv {ops : Array Oper} {o : Oper} {a : Act} {K : Act → World → Prop} {Q : Exit → Act → World → Prop} {E : Prop} (wx : World) (hgd : o.guard = none) (t f : Nat) (caps : Array Value)
  (ho : o.op = .call { callee := .value (.tmp t), args := #[], argTypes := #[] }) (hx : a.eval (.tmp t) = .func (.func f) #[] caps) (hen : ∀ args w, (callFunc f args).run Tryz.prog w = .ok (.enter f args) w) (S : Value) {R : World → Prop} (hc : Calls Tryz.prog f caps wx fun e w' => e = .returned S ∧ R w')
  (h : ∀ w', R w' → K (a.put o.dst S) w') :
  if Region.wanted o (yielded ops a.tmps) = true then Oper.wp Tryz.prog o a wx K Q else E := by
 have hw : Region.wanted o (yielded ops a.tmps) = true := by simp [Region.wanted, hgd]
 rw [if_pos hw]
 unfold Oper.wp
 have he : (execOp a.eval o).run Tryz.prog wx = .ok (.enter f caps) wx := by
  have hx' : a.tmps[t]?.getD undef = .func (.func f) #[] caps := by simpa [go_sem] using hx
  simp [execOp, ho, go_sem, hx', hen]
 rw [he, Oper.upon_enter]
 refine hc.mono ?_
 rintro e w' ⟨rfl, hb⟩
 exact h w' hb
theorem read_o (w W0 : World) (t0 : List UInt8) (ht0 : t0.length ≤ 1099511627000) (rb cb bb pb : Nat) (nxt : Int) (O : Option (List Sg × List UInt8)) (N : Nat) (hN : N ≤ 9223372036854775807) (bad0 : Bool) (HR0 : Hid (RdR w W0 rb cb bb pb nxt none 0 0 [] t0 bad0)) (HL0 : Hid (RdL O N [] t0 bad0))
  (c0 c1 c2 c3 c4 c5 c6 c11 c12 c13 c14 c15 c16 c17 c18 c19 c20 c21 c22 c23 c24 c25 c26 c49 c50 c51 c52 c53 c54 c55 c56 c57 c58 c59 c60 c61 u27 u28 u29 u30 u31 u32 u33 u34 u35 u36 u37 u38 u39 u40 u41 u42 u43 u44 u45 u46 u47 u48 : Value) (Q0 : Exit → Act → World → Prop) (hQ0 : ∀ c (a a' : Act) w, a.defers = a'.defers → Q0 (.panic c) a w → Q0 (.panic c) a' w)
  (hexit : ∀ (k m cp : Nat) (A : Option Addr) (L : List Sg) (t : List UInt8) (bad : Bool) (W : World) (u27 u28 u29 u30 u31 u32 u33 u34 u35 u36 u37 u38 u39 u40 u41 u42 u43 u44 u45 u46 u47 u48 : Value), Hid (RdR w W rb cb bb pb nxt A m cp L t bad) → Hid (RdL O k L t bad) → Hid ((k = 0 ∨ bad = true) ∧ m ≤ 1099511627000 ∧ t.length ≤ t0.length) → Q0 (.exit 0) ⟨List.toArray (c0 :: c1 :: c2 :: c3 :: c4 :: c5 :: c6 :: .pointer (some ⟨bb, 0, none⟩) :: .func (.func 42) #[] #[.pointer (some ⟨rb, 0, none⟩), .pointer (some ⟨bb, 0, none⟩)] :: .pointer (some ⟨pb, 0, none⟩) :: .int .i64 (k : Int) :: c11 :: c12 :: c13 :: c14 :: c15 :: c16 :: c17 :: c18 :: c19 :: c20 :: c21 :: c22 :: c23 :: c24 :: c25 :: c26 :: u27 :: u28 :: u29 :: u30 :: u31 :: u32 :: u33 :: u34 :: u35 :: u36 :: u37 :: u38 :: u39 :: u40 :: u41 :: u42 :: u43 :: u44 :: u45 :: u46 :: u47 :: u48 :: c49 :: c50 :: c51 :: c52 :: c53 :: c54 :: c55 :: c56 :: c57 :: c58 :: c59 :: c60 :: c61 :: []), []⟩ W) :
  Code.wp Tryz.prog (.loop (loopOf Tryz.f17 0)) Q0 ⟨List.toArray (c0 :: c1 :: c2 :: c3 :: c4 :: c5 :: c6 :: .pointer (some ⟨bb, 0, none⟩) :: .func (.func 42) #[] #[.pointer (some ⟨rb, 0, none⟩), .pointer (some ⟨bb, 0, none⟩)] :: .pointer (some ⟨pb, 0, none⟩) :: .int .i64 (N : Int) :: c11 :: c12 :: c13 :: c14 :: c15 :: c16 :: c17 :: c18 :: c19 :: c20 :: c21 :: c22 :: c23 :: c24 :: c25 :: c26 :: u27 :: u28 :: u29 :: u30 :: u31 :: u32 :: u33 :: u34 :: u35 :: u36 :: u37 :: u38 :: u39 :: u40 :: u41 :: u42 :: u43 :: u44 :: u45 :: u46 :: u47 :: u48 :: c49 :: c50 :: c51 :: c52 :: c53 :: c54 :: c55 :: c56 :: c57 :: c58 :: c59 :: c60 :: c61 :: []), []⟩ W0 := by
 conv => arg 2; arg 1; whnf
 go_loopw [10] (fun nv wr => ∃ (k m cp : Nat) (A : Option Addr) (L : List Sg) (t : List UInt8) (bad : Bool), nv = .int .i64 (k : Int) ∧ k ≤ 9223372036854775807 ∧ Hid (RdR w wr rb cb bb pb nxt A m cp L t bad) ∧ Hid (RdL O k L t bad) ∧ Hid ((bad = false → 4 * m + t.length ≤ t0.length) ∧ m ≤ 1099511627000 ∧ t.length ≤ t0.length)) (fun nv _ => (intOf nv).toNat)
 case atStart => exact ⟨N, 0, 0, none, [], t0, bad0, rfl, hN, HR0, HL0, Lib.hid ⟨fun _ => by omega, by omega, Nat.le_refl _⟩⟩
 case round =>
  clear HR0 HL0
  obtain ⟨k, m, cp, A, L, t, bad, rfl, hk63, HX, HL, HM⟩ := hrel
  have c0 := cell_of_row wr bb 0 _ _ (0, 0) HX.out.nx.b
  simp at c0
  cases bad
  ·cases k with
   |
    zero =>
    go_wp2_with fail
    exact hexit 0 m cp A L t false wr _ _ _ _ _ _ _ _ _ _ _ _ _ _ _ _ _ _ _ _ _ _ HX HL (Lib.hid ⟨.inl rfl, HM.out.2.1, HM.out.2.2⟩)
   |
    succ k =>
    have q0 : decide (((k + 1 : Nat) : Int) > 0) = true := decide_eq_true (by omega)
    have hm4 := HM.out.1 rfl
    have hk1 : ((k + 1 : Nat) : Int) - 1 = (k : Int) := by omega
    have hk2 : (k : Int) + 1 - 1 = (k : Int) := by omega
    have HLS := Lib.hid HL.out.step
    have HLEN : Hid ((readCnt t).2.2.length ≤ t.length ∧ (readCnt (readCnt t).2.2).2.2.length ≤ t.length ∧ (readCnt (readCnt (readCnt t).2.2).2.2).2.2.length ≤ t.length ∧ (readCnt (readCnt (readCnt (readCnt t).2.2).2.2).2.2).2.2.length ≤ t.length) := by
     have h1 := readCnt_short t
     have h2 := readCnt_short (readCnt t).2.2
     have h3 := readCnt_short (readCnt (readCnt t).2.2).2.2
     have h4 := readCnt_short (readCnt (readCnt (readCnt t).2.2).2.2).2.2
     exact ⟨h1, by omega, by omega, by omega⟩
    have HLES : Hid ((((((false || decide ((readCnt t).2.1 ≠ 0)) || decide ((readCnt (readCnt t).2.2).2.1 ≠ 0)) || decide ((readCnt (readCnt (readCnt t).2.2).2.2).2.1 ≠ 0)) || decide ((readCnt (readCnt (readCnt (readCnt t).2.2).2.2).2.2).2.1 ≠ 0)) = false) → (readCnt (readCnt (readCnt (readCnt t).2.2).2.2).2.2).2.2.length + 4 ≤ t.length) := fun h => by
     simp only [Bool.false_or, Bool.or_eq_false_iff, decide_eq_false_iff_not, Decidable.not_not] at h
     obtain ⟨⟨⟨h1, h2⟩, h3⟩, h4⟩ := h
     have := cnt_less h1
     have := cnt_less h2
     have := cnt_less h3
     have := cnt_less h4
     omega
    have hT := HM.out.2.2
    have HEN := Lib.hid (enters_of Tryz.func42 (by kernel_rfl) rfl)
    have HC1 := Lib.hid (fun W h => nxt_any W rb cb bb t false h (by omega))
    have HC2 := Lib.hid (fun W h => nxt_any W rb cb bb (readCnt t).2.2 (false || decide ((readCnt t).2.1 ≠ 0)) h (by have := HLEN.out.1; omega))
    have HC3 := Lib.hid (fun W h => nxt_any W rb cb bb (readCnt (readCnt t).2.2).2.2 ((false || decide ((readCnt t).2.1 ≠ 0)) || decide ((readCnt (readCnt t).2.2).2.1 ≠ 0)) h (by have := HLEN.out.2.1; omega))
    have HC4 := Lib.hid (fun W h => nxt_any W rb cb bb (readCnt (readCnt (readCnt t).2.2).2.2).2.2 (((false || decide ((readCnt t).2.1 ≠ 0)) || decide ((readCnt (readCnt t).2.2).2.1 ≠ 0)) || decide ((readCnt (readCnt (readCnt t).2.2).2.2).2.1 ≠ 0)) h (by have := HLEN.out.2.2.1; omega))
    have HMN : Hid ((((((false || decide ((readCnt t).2.1 ≠ 0)) || decide ((readCnt (readCnt t).2.2).2.1 ≠ 0)) || decide ((readCnt (readCnt (readCnt t).2.2).2.2).2.1 ≠ 0)) || decide ((readCnt (readCnt (readCnt (readCnt t).2.2).2.2).2.2).2.1 ≠ 0)) = false → 4 * (m + 1) + (readCnt (readCnt (readCnt (readCnt t).2.2).2.2).2.2).2.2.length ≤ t0.length) ∧ m + 1 ≤ 1099511627000 ∧ (readCnt (readCnt (readCnt (readCnt t).2.2).2.2).2.2).2.2.length ≤ t0.length) := ⟨fun h => by have := HLES.out h; omega, by omega, by have := HLEN.out.2.2.2; omega⟩
    clear HL HM HLEN HLES
    generalize hb1 : (false || decide ((readCnt t).2.1 ≠ 0)) = b1 at *
    generalize hz1 : (readCnt t).1 = z1 at *
    generalize ht1 : (readCnt t).2.2 = t1 at *
    clear hb1 hz1 ht1
    generalize hb2 : (b1 || decide ((readCnt t1).2.1 ≠ 0)) = b2 at *
    generalize hz2 : (readCnt t1).1 = z2 at *
    generalize ht2 : (readCnt t1).2.2 = t2 at *
    clear hb2 hz2 ht2
    generalize hb3 : (b2 || decide ((readCnt t2).2.1 ≠ 0)) = b3 at *
    generalize hz3 : (readCnt t2).1 = z3 at *
    generalize ht3 : (readCnt t2).2.2 = t3 at *
    clear hb3 hz3 ht3
    generalize hb4 : (b3 || decide ((readCnt t3).2.1 ≠ 0)) = b4 at *
    generalize hz4 : (readCnt t3).1 = z4 at *
    generalize ht4 : (readCnt t3).2.2 = t4 at *
    clear hb4 hz4 ht4
    have c1 := cell_of_row wr pb 1 _ _ (0, 0) HX.out.p
    simp at c1
    go_wp2_with fail
    refine Go.wp_region_noPanic ?_
    go_region_law (
     first
      | (
        refine step_fv _ rfl 37 42 #[.pointer (some ⟨rb, 0, none⟩), .pointer (some ⟨bb, 0, none⟩)] rfl rfl HEN.out _ (HC1.out _ (HX.out.nx.below (by repeat (first | exact brefl _ | refine Below.drew ?_)))) ?_
        rintro W1 ⟨hn1, hg1⟩
        have HX := Lib.hid ((HX.out.below (by repeat (first | exact brefl _ | refine Below.drew ?_))).next hn1 hg1)
        have c1 := cell_of_row W1 pb 1 _ _ (0, 0) HX.out.p
        simp at c1
        have hp1 : pb < W1.heap.size := (Array.getElem?_eq_some_iff.1 HX.out.p).1
        clear hn1 hg1)
      | (
        refine step_fv _ rfl 39 42 #[.pointer (some ⟨rb, 0, none⟩), .pointer (some ⟨bb, 0, none⟩)] rfl rfl HEN.out _ (HC2.out _ (HX.out.nx.below (by repeat (first | exact brefl _ | refine Below.drew ?_)))) ?_
        rintro W2 ⟨hn2, hg2⟩
        have HX := Lib.hid ((HX.out.below (by repeat (first | exact brefl _ | refine Below.drew ?_))).next hn2 hg2)
        have c1 := cell_of_row W2 pb 1 _ _ (0, 0) HX.out.p
        simp at c1
        have hp2 : pb < W2.heap.size := (Array.getElem?_eq_some_iff.1 HX.out.p).1
        clear hn2 hg2)
      | (
        refine step_fv _ rfl 41 42 #[.pointer (some ⟨rb, 0, none⟩), .pointer (some ⟨bb, 0, none⟩)] rfl rfl HEN.out _ (HC3.out _ (HX.out.nx.below (by repeat (first | exact brefl _ | refine Below.drew ?_)))) ?_
        rintro W3 ⟨hn3, hg3⟩
        have HX := Lib.hid ((HX.out.below (by repeat (first | exact brefl _ | refine Below.drew ?_))).next hn3 hg3)
        have c1 := cell_of_row W3 pb 1 _ _ (0, 0) HX.out.p
        simp at c1
        have hp3 : pb < W3.heap.size := (Array.getElem?_eq_some_iff.1 HX.out.p).1
        clear hn3 hg3)
      | (
        refine step_fv _ rfl 43 42 #[.pointer (some ⟨rb, 0, none⟩), .pointer (some ⟨bb, 0, none⟩)] rfl rfl HEN.out _ (HC4.out _ (HX.out.nx.below (by repeat (first | exact brefl _ | refine Below.drew ?_)))) ?_
        rintro W4 ⟨hn4, hg4⟩
        have HX := Lib.hid ((HX.out.below (by repeat (first | exact brefl _ | refine Below.drew ?_))).next hn4 hg4)
        have c1 := cell_of_row W4 pb 1 _ _ (0, 0) HX.out.p
        simp at c1
        have hp4 : pb < W4.heap.size := (Array.getElem?_eq_some_iff.1 HX.out.p).1
        clear hn4 hg4)
      | (
        refine step_pushg (base := w.heap.size) _ #[.int .i64 z1, .int .i64 z2, .int .i64 z3, .int .i64 z4] ?gd (.tmp 36) (.tmp 46) 22 ?ho el_seg (.slice A m cp) m (L.flatMap Sg.cells) ?hs ?own (nb := W4.heap.size) (m := 1) ?hx ?hxc ?hl ?h1 ?hm ?h63 ?hby ?hba ?_
        case gd => rfl
        case ho => rfl
        case hs => rfl
        case own => exact own_kept HX.out.own (by repeat (first | exact brefl _ | refine Below.drew ?_ | refine bnew ?_ _))
        case hx => rfl
        case hxc => first | exact heap_alloc_new _ _ | (simp; done)
        case hl => rfl
        case h1 => simp [Value.oneCell']
        case hm => omega
        case h63 => unfold maxLen; omega
        case hby => omega
        case hba => exact Nat.le_trans HX.out.bel.size (Below.size (B := W4.heap.size) (by repeat (first | exact brefl _ | refine Below.drew ?_ | refine bnew ?_ _)))
        intro g cap w7 hown7 hg7 hgm
        have HPS := Lib.hid (HX.out.push (s := ⟨z1, z2, z3, z4⟩) (by repeat (first | exact brefl _ | refine Below.drew ?_ | refine bnew ?_ _)) hg7 hown7)
        have bf7 : w7.frozen? ⟨pb, 1, none⟩ = false := by simp [World.frozen?, HPS.out.2]
        have c7 := cell_of_row w7 pb 1 _ _ (0, 0) HPS.out.2
        simp at c7
        clear hown7 hg7 hgm))
    all_goals
     dsimp only [NoPanic]
     have HRN := Lib.hid HPS.out.1
     clear HX HC1 HC2 HC3 HC4 HEN bf7 c7 HPS
     go_wp2_with fail
     go_roundw
     case rel => exact ⟨k, m + 1, cap, some ⟨g, 0, none⟩, _, t4, b4, by go_num, by omega, HRN, HLS, HMN⟩
     case measure => simp [intOf]
  ·go_wp2_with fail
   all_goals exact hexit k m cp A L t true wr _ _ _ _ _ _ _ _ _ _ _ _ _ _ _ _ _ _ _ _ _ _ HX HL (Lib.hid ⟨.inr rfl, HM.out.2.1, HM.out.2.2⟩)
end Go.Proofs.YtkhemhiifhggmaaGreatDoor
namespace Go.Proofs.YtkhemhiifhggmaaGreatDoor
open Go.RowKit Go.Maps Go.Sort
set_option linter.unusedVariables false
structure RowsKeep (W W' : World) : Prop where
 size : W.heap.size ≤ W'.heap.size
 row : ∀ (g : Nat) (cs : Array Value) (ty : TypeId) (fr : Nat × Nat), W.heap[g]? = some (.cells cs ty fr) → ty ≠ 81 → W'.heap[g]? = some (.cells cs ty fr)
theorem RowsKeep.refl (W : World) : RowsKeep W W := ⟨Nat.le_refl _, fun _ _ _ _ h _ => h⟩
theorem RowsKeep.trans {a b c : World} (h : RowsKeep a b) (k : RowsKeep b c) : RowsKeep a c := ⟨Nat.le_trans h.size k.size, fun g cs ty fr hg ht => k.row g cs ty fr (h.row g cs ty fr hg ht) ht⟩
theorem RowsKeep.below {W W' : World} (h : Below W.heap.size W W') : RowsKeep W W' := ⟨h.size, fun g cs ty fr hg _ => (h.block g (Array.getElem?_eq_some_iff.1 hg).1).trans hg⟩
theorem RowsKeep.of_fr {H : Type} {W W' : World} {F : Foot} {D : DS H} (hd : DiskAt W F D) (h : Fr F W W') : RowsKeep W W' := by
 refine ⟨h.size, fun g cs ty fr hg ht => (h.block g (Array.getElem?_eq_some_iff.1 hg).1 ?_ ?_ ?_ ?_).trans hg⟩
 ·intro e
  rw [e, hd.blk] at hg
  injection hg with hg
  injection hg with _ hg
  exact ht hg.symm
 ·obtain ⟨n, _, hm⟩ := hd.fil
  exact fun e => map_ne_cells hm hg e.symm
 ·obtain ⟨n, _, hm⟩ := hd.nam
  exact fun e => map_ne_cells hm hg e.symm
 ·obtain ⟨n, _, hm⟩ := hd.kep
  exact fun e => map_ne_cells hm hg e.symm
theorem RowsKeep.own {W W' : World} (h : RowsKeep W W') {base e s n : Nat} {v : Value} {xs : List Value} (ho : W.ownsRow base e s v n xs) (he : e ≠ 81) : W'.ownsRow base e s v n xs := by
 refine ⟨ho.1, ?_⟩
 rcases ho.2 with hn | ⟨g, cap, cur, rfl, hg, hh, rest⟩
 ·exact .inl hn
 ·exact .inr ⟨g, cap, cur, rfl, hg, h.row g _ _ _ hh he, rest⟩
theorem RowsKeep.cell {W W' : World} (h : RowsKeep W W') {b o : Nat} {cs : Array Value} {ty : TypeId} {fr : Nat × Nat} {u : Value} (hb : W.heap[b]? = some (.cells cs ty fr)) (ht : ty ≠ 81) (hu : cs[o]? = some u) : W'.cell? ⟨b, o, none⟩ = some u := by
 rw [cell_of_row W' b o cs ty fr (h.row b cs ty fr hb ht)]
 exact hu
section
variable {H : Type} {w W W' : World} {p : Nat} {D D' : DS H}
theorem Own.byr (h : Own w W p D) {x : Value} {f : Nat} {av : Array Value} (hc : ∀ F : Foot, F.p = p → DiskAt W F D → Calls Tryz.prog f av W fun e w' => e = .returned x ∧ DiskAt w' F D' ∧ Fr F W w') :
  Calls Tryz.prog f av W fun e w' => e = .returned x ∧ Own w w' p D' ∧ RowsKeep W w' := by
 obtain ⟨F, e, h1, h2, h3, h4, h5, h6⟩ := h
 refine (hc F e h1).mono fun e' w' hh => ?_
 obtain ⟨r1, r2, r3⟩ := hh
 exact ⟨r1, ⟨F, e, r2, r3.under h2 h2.size h3 h4 h5 h6, h3, h4, h5, h6⟩, RowsKeep.of_fr h1 r3⟩
theorem Own.byn (h : Own w W p D) {x : Value} {f : Nat} {av : Array Value} (hc : ∀ F : Foot, F.p = p → DiskAt W F D → Calls Tryz.prog f av W fun e w' => e = .returned x ∧ NewFoot W F D' w' ∧ Fr F W w') :
  Calls Tryz.prog f av W fun e w' => e = .returned x ∧ Own w w' p D' ∧ RowsKeep W w' := by
 obtain ⟨F, e, h1, h2, h3, h4, h5, h6⟩ := h
 refine (hc F e h1).mono fun e' w' hh => ?_
 obtain ⟨r1, ⟨F', q1, q2, q3, q4, q5⟩, r3⟩ := hh
 have hs := h2.size
 exact ⟨r1, ⟨F', q1.trans e, q5, r3.under h2 h2.size h3 h4 h5 h6, by rw [q1]; exact h3, by rcases q2 with q | q <;> omega, by rcases q3 with q | q <;> omega, by rcases q4 with q | q <;> omega⟩, RowsKeep.of_fr h1 r3⟩
theorem dr_create (h : Own w W p D) (hf : D.fits) (s : ByteArray) (hs : s.size ≤ maxLen) : Calls Tryz.prog 25 #[.pointer (some ⟨p, 0, none⟩), .string s] W fun e w' => e = .returned (.int .i64 (D.create s).2) ∧ Own w w' p (D.create s).1 ∧ RowsKeep W w' :=
 h.byr fun F e hd => by subst e; exact create_any W F D s hd hf hs
theorem dr_append (h : Own w W p D) (hf : D.fits) (s x : ByteArray) (hs : s.size ≤ maxLen) (hz : (fileOf D.files (numOf D.names s)).1.length + x.size ≤ 9223372036854775807) : Calls Tryz.prog 26 #[.pointer (some ⟨p, 0, none⟩), .string s, .string x] W fun e w' => e = .returned (.int .i64 (D.append s x).2) ∧ Own w w' p (D.append s x).1 ∧ RowsKeep W w' :=
 h.byr fun F e hd => by subst e; exact append_any W F D s x hd hf hs hz
theorem dr_sync (h : Own w W p D) (hf : D.fits) (s : ByteArray) (hs : s.size ≤ maxLen) : Calls Tryz.prog 27 #[.pointer (some ⟨p, 0, none⟩), .string s] W fun e w' => e = .returned (.int .i64 (D.sync s).2) ∧ Own w w' p (D.sync s).1 ∧ RowsKeep W w' :=
 h.byr fun F e hd => by subst e; exact sync_any W F D s hd hf hs
theorem dr_rename (h : Own w W p D) (hf : D.fits) (s x : ByteArray) (hs : s.size ≤ maxLen) (hx : x.size ≤ maxLen) : Calls Tryz.prog 51 #[.pointer (some ⟨p, 0, none⟩), .string s, .string x] W fun e w' => e = .returned (.int .i64 (D.rename s x).2) ∧ Own w w' p (D.rename s x).1 ∧ RowsKeep W w' :=
 h.byr fun F e hd => by subst e; exact rename_any W F D s x hd hf hs hx
theorem dr_syncDir (h : Own w W p D) (hf : D.fits) : Calls Tryz.prog 28 #[.pointer (some ⟨p, 0, none⟩)] W fun e w' => e = .returned (.int .i64 D.syncDir.2) ∧ Own w w' p D.syncDir.1 ∧ RowsKeep W w' :=
 h.byn fun F e hd => by subst e; exact syncDir_any W F D hd hf
theorem dr_read (h : Own w W p D) (s : ByteArray) (hs : s.size ≤ maxLen) : Calls Tryz.prog 31 #[.pointer (some ⟨p, 0, none⟩), .string s] W fun e w' => e = .returned (.tuple #[.string (readS D s), .int .i64 (readE D s)]) ∧ Own w w' p D ∧ Below W.heap.size W w' := by
 obtain ⟨F, rfl, h1, h2⟩ := h
 refine (read_any W F D s h1 hs).mono fun e' w' hh => ⟨hh.1, ⟨F, rfl, h1.below hh.2, bcall h2.1 hh.2, h2.2⟩, hh.2⟩
theorem dr_list (h : Own w W p D) (hf : D.fits) (hd : D.down = false) : Calls Tryz.prog 29 #[.pointer (some ⟨p, 0, none⟩)] W fun e w' => ListOf W D.names e w' ∧ Own w w' p D := by
 obtain ⟨F, rfl, h1, h2⟩ := h
 refine (list_any W F D h1 hf hd).mono fun e' w' hh => ⟨hh, ?_⟩
 obtain ⟨v, ss, _, _, _, hb⟩ := hh
 exact ⟨F, rfl, h1.below hb, bcall h2.1 hb, h2.2⟩
end
def runS {H : Type} : List (DS H → DS H × Int) → DS H → DS H × Int
 | [], D => (D, 0)
 | f :: r, D => if (f D).2 = 0 then runS r (f D).1 else f D
def acts {H : Type} (S nm : ByteArray) : List (DS H → DS H × Int) := [fun D => D.create ⟨#[110, 101, 119]⟩, fun D => D.append ⟨#[110, 101, 119]⟩ S, fun D => D.sync ⟨#[110, 101, 119]⟩, fun D => D.rename ⟨#[110, 101, 119]⟩ nm, fun D => D.syncDir]
def saveD {H : Type} (D : DS H) (n nx : Int) (l : List Sg) : DS H × Int :=
 if (packP nx l).2 = 0 ∧ nameP 112 n ≠ [] then runS (acts ⟨(packP nx l).1.toArray⟩ ⟨(nameP 112 n).toArray⟩) D else (D, 1)
end Go.Proofs.YtkhemhiifhggmaaGreatDoor
namespace Go.Proofs.YtkhemhiifhggmaaGreatDoor
open Go.RowKit Go.Maps Go.Sort
set_option linter.unusedVariables false
section
variable {H : Type} {w W : World} {p : Nat} {D : DS H}
def newN : ByteArray := ⟨#[110, 101, 119]⟩
theorem save_1 (h : Own w W p D) (hf : D.fits) (db : Nat) (hd : W.heap[db]? = some (.cells #[.pointer (some ⟨p, 0, none⟩)] 44 (0, 0))) :
  Calls Tryz.prog 47 #[.pointer (some ⟨db, 0, none⟩)] W fun e w' => e = .returned (.int .i64 (D.create newN).2) ∧ Own w w' p (D.create newN).1 ∧ RowsKeep W w' := by
 have c0 := cell_of_row W db 0 _ _ (0, 0) hd
 simp at c0
 have HC := Lib.hid (dr_create h hf newN (by show 3 ≤ maxLen; unfold maxLen; omega))
 unfold newN at HC
 clear h hd
 go_enter Tryz.func47, Tryz.ntmps47
 go_wp2_with fail
 refine HC.out.mono ?_
 rintro e w' ⟨rfl, h1, h2⟩
 go_wp2_with fail
 go_ret
 exact ⟨rfl, h1, h2⟩
theorem save_2 (h : Own w W p D) (hf : D.fits) (db sb : Nat) (S : ByteArray) (hz : (fileOf D.files (numOf D.names newN)).1.length + S.size ≤ 9223372036854775807) (hd : W.heap[db]? = some (.cells #[.pointer (some ⟨p, 0, none⟩)] 44 (0, 0))) (hs : W.heap[sb]? = some (.cells #[.string S] 9 (0, 0))) :
  Calls Tryz.prog 48 #[.pointer (some ⟨db, 0, none⟩), .pointer (some ⟨sb, 0, none⟩)] W fun e w' => e = .returned (.int .i64 (D.append newN S).2) ∧ Own w w' p (D.append newN S).1 ∧ RowsKeep W w' := by
 have c0 := cell_of_row W db 0 _ _ (0, 0) hd
 have c1 := cell_of_row W sb 0 _ _ (0, 0) hs
 simp at c0 c1
 have HC := Lib.hid (dr_append h hf newN S (by show 3 ≤ maxLen; unfold maxLen; omega) hz)
 unfold newN at HC
 clear h hd hs hz
 go_enter Tryz.func48, Tryz.ntmps48
 go_wp2_with fail
 refine HC.out.mono ?_
 rintro e w' ⟨rfl, h1, h2⟩
 go_wp2_with fail
 go_ret
 exact ⟨rfl, h1, h2⟩
theorem save_3 (h : Own w W p D) (hf : D.fits) (db : Nat) (hd : W.heap[db]? = some (.cells #[.pointer (some ⟨p, 0, none⟩)] 44 (0, 0))) :
  Calls Tryz.prog 49 #[.pointer (some ⟨db, 0, none⟩)] W fun e w' => e = .returned (.int .i64 (D.sync newN).2) ∧ Own w w' p (D.sync newN).1 ∧ RowsKeep W w' := by
 have c0 := cell_of_row W db 0 _ _ (0, 0) hd
 simp at c0
 have HC := Lib.hid (dr_sync h hf newN (by show 3 ≤ maxLen; unfold maxLen; omega))
 unfold newN at HC
 clear h hd
 go_enter Tryz.func49, Tryz.ntmps49
 go_wp2_with fail
 refine HC.out.mono ?_
 rintro e w' ⟨rfl, h1, h2⟩
 go_wp2_with fail
 go_ret
 exact ⟨rfl, h1, h2⟩
theorem nameP_len (c : UInt8) (n : Int) : (nameP c n).length ≤ 42 := by
 unfold nameP
 split
 ·rename_i h
  have hl := itoa_len9 h.1.1 h.1.2
  unfold pad9
  simp only [List.length_append, List.length_cons, List.length_nil, List.length_replicate]
  omega
 ·exact Nat.zero_le _
theorem pname_p (V : World) (hT : Tab V) (n : Int) (h63 : -9223372036854775808 ≤ n ∧ n ≤ 9223372036854775807) : Calls Tryz.prog 12 #[.int .u8 112, .int .i64 n] V fun e w' => e = .returned (.string ⟨(nameP 112 n).toArray⟩) ∧ Below V.heap.size V w' := pname_any V hT 112 n h63
theorem save_4 (h : Own w W p D) (hf : D.fits) (hT : Tab w) (db nb : Nat) (n : Int) (h63 : -9223372036854775808 ≤ n ∧ n ≤ 9223372036854775807) (hd : W.heap[db]? = some (.cells #[.pointer (some ⟨p, 0, none⟩)] 44 (0, 0))) (hn : W.heap[nb]? = some (.cells #[.int .i64 n] 3 (0, 0))) :
  Calls Tryz.prog 50 #[.pointer (some ⟨db, 0, none⟩), .pointer (some ⟨nb, 0, none⟩)] W fun e w' => e = .returned (.int .i64 (D.rename newN ⟨(nameP 112 n).toArray⟩).2) ∧ Own w w' p (D.rename newN ⟨(nameP 112 n).toArray⟩).1 ∧ RowsKeep W w' := by
 have c0 := cell_of_row W db 0 _ _ (0, 0) hd
 have c1 := cell_of_row W nb 0 _ _ (0, 0) hn
 simp at c0 c1
 have HN := Lib.hid (fun V (hb : Below w.heap.size w V) => pname_p V (hT.below hb) n h63)
 have hnl := nameP_len 112 n
 have hd1 := (Array.getElem?_eq_some_iff.1 hd).1
 have hn1 := (Array.getElem?_eq_some_iff.1 hn).1
 have HRN := Lib.hid (fun V (hb : Below W.heap.size W V) => dr_rename (h.on hb) hf newN ⟨(nameP 112 n).toArray⟩ (by show 3 ≤ maxLen; unfold maxLen; omega) (by rw [size_arr]; unfold maxLen; omega))
 unfold newN at HRN
 have HOB := Lib.hid h.below
 have HKC : Hid (∀ V, RowsKeep W V → V.cell? ⟨db, 0, none⟩ = some (.pointer (some ⟨p, 0, none⟩)) ∧ V.cell? ⟨nb, 0, none⟩ = some (.int .i64 n)) := fun V hv => ⟨hv.cell hd (by decide) rfl, hv.cell hn (by decide) rfl⟩
 clear h hd hn
 go_enter Tryz.func50, Tryz.ntmps50
 go_wp2_with fail
 go_region_with (first
  | (go_at_call 12; refine (HN.out _ (HOB.out.trans (by repeat (first | exact (brefl _).mono HOB.out.size | refine Below.drew ?_)))).mono ?_; rintro e V1 ⟨rfl, hv1⟩; have HV1 : Hid (Below W.heap.size W V1) := bcall (by repeat (first | exact brefl _ | refine Below.drew ?_)) hv1; have hk1 := HKC.out V1 (RowsKeep.below HV1.out); obtain ⟨k0, k1⟩ := hk1; clear hv1)
  | (go_at_call 51; refine (HRN.out _ (HV1.out.trans (by repeat (first | exact (brefl _).mono HV1.out.size | refine Below.drew ?_)))).mono ?_; rintro e V2 ⟨rfl, ho2, hr2⟩; have HO2 := Lib.hid ho2; have HR2 : Hid (RowsKeep W V2) := (RowsKeep.below (HV1.out.trans (by repeat (first | exact (brefl _).mono HV1.out.size | refine Below.drew ?_)))).trans hr2; clear ho2 hr2))
 all_goals
  go_wp2_with fail
  go_ret
  exact ⟨rfl, HO2.out, HR2.out⟩
end
end Go.Proofs.YtkhemhiifhggmaaGreatDoor
namespace Go.Proofs.YtkhemhiifhggmaaGreatDoor
open Go.RowKit Go.Maps Go.Sort
set_option linter.unusedVariables false
def gl (L s : Nat) : Nat → Nat
 | 0 => L
 | 1 => L
 | _ + 2 => L + s
def fvs (p db sb nb : Nat) : Array Value := #[.func (.func 47) #[] #[.pointer (some ⟨db, 0, none⟩)], .func (.func 48) #[] #[.pointer (some ⟨db, 0, none⟩), .pointer (some ⟨sb, 0, none⟩)], .func (.func 49) #[] #[.pointer (some ⟨db, 0, none⟩)], .func (.func 50) #[] #[.pointer (some ⟨db, 0, none⟩), .pointer (some ⟨nb, 0, none⟩)], .func (.func 28) #[.pointer (some ⟨p, 0, none⟩)] #[]]
theorem runS_ok {H : Type} {f : DS H → DS H × Int} {r : List (DS H → DS H × Int)} {D : DS H} (h : (f D).2 = 0) : runS (f :: r) D = runS r (f D).1 := if_pos h
theorem runS_no {H : Type} {f : DS H → DS H × Int} {r : List (DS H → DS H × Int)} {D : DS H} (h : (f D).2 ≠ 0) : runS (f :: r) D = f D := if_neg h
theorem save_o {H : Type} (w W0 : World) (p : Nat) (D0 : DS H) (HO0 : Hid (Own w W0 p D0)) (hT : Tab w) (k0 L : Nat) (hk0 : k0 ≤ 200000000000) (HS0 : Hid (D0.small k0)) (HG0 : Hid (D0.good L)) (hL : L ≤ 1152921504606846976) (S : ByteArray) (hS : S.size ≤ 1152921504606846976) (n : Int) (h63 : -9223372036854775808 ≤ n ∧ n ≤ 9223372036854775807) (fb db sb nb : Nat)
  (HF : Hid (W0.heap[fb]? = some (.cells (fvs p db sb nb) 54 (0, 0)))) (HD : Hid (W0.heap[db]? = some (.cells #[.pointer (some ⟨p, 0, none⟩)] 44 (0, 0)) ∧ W0.heap[sb]? = some (.cells #[.string S] 9 (0, 0)) ∧ W0.heap[nb]? = some (.cells #[.int .i64 n] 3 (0, 0))))
  (c0 c1 c2 c3 c4 c5 c7 c8 c9 c12 c13 c14 c15 c16 c17 c18 c19 c20 c21 c22 c23 c24 c25 c26 c27 c28 c29 u6 u10 u11 u33 u34 u35 u36 u37 u38 u39 u40 u41 : Value) (Q0 : Exit → Act → World → Prop) (hQ0 : ∀ c (a a' : Act) w, a.defers = a'.defers → Q0 (.panic c) a w → Q0 (.panic c) a' w)
  (hret : ∀ (W : World) (x32 u10 u11 u33 u34 u35 u36 u37 u38 u39 u40 u41 : Value), Hid (Own w W p (runS (acts S ⟨(nameP 112 n).toArray⟩) D0).1 ∧ RowsKeep W0 W) → Hid ((runS (acts S ⟨(nameP 112 n).toArray⟩) D0).2 ≠ 0) → Q0 .ret ⟨List.toArray (c0 :: c1 :: c2 :: c3 :: c4 :: c5 :: .int .i64 (runS (acts S ⟨(nameP 112 n).toArray⟩) D0).2 :: c7 :: c8 :: c9 :: u10 :: u11 :: c12 :: c13 :: c14 :: c15 :: c16 :: c17 :: c18 :: c19 :: c20 :: c21 :: c22 :: c23 :: c24 :: c25 :: c26 :: c27 :: c28 :: c29 :: .slice (some ⟨fb, 0, none⟩) 5 5 :: .int .i64 5 :: x32 :: u33 :: u34 :: u35 :: u36 :: u37 :: u38 :: u39 :: u40 :: u41 :: []), []⟩ W)
  (hexit : ∀ (W : World) (x32 u6 u10 u11 u33 u34 u35 u36 u37 u38 u39 u40 u41 : Value), Hid (Own w W p (runS (acts S ⟨(nameP 112 n).toArray⟩) D0).1 ∧ RowsKeep W0 W) → Hid ((runS (acts S ⟨(nameP 112 n).toArray⟩) D0).2 = 0) → Q0 (.exit 0) ⟨List.toArray (c0 :: c1 :: c2 :: c3 :: c4 :: c5 :: u6 :: c7 :: c8 :: c9 :: u10 :: u11 :: c12 :: c13 :: c14 :: c15 :: c16 :: c17 :: c18 :: c19 :: c20 :: c21 :: c22 :: c23 :: c24 :: c25 :: c26 :: c27 :: c28 :: c29 :: .slice (some ⟨fb, 0, none⟩) 5 5 :: .int .i64 5 :: x32 :: u33 :: u34 :: u35 :: u36 :: u37 :: u38 :: u39 :: u40 :: u41 :: []), []⟩ W) :
  Code.wp Tryz.prog (.loop (loopOf Tryz.f21 0)) Q0 ⟨List.toArray (c0 :: c1 :: c2 :: c3 :: c4 :: c5 :: u6 :: c7 :: c8 :: c9 :: u10 :: u11 :: c12 :: c13 :: c14 :: c15 :: c16 :: c17 :: c18 :: c19 :: c20 :: c21 :: c22 :: c23 :: c24 :: c25 :: c26 :: c27 :: c28 :: c29 :: .slice (some ⟨fb, 0, none⟩) 5 5 :: .int .i64 5 :: .int .i64 (0 : Int) :: u33 :: u34 :: u35 :: u36 :: u37 :: u38 :: u39 :: u40 :: u41 :: []), []⟩ W0 := by
 obtain ⟨R, hR⟩ : ∃ R, runS (acts S ⟨(nameP 112 n).toArray⟩) D0 = R := ⟨_, rfl⟩
 rw [hR] at hret hexit
 have HR := Lib.hid hR
 clear hR
 conv => arg 2; arg 1; whnf
 go_loopw [32] (fun iv wr => ∃ (i : Nat) (D : DS H), i ≤ 5 ∧ iv = .int .i64 (i : Int) ∧ Hid (Own w wr p D) ∧ Hid (RowsKeep W0 wr) ∧ Hid (runS ((acts S ⟨(nameP 112 n).toArray⟩).drop i) D = R) ∧ Hid (D.small (k0 + i) ∧ D.good (gl L S.size i))) (fun iv _ => 5 - (intOf iv).toNat)
 case atStart => exact ⟨0, D0, Nat.zero_le _, rfl, HO0, Lib.hid (RowsKeep.refl W0), HR, Lib.hid ⟨HS0.out, HG0.out⟩⟩
 case round =>
  clear HO0 HS0 HG0 HR
  obtain ⟨i, D, hi, rfl, HO, HK, HR, HB⟩ := hrel
  by_cases hi5 : i < 5
  ·have hfr := HK.out.row fb _ _ _ HF.out (by decide)
   have hdr := HK.out.row db _ _ _ HD.out.1 (by decide)
   have hsr := HK.out.row sb _ _ _ HD.out.2.1 (by decide)
   have hnr := HK.out.row nb _ _ _ HD.out.2.2 (by decide)
   have hfit := HB.out.1.fits (by omega)
   have hfbw := (Array.getElem?_eq_some_iff.1 hfr).1
   rcases (by omega : i = 0 ∨ i = 1 ∨ i = 2 ∨ i = 3 ∨ i = 4) with rfl | rfl | rfl | rfl | rfl
   ·have c0 := cell_of_row wr fb 0 _ _ (0, 0) hfr
    simp [fvs] at c0
    have HC := Lib.hid (save_1 HO.out hfit db hdr)
    have HBN : Hid ((D.create newN).1.small (k0 + (0 + 1)) ∧ (D.create newN).1.good (gl L S.size (0 + 1))) := ⟨HB.out.1.create _, HB.out.2.create _⟩
    by_cases he : (D.create newN).2 = 0
    ·have HRN : Hid (runS ((acts S ⟨(nameP 112 n).toArray⟩).drop (0 + 1)) (D.create newN).1 = R) := (runS_ok (r := (acts S ⟨(nameP 112 n).toArray⟩).drop (0 + 1)) he).symm.trans HR.out
     rw [he] at HC
     generalize (D.create newN).1 = D2 at *
     clear he hdr hsr hnr hfr
     go_wp2_with fail
     refine HC.out.mono ?_
     rintro e w2 ⟨rfl, ho2, hr2⟩
     have HO2 := Lib.hid ho2
     have HK2 := Lib.hid (HK.out.trans hr2)
     clear ho2 hr2
     go_wp2_with fail
     go_roundw
     case rel => exact ⟨0 + 1, D2, by omega, by go_num, HO2, HK2, HRN, HBN⟩
     case measure => simp [intOf]
    ·have HRN : Hid (D.create newN = R) := (runS_no (r := (acts S ⟨(nameP 112 n).toArray⟩).drop (0 + 1)) he).symm.trans HR.out
     obtain ⟨z, hz⟩ : ∃ z, (D.create newN).2 = z := ⟨_, rfl⟩
     have q1 : (z != 0) = true := by rw [← hz]; simpa using he
     have HNZ : Hid (R.2 ≠ 0) := by show _ ≠ _; rw [← HRN.out]; exact he
     have HZ : Hid (R.2 = z) := by show _ = _; rw [← HRN.out, hz]
     have HD2 : Hid (R.1 = (D.create newN).1) := by show _ = _; rw [HRN.out]
     rw [hz] at HC
     clear hz he hdr hsr hnr hfr
     go_wp2_with fail
     refine HC.out.mono ?_
     rintro e w2 ⟨rfl, ho2, hr2⟩
     have HO2 : Hid (Own w w2 p R.1 ∧ RowsKeep W0 w2) := ⟨by rw [HD2.out]; exact ho2, HK.out.trans hr2⟩
     clear ho2 hr2
     go_wp2_with fail
     rw [← HZ.out]
     exact hret w2 _ _ _ _ _ _ _ _ _ _ _ _ HO2 HNZ
   ·have c1 := cell_of_row wr fb 1 _ _ (0, 0) hfr
    simp [fvs] at c1
    have HC := Lib.hid (save_2 HO.out hfit db sb S (by have := ((show D.good L from HB.out.2).fs (numOf D.names newN)).2.2; omega) hdr hsr)
    have HBN : Hid ((D.append newN S).1.small (k0 + (1 + 1)) ∧ (D.append newN S).1.good (gl L S.size (1 + 1))) := ⟨HB.out.1.append _ _, HB.out.2.append _ _⟩
    by_cases he : (D.append newN S).2 = 0
    ·have HRN : Hid (runS ((acts S ⟨(nameP 112 n).toArray⟩).drop (1 + 1)) (D.append newN S).1 = R) := (runS_ok (r := (acts S ⟨(nameP 112 n).toArray⟩).drop (1 + 1)) he).symm.trans HR.out
     rw [he] at HC
     generalize (D.append newN S).1 = D2 at *
     clear he hdr hsr hnr hfr
     go_wp2_with fail
     refine HC.out.mono ?_
     rintro e w2 ⟨rfl, ho2, hr2⟩
     have HO2 := Lib.hid ho2
     have HK2 := Lib.hid (HK.out.trans hr2)
     clear ho2 hr2
     go_wp2_with fail
     go_roundw
     case rel => exact ⟨1 + 1, D2, by omega, by go_num, HO2, HK2, HRN, HBN⟩
     case measure => simp [intOf]
    ·have HRN : Hid (D.append newN S = R) := (runS_no (r := (acts S ⟨(nameP 112 n).toArray⟩).drop (1 + 1)) he).symm.trans HR.out
     obtain ⟨z, hz⟩ : ∃ z, (D.append newN S).2 = z := ⟨_, rfl⟩
     have q1 : (z != 0) = true := by rw [← hz]; simpa using he
     have HNZ : Hid (R.2 ≠ 0) := by show _ ≠ _; rw [← HRN.out]; exact he
     have HZ : Hid (R.2 = z) := by show _ = _; rw [← HRN.out, hz]
     have HD2 : Hid (R.1 = (D.append newN S).1) := by show _ = _; rw [HRN.out]
     rw [hz] at HC
     clear hz he hdr hsr hnr hfr
     go_wp2_with fail
     refine HC.out.mono ?_
     rintro e w2 ⟨rfl, ho2, hr2⟩
     have HO2 : Hid (Own w w2 p R.1 ∧ RowsKeep W0 w2) := ⟨by rw [HD2.out]; exact ho2, HK.out.trans hr2⟩
     clear ho2 hr2
     go_wp2_with fail
     rw [← HZ.out]
     exact hret w2 _ _ _ _ _ _ _ _ _ _ _ _ HO2 HNZ
   ·have c2 := cell_of_row wr fb 2 _ _ (0, 0) hfr
    simp [fvs] at c2
    have HC := Lib.hid (save_3 HO.out hfit db hdr)
    have HBN : Hid ((D.sync newN).1.small (k0 + (2 + 1)) ∧ (D.sync newN).1.good (gl L S.size (2 + 1))) := ⟨HB.out.1.sync _, HB.out.2.sync _⟩
    by_cases he : (D.sync newN).2 = 0
    ·have HRN : Hid (runS ((acts S ⟨(nameP 112 n).toArray⟩).drop (2 + 1)) (D.sync newN).1 = R) := (runS_ok (r := (acts S ⟨(nameP 112 n).toArray⟩).drop (2 + 1)) he).symm.trans HR.out
     rw [he] at HC
     generalize (D.sync newN).1 = D2 at *
     clear he hdr hsr hnr hfr
     go_wp2_with fail
     refine HC.out.mono ?_
     rintro e w2 ⟨rfl, ho2, hr2⟩
     have HO2 := Lib.hid ho2
     have HK2 := Lib.hid (HK.out.trans hr2)
     clear ho2 hr2
     go_wp2_with fail
     go_roundw
     case rel => exact ⟨2 + 1, D2, by omega, by go_num, HO2, HK2, HRN, HBN⟩
     case measure => simp [intOf]
    ·have HRN : Hid (D.sync newN = R) := (runS_no (r := (acts S ⟨(nameP 112 n).toArray⟩).drop (2 + 1)) he).symm.trans HR.out
     obtain ⟨z, hz⟩ : ∃ z, (D.sync newN).2 = z := ⟨_, rfl⟩
     have q1 : (z != 0) = true := by rw [← hz]; simpa using he
     have HNZ : Hid (R.2 ≠ 0) := by show _ ≠ _; rw [← HRN.out]; exact he
     have HZ : Hid (R.2 = z) := by show _ = _; rw [← HRN.out, hz]
     have HD2 : Hid (R.1 = (D.sync newN).1) := by show _ = _; rw [HRN.out]
     rw [hz] at HC
     clear hz he hdr hsr hnr hfr
     go_wp2_with fail
     refine HC.out.mono ?_
     rintro e w2 ⟨rfl, ho2, hr2⟩
     have HO2 : Hid (Own w w2 p R.1 ∧ RowsKeep W0 w2) := ⟨by rw [HD2.out]; exact ho2, HK.out.trans hr2⟩
     clear ho2 hr2
     go_wp2_with fail
     rw [← HZ.out]
     exact hret w2 _ _ _ _ _ _ _ _ _ _ _ _ HO2 HNZ
   ·have c3 := cell_of_row wr fb 3 _ _ (0, 0) hfr
    simp [fvs] at c3
    have HC := Lib.hid (save_4 HO.out hfit hT db nb n h63 hdr hnr)
    have HBN : Hid ((D.rename newN ⟨(nameP 112 n).toArray⟩).1.small (k0 + (3 + 1)) ∧ (D.rename newN ⟨(nameP 112 n).toArray⟩).1.good (gl L S.size (3 + 1))) := ⟨HB.out.1.rename _ _, HB.out.2.rename _ _⟩
    by_cases he : (D.rename newN ⟨(nameP 112 n).toArray⟩).2 = 0
    ·have HRN : Hid (runS ((acts S ⟨(nameP 112 n).toArray⟩).drop (3 + 1)) (D.rename newN ⟨(nameP 112 n).toArray⟩).1 = R) := (runS_ok (r := (acts S ⟨(nameP 112 n).toArray⟩).drop (3 + 1)) he).symm.trans HR.out
     rw [he] at HC
     generalize (D.rename newN ⟨(nameP 112 n).toArray⟩).1 = D2 at *
     clear he hdr hsr hnr hfr
     go_wp2_with fail
     refine HC.out.mono ?_
     rintro e w2 ⟨rfl, ho2, hr2⟩
     have HO2 := Lib.hid ho2
     have HK2 := Lib.hid (HK.out.trans hr2)
     clear ho2 hr2
     go_wp2_with fail
     go_roundw
     case rel => exact ⟨3 + 1, D2, by omega, by go_num, HO2, HK2, HRN, HBN⟩
     case measure => simp [intOf]
    ·have HRN : Hid (D.rename newN ⟨(nameP 112 n).toArray⟩ = R) := (runS_no (r := (acts S ⟨(nameP 112 n).toArray⟩).drop (3 + 1)) he).symm.trans HR.out
     obtain ⟨z, hz⟩ : ∃ z, (D.rename newN ⟨(nameP 112 n).toArray⟩).2 = z := ⟨_, rfl⟩
     have q1 : (z != 0) = true := by rw [← hz]; simpa using he
     have HNZ : Hid (R.2 ≠ 0) := by show _ ≠ _; rw [← HRN.out]; exact he
     have HZ : Hid (R.2 = z) := by show _ = _; rw [← HRN.out, hz]
     have HD2 : Hid (R.1 = (D.rename newN ⟨(nameP 112 n).toArray⟩).1) := by show _ = _; rw [HRN.out]
     rw [hz] at HC
     clear hz he hdr hsr hnr hfr
     go_wp2_with fail
     refine HC.out.mono ?_
     rintro e w2 ⟨rfl, ho2, hr2⟩
     have HO2 : Hid (Own w w2 p R.1 ∧ RowsKeep W0 w2) := ⟨by rw [HD2.out]; exact ho2, HK.out.trans hr2⟩
     clear ho2 hr2
     go_wp2_with fail
     rw [← HZ.out]
     exact hret w2 _ _ _ _ _ _ _ _ _ _ _ _ HO2 HNZ
   ·have c4 := cell_of_row wr fb 4 _ _ (0, 0) hfr
    simp [fvs] at c4
    have HC := Lib.hid (dr_syncDir HO.out hfit)
    have HBN : Hid ((D.syncDir).1.small (k0 + (4 + 1)) ∧ (D.syncDir).1.good (gl L S.size (4 + 1))) := ⟨HB.out.1.syncDir, HB.out.2.syncDir⟩
    by_cases he : (D.syncDir).2 = 0
    ·have HRN : Hid (runS ((acts S ⟨(nameP 112 n).toArray⟩).drop (4 + 1)) (D.syncDir).1 = R) := (runS_ok (r := (acts S ⟨(nameP 112 n).toArray⟩).drop (4 + 1)) he).symm.trans HR.out
     rw [he] at HC
     generalize (D.syncDir).1 = D2 at *
     clear he hdr hsr hnr hfr
     go_wp2_with fail
     refine HC.out.mono ?_
     rintro e w2 ⟨rfl, ho2, hr2⟩
     have HO2 := Lib.hid ho2
     have HK2 := Lib.hid (HK.out.trans hr2)
     clear ho2 hr2
     go_wp2_with fail
     go_roundw
     case rel => exact ⟨4 + 1, D2, by omega, by go_num, HO2, HK2, HRN, HBN⟩
     case measure => simp [intOf]
    ·have HRN : Hid (D.syncDir = R) := (runS_no (r := (acts S ⟨(nameP 112 n).toArray⟩).drop (4 + 1)) he).symm.trans HR.out
     obtain ⟨z, hz⟩ : ∃ z, (D.syncDir).2 = z := ⟨_, rfl⟩
     have q1 : (z != 0) = true := by rw [← hz]; simpa using he
     have HNZ : Hid (R.2 ≠ 0) := by show _ ≠ _; rw [← HRN.out]; exact he
     have HZ : Hid (R.2 = z) := by show _ = _; rw [← HRN.out, hz]
     have HD2 : Hid (R.1 = (D.syncDir).1) := by show _ = _; rw [HRN.out]
     rw [hz] at HC
     clear hz he hdr hsr hnr hfr
     go_wp2_with fail
     refine HC.out.mono ?_
     rintro e w2 ⟨rfl, ho2, hr2⟩
     have HO2 : Hid (Own w w2 p R.1 ∧ RowsKeep W0 w2) := ⟨by rw [HD2.out]; exact ho2, HK.out.trans hr2⟩
     clear ho2 hr2
     go_wp2_with fail
     rw [← HZ.out]
     exact hret w2 _ _ _ _ _ _ _ _ _ _ _ _ HO2 HNZ
  ·obtain rfl : i = 5 := by omega
   have HRN : Hid ((D, (0 : Int)) = R) := HR.out
   have HO2 : Hid (Own w wr p R.1 ∧ RowsKeep W0 wr) := ⟨by rw [← HRN.out]; exact HO.out, HK.out⟩
   go_wp2_with fail
   exact hexit wr _ _ _ _ _ _ _ _ _ _ _ _ _ HO2 (by show Hid (R.2 = 0); rw [← HRN.out]; rfl)
end Go.Proofs.YtkhemhiifhggmaaGreatDoor
namespace Go.Proofs.YtkhemhiifhggmaaGreatDoor
open Go.RowKit Go.Maps
set_option linter.unusedVariables false
theorem readNum_in (t : List UInt8) (h : (readNum t).2.1 = 0) : (readNum t).1 ≤ 9223372036854775807 := by
 unfold readNum at h ⊢
 by_cases he : (numR t).2.2 = 0
 ·rw [if_pos he] at h ⊢
  show (numR t).1 ≤ _
  unfold numR at he ⊢
  by_cases hne : t = []
  ·rw [if_pos hne]; omega
  rw [if_neg hne] at he ⊢
  simp only at he ⊢
  have hb := byteN_in t 0
  by_cases h1 : 16 ≤ byteN t 0 ∧ byteN t 0 < 240
  ·rw [if_pos h1]; show (byteN t 0 : Int) - 128 ≤ _; omega
  rw [if_neg h1] at he ⊢
  by_cases h2 : byteN t 0 < 8 ∨ 247 < byteN t 0
  ·rw [if_pos h2] at he; cases he
  rw [if_neg h2] at he ⊢
  generalize (if byteN t 0 < 16 then 16 - byteN t 0 else byteN t 0 - 239) = K at *
  by_cases h3 : t.length ≤ K
  ·rw [if_pos h3] at he; cases he
  rw [if_neg h3] at he ⊢
  generalize decide (byteN t 0 < 16) = fl at *
  by_cases h4 : 1 < K ∧ flipN fl (byteN t 1) = 0
  ·rw [if_pos h4] at he; cases he
  rw [if_neg h4] at he ⊢
  by_cases h5 : accN fl t K ≤ 9223372036854775695
  ·rw [if_pos h5]
   by_cases h6 : byteN t 0 < 16
   ·rw [if_pos h6]; show -113 - (accN fl t K : Int) ≤ _; omega
   ·rw [if_neg h6]; show (accN fl t K : Int) + 112 ≤ _; omega
  ·rw [if_neg h5] at he; cases he
 ·rw [if_neg he] at h
  exact absurd h he
theorem readCnt_in (t : List UInt8) (h : (readCnt t).2.1 = 0) : pos63 (readCnt t).1 := by
 unfold readCnt at h ⊢
 split
 ·rename_i hc; rw [if_pos hc] at h; cases h
 ·rename_i hc
  rw [if_neg hc] at h
  have h1 := readNum_in t h
  have : ¬ (readNum t).1 < 0 := fun e => hc ⟨h, e⟩
  exact ⟨by omega, h1⟩
theorem cnt_rng (t : List UInt8) : 0 ≤ (readCnt t).1 ∧ (readCnt t).1 ≤ 9223372036854775807 := by
 by_cases h : (readCnt t).2.1 = 0
 ·exact readCnt_in t h
 ·have : (readCnt t).1 = 0 := by
   unfold readCnt at h ⊢
   split
   ·rfl
   ·rename_i hc
    rw [if_neg hc] at h
    unfold readNum at h ⊢
    by_cases he : (numR t).2.2 = 0
    ·rw [if_pos he] at h
     exact absurd rfl h
    ·rw [if_neg he]
  omega
theorem cells2 {W : World} {b : Nat} {a c : Value} {ty : TypeId} (h : W.heap[b]? = some (.cells #[a, c] ty (0, 0))) : W.cell? ⟨b, 0, none⟩ = some a ∧ W.cell? ⟨b, 1, none⟩ = some c ∧ W.frozen? ⟨b, 0, none⟩ = false ∧ W.frozen? ⟨b, 1, none⟩ = false := by
 have h0 := cell_of_row W b 0 _ _ (0, 0) h
 have h1 := cell_of_row W b 1 _ _ (0, 0) h
 simp at h0 h1
 exact ⟨h0, h1, by simp [World.frozen?, h], by simp [World.frozen?, h]⟩
theorem results_cell2 {fn : Func} {p t : Tmp} {ty : TypeId} (h : fn.results = #[.cell p ty, .tmp t]) {P : Program} (tmps : Array Value) (w : World) (g : Nat) (cs : Array Value)
  (hp : tmps.getD p undef = .pointer (some ⟨g, 0, none⟩)) (hl : (loadVar ty ⟨g, 0, none⟩).run P w = .ok (.agg cs) w) :
  (results fn tmps).run P w = .ok (.tuple #[.agg cs, tmps.getD t undef]) w := by
 have hp' : tmps[p]?.getD undef = .pointer (some ⟨g, 0, none⟩) := by simpa using hp
 simp [results, h, hp', asAddr, hl]
theorem load_point {w : World} {g : Nat} {cs : Array Value} {fr : Nat × Nat} (hg : w.heap[g]? = some (.cells cs 24 fr)) (hc : cs.size = 2) : (loadVar 24 ⟨g, 0, none⟩).run Tryz.prog w = .ok (.agg cs) w :=
 run_loadVar_row w g 24 24 cs fr _ hg Tryz.underlying24 rfl (by rw [hc]; kernel_rfl)
theorem two_set {W : World} {b : Nat} {x y : Value} {ty : TypeId} (h : W.heap[b]? = some (.cells #[x, y] ty (0, 0))) (x' y' : Value) : ((W.setCell ⟨b, 0, none⟩ x').setCell ⟨b, 1, none⟩ y').heap[b]? = some (.cells #[x', y'] ty (0, 0)) := by
 have := blk_set (j := 1) (blk_set (j := 0) h x') y'
 simpa using this
def readP (s : List UInt8) : Option (Int × List Sg) :=
 if (openB 2 s).2 = 0 then (cntR (openB 2 s).1).bind fun a => (cntR a.2).bind fun b => (segsR b.1.toNat b.2).bind fun r => if r.2 = [] ∧ PtOk a.1 r.1 then some (a.1, r.1) else none
 else none
def ReadPost (w : World) (o : Option (Int × List Sg)) (e : Ending) (w' : World) : Prop :=
 Below w.heap.size w w' ∧ match o with
  | none => e = .returned (.tuple #[.agg #[.int .i64 0, .slice none 0 0], .int .i64 18])
  | some (nx, l) => ∃ A n cp, e = .returned (.tuple #[.agg #[.int .i64 nx, .slice A n cp], .int .i64 0]) ∧ SegsIn w' w'.heap.size A n l ∧ n ≤ 1099511627000 ∧ n ≤ cp ∧ ∀ a, A = some a → w.heap.size ≤ a.block
theorem read_pt (w : World) (s : List UInt8) (hs : s.length ≤ 1099511627000) : Calls Tryz.prog 17 #[.string ⟨s.toArray⟩] w (ReadPost w (readP s)) := by
 have HO := Lib.hid (fun W => open_any W s (by omega) 2 (by omega))
 have HOL : Hid ((openB 2 s).1.length ≤ s.length) := by
  show _ ≤ _
  unfold openB
  split
  ·split
   ·split
    ·exact Nat.zero_le _
    ·split
     ·exact Nat.zero_le _
     ·split
      ·rename_i h _ _ _
       have h1 := (readBlk_short (s.drop 4)).resolve_right (fun hh => hh h)
       have h2 : (s.drop 4).length = s.length - 4 := List.length_drop ..
       show (readBlk (s.drop 4)).1.length ≤ _
       omega
      ·exact Nat.zero_le _
   ·exact Nat.zero_le _
  ·exact Nat.zero_le _
 obtain ⟨P, hP⟩ : ∃ P, readP s = P := ⟨_, rfl⟩
 rw [hP]
 unfold readP at hP
 generalize (openB 2 s).1 = c at *
 generalize (openB 2 s).2 = x at *
 by_cases hx : x = 0
 ·rw [if_pos hx] at hP
  rw [hx] at HO
  have HPP := Lib.hid hP
  have hcl := HOL.out
  clear hP hx
  go_enter Tryz.func17, Tryz.ntmps17
  go_wp2_with fail
  refine (HO.out _).mono ?_
  rintro e w1 ⟨rfl, hb1⟩
  have HA : Hid (Below w.heap.size w (w.alloc (.cells #[.int .i64 0, .slice none 0 0] 24)) ∧ (w.alloc (.cells #[.int .i64 0, .slice none 0 0] 24)).heap[w.heap.size]? = some (.cells #[.int .i64 0, .slice none 0 0] 24 (0, 0)) ∧ (w.alloc (.cells #[.int .i64 0, .slice none 0 0] 24)).heap.size = w.heap.size + 1) := ⟨bnew (brefl w) _, heap_alloc_new _ _, by simp⟩
  generalize w.alloc (.cells #[.int .i64 0, .slice none 0 0] 24) = wA at *
  have HB1 : Hid (Below wA.heap.size wA w1) := hb1
  clear hb1
  go_wp2_with fail
  refine (at_any _ c).mono ?_
  rintro e w2 ⟨rfl, h2, hb2⟩
  have HB2 := Lib.hid (bcall HB1.out hb2)
  have hl2 := (Array.getElem?_eq_some_iff.1 h2).1
  have hcw : wA.heap.size ≤ w1.heap.size := HB1.out.size
  generalize hcb : w1.heap.size = cb at *
  have H2 := Lib.hid h2
  clear h2 hb2
  have HNX : Hid (NxAt ((w2.alloc (.cells #[.pointer (some ⟨cb, 0, none⟩)] 69)).alloc (.cells #[.bool false] 4)) w2.heap.size cb (w2.heap.size + 1) c false) := by
   refine ⟨?_, ?_, ?_, by omega, by omega, by omega⟩
   ·exact (heap_alloc_old _ _ (by simp)).trans (heap_alloc_new _ _)
   ·have := heap_alloc_new (w2.alloc (.cells #[.pointer (some ⟨cb, 0, none⟩)] 69)) (.cells #[.bool false] 4)
    simpa using this
   ·exact (heap_alloc_old _ _ (by simp; omega)).trans ((heap_alloc_old _ _ hl2).trans H2.out)
  have HB3 : Hid (Below wA.heap.size wA ((w2.alloc (.cells #[.pointer (some ⟨cb, 0, none⟩)] 69)).alloc (.cells #[.bool false] 4))) := bnew (bnew HB2.out _) _
  have hszw := HB2.out.size
  have hcl2 : c.length ≤ 1099511627000 := by omega
  have hs3 : ((w2.alloc (.cells #[.pointer (some ⟨cb, 0, none⟩)] 69)).alloc (.cells #[.bool false] 4)).heap.size = w2.heap.size + 2 := by simp
  go_wp2_with fail
  generalize (w2.alloc (.cells #[.pointer (some ⟨cb, 0, none⟩)] 69)).alloc (.cells #[.bool false] 4) = W3 at *
  obtain ⟨rb, hrb⟩ : ∃ rb, w2.heap.size = rb := ⟨_, rfl⟩
  obtain ⟨bb, hbb⟩ : ∃ bb, w2.heap.size + 1 = bb := ⟨_, rfl⟩
  have HLB : Hid (wA.heap.size ≤ cb ∧ wA.heap.size ≤ bb ∧ wA.heap.size ≤ rb) := ⟨hcw, by omega, by omega⟩
  rw [hbb, hrb] at HNX
  rw [hbb, hrb]
  clear hrb hbb hs3 hcw hszw hl2 hcb H2 HB2
  refine (nxt_any W3 rb cb bb c false HNX.out (by omega)).mono ?_
  rintro e w4 ⟨rfl, hn4, hg4⟩
  have HB4 : Hid (Below wA.heap.size wA w4) := HB3.out.trans (hg4.below HB3.out.size (by rintro i (rfl | rfl) <;> (have := HLB.out; omega)))
  have HN4 := Lib.hid hn4
  have HR1 := Lib.hid (cnt_rng c)
  have HSH1 := Lib.hid (readCnt_short c)
  have HC1 : Hid (cntR c = if (readCnt c).2.1 = 0 then some ((readCnt c).1, (readCnt c).2.2) else none) := rfl
  generalize (readCnt c).1 = z1 at *
  generalize (readCnt c).2.1 = e1 at *
  generalize (readCnt c).2.2 = t1 at *
  clear hn4 hg4 HNX HB3
  go_wp2_with fail
  have hl4 := HB4.out.size
  have HN5 : Hid (NxAt (w4.alloc (.cells #[.int .i64 z1, .slice none 0 0] 24)) rb cb bb t1 (false || decide (e1 ≠ 0))) := HN4.out.below (bnew (brefl w4) _)
  refine (nxt_any _ rb cb bb t1 _ HN5.out (by have := HSH1.out; omega)).mono ?_
  rintro e w5 ⟨rfl, hn5, hg5⟩
  have HB5 : Hid (Below wA.heap.size wA w5) := (bnew HB4.out _).trans (hg5.below (by simp; omega) (by rintro i (rfl | rfl) <;> (have := HLB.out; omega)))
  have hc4 := (Array.getElem?_eq_some_iff.1 HN4.out.c).1
  have hb4 := (Array.getElem?_eq_some_iff.1 HN4.out.b).1
  have KP5 : Hid (w5.heap[w4.heap.size]? = some (.cells #[.int .i64 z1, .slice none 0 0] 24 (0, 0))) := hg5.at_ (heap_alloc_new _ _) (by rintro (h | h) <;> omega)
  have HRD : Hid (RdR wA w5 rb cb bb w4.heap.size z1 none 0 0 [] (readCnt t1).2.2 ((false || decide (e1 ≠ 0)) || decide ((readCnt t1).2.1 ≠ 0))) := ⟨hn5, KP5.out, ⟨rfl, .inl ⟨rfl, rfl⟩⟩, rfl, HB5.out, by have := HLB.out; omega, by have := HLB.out; omega, by omega⟩
  have HR2 := cnt_rng t1
  obtain ⟨N, hN⟩ := Int.eq_ofNat_of_zero_le HR2.1
  have hN63 : N ≤ 9223372036854775807 := by have := HR2.2; omega
  have HSH2 := Lib.hid (readCnt_short t1)
  have HC2 : Hid (cntR t1 = if (readCnt t1).2.1 = 0 then some ((readCnt t1).1, (readCnt t1).2.2) else none) := rfl
  rw [hN] at HC2
  rw [hN]
  generalize (readCnt t1).2.1 = e2 at *
  generalize (readCnt t1).2.2 = t2 at *
  have HPO : Hid (∃ O, RdL O N [] t2 ((false || decide (e1 ≠ 0)) || decide (e2 ≠ 0)) ∧ P = O.bind fun r => if r.2 = [] ∧ PtOk z1 r.1 then some (z1, r.1) else none) := by
   rw [← HPP.out, HC1.out]
   by_cases he1 : e1 = 0
   ·rw [if_pos he1, Option.bind_some]
    show ∃ O, _ ∧ (cntR t1).bind _ = _
    rw [HC2.out]
    by_cases he2 : e2 = 0
    ·rw [if_pos he2, Option.bind_some]
     refine ⟨segsR N t2, ?_, rfl⟩
     unfold RdL
     rw [if_neg (by simp [he1, he2])]
     simp
    ·rw [if_neg he2]
     refine ⟨none, ?_, rfl⟩
     unfold RdL
     rw [if_pos (by simp [he2])]
   ·rw [if_neg he1]
    refine ⟨none, ?_, rfl⟩
    unfold RdL
    rw [if_pos (by simp [he1])]
  obtain ⟨O, hO1, hO2⟩ := HPO.out
  have HL0 := Lib.hid hO1
  have HPO2 := Lib.hid hO2
  generalize ((false || decide (e1 ≠ 0)) || decide (e2 ≠ 0)) = bad0 at *
  have hpb := (Array.getElem?_eq_some_iff.1 KP5.out).1
  generalize hpbe : w4.heap.size = pb at *
  have ht2 : t2.length ≤ 1099511627000 := by have := HSH1.out; have := HSH2.out; omega
  clear hn5 hg5 HN4 HN5 HB4 hc4 hb4 HR2 hN HPP HC1 HC2 HPO hO1 hO2 HR1
  go_wp2_with fail
  refine read_o wA w5 t2 ht2 rb cb bb pb z1 O N hN63 bad0 HRD HL0 _ _ _ _ _ _ _ _ _ _ _ _ _ _ _ _ _ _ _ _ _ _ _ _ _ _ _ _ _ _ _ _ _ _ _ _ _ _ _ _ _ _ _ _ _ _ _ _ _ _ _ _ _ _ _ _ _ _ _ (fun c a a' w hd h => by cases a; cases a'; cases hd; exact h) ?_
  intro k m cp A L t bad W u27 u28 u29 u30 u31 u32 u33 u34 u35 u36 u37 u38 u39 u40 u41 u42 u43 u44 u45 u46 u47 u48 HX HL HK
  clear HRD HL0 HB5
  have hbel := HX.out.bel
  have KZ : Hid (W.heap[w.heap.size]? = some (.cells #[.int .i64 0, .slice none 0 0] 24 (0, 0))) := (hbel.block _ (by have := HA.out.2.2; omega)).trans HA.out.2.1
  obtain ⟨x0, x1, g0, g1⟩ := cells2 KZ.out
  have b0 := cell_of_row W bb 0 _ _ (0, 0) HX.out.nx.b
  have r0 := cell_of_row W rb 0 _ _ (0, 0) HX.out.nx.r
  simp at b0 r0
  have HBW : Hid (Below w.heap.size w W) := bcall HA.out.1 hbel
  obtain ⟨p0, p1, _, _⟩ := cells2 HX.out.p
  cases bad
  ·have hk0 : k = 0 := HK.out.1.resolve_right (by decide)
   have hO : O = some (L, t) := by
    have h := HL.out
    unfold RdL at h
    rw [if_neg (by decide), hk0] at h
    simpa [segsR] using h
   have HOO := Lib.hid hO
   clear hk0 hO
   go_wp2_with fail
   refine (rest_any W cb t HX.out.nx.c).mono ?_
   rintro e w9 ⟨rfl, e9⟩
   rw [e9]
   clear e9 w9
   by_cases ht : t = []
   ·subst ht
    have HCK := Lib.hid (check_any W W.heap.size (Nat.le_refl _) A m cp L (Lib.hid ⟨Sl.of_own HX.out.own, HX.out.len⟩) (by have := HK.out.2.1; omega) z1)
    by_cases hok : PtOk z1 L
    ·have hck : checkP z1 L = 0 := if_pos hok
     rw [hck] at HCK
     have HPN : Hid (P = some (z1, L)) := by show _ = _; rw [HPO2.out, HOO.out, Option.bind_some, if_pos ⟨rfl, hok⟩]
     clear hck hok
     go_wp2_with fail
     refine HCK.out.mono ?_
     rintro e w6 ⟨rfl, hb6⟩
     have HX6 := Lib.hid (HX.out.below hb6)
     have KZ6 : Hid (w6.heap[w.heap.size]? = some (.cells #[.int .i64 0, .slice none 0 0] 24 (0, 0))) := (hb6.block _ (Array.getElem?_eq_some_iff.1 KZ.out).1).trans KZ.out
     have HBW6 : Hid (Below w.heap.size w w6) := bcall HBW.out hb6
     obtain ⟨y0, y1, j0, j1⟩ := cells2 KZ6.out
     obtain ⟨v0, v1, _, _⟩ := cells2 HX6.out.p
     clear hb6 x0 x1 g0 g1 p0 p1 b0 r0
     go_wp2_with fail
     refine bodyPost_ret (results_cell2 rfl _ _ _ _ rfl (load_point (two_set KZ6.out _ _) rfl)) rfl ?_
     rw [HPN.out]
     refine ⟨(HBW6.out.setCell (Nat.le_refl _) _).setCell (Nat.le_refl _) _, A, m, cp, rfl, ?_, HK.out.2.1, ?_, ?_⟩
     ·refine ⟨Sl.of_own (own_set (own_set HX6.out.own (by have := HA.out.2.2; omega)) (by have := HA.out.2.2; omega)), HX6.out.len⟩
     ·rcases HX6.out.own.2 with ⟨hv, _⟩ | ⟨g, cap, cur, hv, _, _, hc, _⟩
      ·injection hv with _ e1 e2
       omega
      ·injection hv with _ _ e2
       omega
     ·intro a ha
      rcases HX6.out.own.2 with ⟨hv, _⟩ | ⟨g, cap, cur, hv, hg, _⟩
      ·injection hv with e1
       rw [ha] at e1
       cases e1
      ·injection hv with e1
       rw [ha] at e1
       injection e1 with e1
       rw [e1]
       show w.heap.size ≤ g
       have := HA.out.2.2
       omega
    ·have hck : checkP z1 L = 1 := if_neg hok
     rw [hck] at HCK
     have HPN : Hid (P = none) := by show _ = _; rw [HPO2.out, HOO.out, Option.bind_some, if_neg (fun h => hok h.2)]
     clear hck hok
     go_wp2_with fail
     refine HCK.out.mono ?_
     rintro e w6 ⟨rfl, hb6⟩
     have KZ6 : Hid (w6.heap[w.heap.size]? = some (.cells #[.int .i64 0, .slice none 0 0] 24 (0, 0))) := (hb6.block _ (Array.getElem?_eq_some_iff.1 KZ.out).1).trans KZ.out
     have HBW6 : Hid (Below w.heap.size w w6) := bcall HBW.out hb6
     obtain ⟨y0, y1, j0, j1⟩ := cells2 KZ6.out
     clear hb6 x0 x1 g0 g1 p0 p1 b0 r0
     go_wp2_with fail
     refine bodyPost_ret (results_cell2 rfl _ _ _ _ rfl (load_point (two_set KZ6.out _ _) rfl)) rfl ?_
     rw [HPN.out]
     exact ⟨(HBW6.out.setCell (Nat.le_refl _) _).setCell (Nat.le_refl _) _, rfl⟩
   ·have hne : (⟨t.toArray⟩ : ByteArray).toList.isEmpty = false := by
     rw [ByteArray.toList_eq]
     cases t with
     | nil => exact absurd rfl ht
     | cons a r => rfl
    have HPN : Hid (P = none) := by show _ = _; rw [HPO2.out, HOO.out, Option.bind_some, if_neg (fun h => ht h.1)]
    generalize (⟨t.toArray⟩ : ByteArray) = S1 at *
    go_wp2_with fail
    refine bodyPost_ret (results_cell2 rfl _ _ _ _ rfl (load_point (two_set KZ.out _ _) rfl)) rfl ?_
    rw [HPN.out]
    exact ⟨(HBW.out.setCell (Nat.le_refl _) _).setCell (Nat.le_refl _) _, rfl⟩
  ·have hO : O = none := by
    have h := HL.out
    unfold RdL at h
    rwa [if_pos rfl] at h
   have HPN : Hid (P = none) := by show _ = _; rw [HPO2.out, hO]; rfl
   clear hO
   go_wp2_with fail
   refine bodyPost_ret (results_cell2 rfl _ _ _ _ rfl (load_point (two_set KZ.out _ _) rfl)) rfl ?_
   rw [HPN.out]
   exact ⟨(HBW.out.setCell (Nat.le_refl _) _).setCell (Nat.le_refl _) _, rfl⟩
 ·rw [if_neg hx] at hP
  subst hP
  have q1 : (x != 0) = true := by simpa using hx
  go_enter Tryz.func17, Tryz.ntmps17
  go_wp2_with fail
  refine (HO.out _).mono ?_
  rintro e w1 ⟨rfl, hb1⟩
  have HB1 := Lib.hid (bel_alloc (brefl w) hb1)
  have k0 : w1.heap[w.heap.size]? = some (.cells #[.int .i64 0, .slice none 0 0] 24 (0, 0)) := (hb1.block _ (by simp)).trans (heap_alloc_new _ _)
  obtain ⟨z0, z1, f0, f1⟩ := cells2 k0
  have K0 := Lib.hid k0
  clear hb1 k0
  go_wp2_with fail
  refine bodyPost_ret (results_cell2 rfl _ _ _ _ rfl (load_point (two_set K0.out _ _) rfl)) rfl ?_
  exact ⟨(HB1.out.setCell (Nat.le_refl _) _).setCell (Nat.le_refl _) _, rfl⟩
end Go.Proofs.YtkhemhiifhggmaaGreatDoor
