/- The reference's Build. -/
import Derived.Test.YtheickndnniomaaDoorRhead
namespace Go.Proofs.YtheickndnniomaaDoor
open Go.RowKit Go.Maps

/-- What Build asks of node. -/
def RNodeAt : Prop := ∀ (p base : Nat) (W : World) (l : List Ent) (A : Option Addr) (n c : Nat) (told : Int), Hid (MkB W p base none 0 0 none 0 0 [] (([] : List Nd).map writeZ) ∧ ([] : List Lh).map (·.l) = lefts []) → W.ownsRow base 26 2 (.slice A n c) n (entsC (subE 0 told l)) → Okl 0 told l → l.length ≤ 65536 → leastO l = told → ([] : List Nd).length + 1 + cost 0 l ≤ CAP →
      Calls Tryd.prog 31 #[.pointer (some ⟨p, 0, none⟩), .slice A n c] W (RPost W p base (nodeF 65 [] l 0 told))
theorem mk_new (w : World) {p : Nat} (hp : w.heap.size = p) : MkB (w.alloc (.cells #[.slice none 0 0, .slice none 0 0] 70)) p (p + 1) none 0 0 none 0 0 [] [] := by
  subst hp
  exact ⟨heap_alloc_new _ _, rfl, rfl, ⟨rfl, .inl ⟨rfl, rfl⟩⟩, by simp, ⟨rfl, .inl ⟨rfl, rfl⟩⟩, Nat.lt_succ_self _⟩
theorem flatten_take {T : List (List Int)} {j : Nat} {z : List Int} (h : T[j]? = some z) : (T.take (j + 1)).flatten = (T.take j).flatten ++ z := by
  rw [List.take_add_one, h]
  simp
theorem flatten_le (T : List (List Int)) (j : Nat) : (T.take j).flatten.length ≤ T.flatten.length := by
  conv => rhs; rw [← List.take_append_drop j T]
  rw [List.flatten_append, List.length_append]
  omega
set_option maxRecDepth 100000 in
set_option maxHeartbeats 8000000 in
theorem rbuild_bad (w : World) (B : Nat) (hB : B ≤ w.heap.size) (A : Option Addr) (n c : Nat) (l : List Ent) (h : Ents w B A n c l) (hr : rightE l ≠ 0) :
    Calls Tryd.prog 11 #[.slice A n c] w fun e w' => e = .returned (.tuple #[.string (buildS l), .int .i64 (rightE l)]) ∧ Below w.heap.size w w' := by
  have HR := Lib.hid (rright_any w B hB A n c l h)
  have hS : buildS l = strOfNums [] := if_neg hr
  rw [hS]
  have hz : strOfNums [] = ⟨#[]⟩ := rfl
  rw [hz]
  generalize rightE l = r at *
  have q1 : (r != 0) = true := by simpa using hr
  clear h hS hz
  go_enter Tryd.func11, Tryd.ntmps11
  go_wp2_with fail
  refine HR.out.mono ?_
  rintro e w1 ⟨rfl, hb1⟩
  go_wp2_with fail
  go_ret2
  exact ⟨rfl, hb1⟩
set_option maxRecDepth 100000 in
set_option maxHeartbeats 8000000 in
theorem rbuild_good (HNODE : RNodeAt) (w : World) (B : Nat) (hB : B ≤ w.heap.size) (A : Option Addr) (n c : Nat) (l : List Ent) (h : Ents w B A n c l) (hr : rightE l = 0) (hwf : ∀ e ∈ l, fits64 e.2) (hne : l ≠ []) :
    Calls Tryd.prog 11 #[.slice A n c] w fun e w' => e = .returned (.tuple #[.string (buildS l), .int .i64 (rightE l)]) ∧ Below w.heap.size w w' := by
  have HR := Lib.hid (rright_any w B hB A n c l h)
  obtain ⟨hok, hl⟩ := okl_of hr hne hwf
  have hcl := cost_le l hok.len
  have hlen := h.len
  have hn : 0 < n := by
    have := List.length_pos_iff.2 hne
    omega
  have hBU := built_of hr hwf
  have hzl := buildZ_len hBU
  have hds : buildDs l = (nodeF 65 [] l 0 (leastO l)).2 := if_neg hne
  have hbo : baseOf l = leastO l := if_neg hne
  have hS : buildS l = strOfNums (buildZ l) := if_pos hr
  have hbas := hBU.bas
  have hdl := hBU.len
  rw [hbo] at hzl hbas
  have hpos : ∀ e ∈ l, pos63 e.2 := fun e he => by
    have h1 := hok.out e he
    have h2 := hok.t0
    exact ⟨by omega, h1.2⟩
  have HRE := Lib.hid (fun (w1 : World) (hb1 : Below w.heap.size w w1) => rests_any w1 B (Nat.le_trans hB hb1.size) A n c l (h.keep (hb1.mono hB) (Nat.le_refl _)) (by omega) hpos (-1))
  have e1 : selE l (-1) = l := if_pos (by omega)
  have e2 : rstL l (-1) = subE 0 (leastO l) l := by
    unfold rstL
    rw [e1]
    unfold lessE subE
    apply List.map_congr_left
    intro e _
    rw [List.drop_zero]
  rw [e1, e2] at HRE
  have HN := Lib.hid (fun (p base : Nat) (W : World) (A : Option Addr) (n c : Nat) hm hrow => HNODE p base W l A n c (leastO l) hm hrow hok hl rfl (by unfold CAP; simp; omega))
  have HS : Hid (buildS l = strOfNums (numI ((buildDs l).length : Int) ++ numI (leastO l) ++ ((buildDs l).map writeZ).flatten)) := by
    show _ = _
    rw [hS]
    unfold buildZ
    rw [hbo, List.flatMap_def]
    simp [numsI]
  have hsz : (numI ((buildDs l).length : Int)).length + ((numI (leastO l)).length + ((buildDs l).map writeZ).flatten.length) ≤ 1099511627776 := by
    rw [List.flatMap_def] at hzl
    simp only [numsI, List.flatMap_cons, List.flatMap_nil, List.append_nil, List.length_append] at hzl
    omega
  rw [hds] at HS hsz hdl
  rw [hr] at HR ⊢
  clear h hok hcl hds hbo hS hr hwf hB hzl hBU hpos e1 e2 HNODE
  obtain ⟨m, hm⟩ : ∃ m, leastO l = m := ⟨_, rfl⟩
  rw [hm] at HN HS HRE hbas hsz hdl
  clear hm
  obtain ⟨⟨q, ds⟩, hq⟩ : ∃ q, nodeF 65 [] l 0 m = q := ⟨_, rfl⟩
  rw [hq] at HN HS hsz hdl
  clear hq
  simp only at HS hsz hdl
  have hdp : pos63 ((ds.length : Nat) : Int) := ⟨by omega, by omega⟩
  have HN1 := Lib.hid (fun w => refnum_any ((ds.length : Nat) : Int) (by omega) hdp.2 w)
  have HN2 := Lib.hid (fun w => refnum_any m (by have := hbas.1; omega) hbas.2 w)
  rw [numA_numI hdp] at HN1
  rw [numA_numI hbas] at HN2
  obtain ⟨S, hS⟩ : ∃ S, subE 0 m l = S := ⟨_, rfl⟩
  rw [hS] at HRE HN
  clear hS hbas hdp
  go_enter Tryd.func11, Tryd.ntmps11
  go_wp2_with fail
  refine HR.out.mono ?_
  rintro e w1 ⟨rfl, hb1⟩
  go_wp2_with fail
  have hM := mk_new w1 (p := w1.heap.size) rfl
  have hW : Below w.heap.size w (w1.alloc (.cells #[.slice none 0 0, .slice none 0 0] 70)) := bnew hb1 _
  refine (HRE.out _ hW).mono ?_
  rintro e w2 ⟨v, rfl, hrow, hb2⟩
  have HB2 := Lib.hid (bcall hW hb2)
  have HM2 : Hid (MkB w2 w1.heap.size (w1.heap.size + 1) none 0 0 none 0 0 [] (([] : List Nd).map writeZ) ∧ ([] : List Lh).map (·.l) = lefts []) := ⟨hM.below hb2, rfl⟩
  have hp0 : w.heap.size ≤ w1.heap.size := hb1.size
  rw [show (w1.alloc (.cells #[.slice none 0 0, .slice none 0 0] 70)).heap.size = w1.heap.size + 1 by simp] at hrow
  obtain ⟨A2, c2, rfl, _⟩ := own_shape hrow
  have HRW := Lib.hid hrow
  clear hM hW hb2 hrow hb1 HRE HR
  generalize w1.heap.size = p at *
  go_wp2_with fail
  refine (HN.out p (p + 1) w2 A2 _ c2 HM2 HRW.out).mono ?_
  rintro e w3 ⟨rfl, hk3, Al, At, n3, cl, k, ct, H, hm3⟩
  have HB3 : Hid (Below w.heap.size w w3) := HB2.out.trans (hk3.out.2.mono hp0)
  have hkl : k = ds.length := by
    have := hm3.out.1.tn
    rw [List.length_map] at this
    exact this.symm
  have HM3 := Lib.hid hm3.out.1
  have k1 := HM3.out.cells.2
  clear hk3 hm3 HN HM2 HB2 HRW
  obtain ⟨T, hT⟩ : ∃ T, ds.map writeZ = T := ⟨_, rfl⟩
  rw [hT] at HM3 HS hsz
  subst hkl
  generalize ds.length = k at *
  have hTk := HM3.out.tn
  generalize numI (k : Int) = z1 at *
  generalize numI m = z2 at *
  have hcat := fun w => strcat z1 z2 (by omega) w
  clear hT hn
  go_wp2_with fail
  refine (HN1.out _).mono ?_
  rintro e w4 ⟨rfl, hb4⟩
  go_wp2_with fail
  refine (HN2.out _).mono ?_
  rintro e w5 ⟨rfl, hb5⟩
  have HB5 := Lib.hid (bcall (bcall (brefl w3) hb4) hb5)
  clear hb4 hb5 HN1 HN2
  go_wp2_with fail
  clear hcat k1
  go_loopw [9, 10] (fun v i wr => ∃ j : Nat, j ≤ k ∧ i = .int .i64 j ∧ v = .string (strOfNums (z1 ++ z2 ++ (T.take j).flatten)) ∧ Hid (Below w3.heap.size w3 wr)) (fun _ i _ => k - (intOf i).toNat)
  case atStart => exact ⟨0, Nat.zero_le _, rfl, by simp, HB5⟩
  case round =>
    obtain ⟨j, hj, rfl, rfl, HB⟩ := hrel
    have HMR := Lib.hid (HM3.out.below HB.out)
    have c1 := HMR.out.cells.2
    by_cases hlt : j < k
    · obtain ⟨z, hz⟩ : ∃ z, T[j]? = some z := ⟨T[j]'(by omega), List.getElem?_eq_getElem _⟩
      obtain ⟨g, rfl, _, hgl⟩ := own_head HMR.out.txt (by omega)
      have hcell := HMR.out.txt.cells (g := g) rfl j (.string (strOfNums z)) (by rw [List.getElem?_map, hz]; rfl)
      rw [Addr.add_lit, Nat.zero_add] at hcell
      have hft := flatten_take hz
      have hle := flatten_le T (j + 1)
      rw [hft, List.length_append] at hle
      have hcat := fun w => strcat (z1 ++ (z2 ++ (T.take j).flatten)) z (by simp only [List.length_append]; omega) w
      obtain ⟨X, hX⟩ : ∃ X, z1 ++ (z2 ++ (T.take j).flatten) ++ z = X := ⟨_, rfl⟩
      have HX : Hid (X = z1 ++ z2 ++ (T.take (j + 1)).flatten) := by
        show _ = _
        rw [hft, ← hX]
        simp only [List.append_assoc]
      rw [hX] at hcat
      generalize (T.take j).flatten = u at *
      clear hz hft hle hX
      go_wp2_with fail
      go_roundw
      case rel => exact ⟨j + 1, by omega, by go_num, by rw [HX.out], HB⟩
      case measure => simp [intOf]; omega
    · obtain rfl : j = k := by omega
      have hall : T.take j = T := List.take_of_length_le (by omega)
      rw [hall]
      go_wp2_with fail
      go_ret2
      exact ⟨by rw [HS.out]; rfl, HB3.out.trans (HB.out.mono HB3.out.size)⟩
set_option maxRecDepth 100000 in
set_option maxHeartbeats 8000000 in
theorem rbuild_nil (w : World) (B : Nat) (hB : B ≤ w.heap.size) (A : Option Addr) (c : Nat) (h : Ents w B A 0 c []) :
    Calls Tryd.prog 11 #[.slice A 0 c] w fun e w' => e = .returned (.tuple #[.string (buildS []), .int .i64 (rightE [])]) ∧ Below w.heap.size w w' := by
  have HR := Lib.hid (rright_any w B hB A 0 c [] h)
  have hr : rightE [] = 0 := rfl
  have HS : Hid (buildS [] = strOfNums (numI 0 ++ numI 0)) := by
    show _ = _
    unfold buildS buildZ buildDs baseOf
    simp [numsI]
    intro hh
    exact absurd hr hh
  rw [hr] at HR ⊢
  have h0 : pos63 0 := ⟨by omega, by omega⟩
  have HN := Lib.hid (fun w => refnum_any 0 (by omega) h0.2 w)
  rw [numA_numI h0] at HN
  have hz0 := (numI_len h0).2
  have hcat := fun w => strcat (numI 0) (numI 0) (by omega) w
  clear h hr hz0 h0
  go_enter Tryd.func11, Tryd.ntmps11
  go_wp2_with fail
  refine HR.out.mono ?_
  rintro e w1 ⟨rfl, hb1⟩
  go_wp2_with fail
  have HB1 := Lib.hid hb1
  have HB2 : Hid (Below w.heap.size w (w1.alloc (.cells #[.slice none 0 0, .slice none 0 0] 70))) := bnew hb1 _
  have HM := Lib.hid (mk_new w1 (p := w1.heap.size) rfl)
  have k1 := HM.out.cells.2
  clear hb1
  try generalize hW2 : (w1.alloc (.cells #[.slice none 0 0, .slice none 0 0] 70)) = w2 at *
  refine (HN.out _).mono ?_
  rintro e w4 ⟨rfl, hb4⟩
  go_wp2_with fail
  refine (HN.out _).mono ?_
  rintro e w5 ⟨rfl, hb5⟩
  have HB5 := Lib.hid (bcall (bcall HB2.out hb4) hb5)
  have HM5 := Lib.hid (HM.out.below (bcall (bcall (brefl _) hb4) hb5))
  have k5 := HM5.out.cells.2
  clear hb4 hb5 k1
  go_wp2_with fail
  go_loopw [9, 10] (fun v i wr => i = .int .i64 0 ∧ v = .string (strOfNums (numI 0 ++ numI 0)) ∧ wr = w5) (fun _ _ _ => 0)
  case atStart => exact ⟨rfl, rfl, rfl⟩
  case round =>
    obtain ⟨rfl, rfl, rfl⟩ := hrel
    go_wp2_with fail
    go_ret2
    exact ⟨by rw [HS.out]; rfl, HB5.out⟩
/-- The reference's Build at every list. -/
theorem rbuild_any (HNODE : RNodeAt) (w : World) (B : Nat) (hB : B ≤ w.heap.size) (A : Option Addr) (n c : Nat) (l : List Ent) (h : Ents w B A n c l) (hwf : ∀ e ∈ l, fits64 e.2) :
    Calls Tryd.prog 11 #[.slice A n c] w fun e w' => e = .returned (.tuple #[.string (buildS l), .int .i64 (rightE l)]) ∧ Below w.heap.size w w' := by
  by_cases hr : rightE l = 0
  · cases l with
    | nil =>
      obtain rfl : n = 0 := h.len.symm
      exact rbuild_nil w B hB A c h
    | cons e r => exact rbuild_good HNODE w B hB A n c _ h hr hwf (by simp)
  · exact rbuild_bad w B hB A n c l h hr
end Go.Proofs.YtheickndnniomaaDoor
