/- The reference's numbers (glossref12.numbers). -/
import Derived.Test.YtheickndnniomaaDoorRdnum
import Derived.Test.YtheickndnniomaaDoorOpenw
namespace Go.Proofs.YtheickndnniomaaDoor
open Go.RowKit Go.Maps

theorem cut_from (t : List UInt8) (k : Nat) : (⟨t.toArray⟩ : ByteArray).extract k t.length = ⟨(t.drop k).toArray⟩ := by
  apply ByteArray.ext
  apply Array.ext'
  simp [ByteArray.data_extract, List.take_of_length_le]
/-- What numbers answers. -/
def NumsPost (w : World) (n : Nat) (R : Int × List Int × List UInt8) : Ending → World → Prop := fun e w' => Below w.heap.size w w' ∧
  ((R.1 = 0 ∧ ∃ v, e = .returned (.tuple #[v, .string ⟨R.2.2.toArray⟩, .int .i64 0]) ∧ w'.ownsRow w.heap.size 3 1 v n (R.2.1.map (.int .i64))) ∨
   (R.1 ≠ 0 ∧ e = .returned (.tuple #[.slice none 0 0, .string ⟨#[]⟩, .int .i64 R.1])))
set_option maxRecDepth 100000 in
set_option maxHeartbeats 8000000 in
theorem rnums_any (w : World) (t : List UInt8) (n : Nat) (hn : n ≤ 1000) (ht : t.length ≤ 1125899906842624) :
    Calls Tryd.prog 38 #[.string ⟨t.toArray⟩, .int .i64 (n : Nat)] w (NumsPost w n (rdN n [] t)) := by
  obtain ⟨R, hR⟩ : ∃ R, rdN n [] t = R := ⟨_, rfl⟩
  rw [hR]
  have HR0 : Hid (rdN (n - 0) [] t = R ∧ t.length ≤ t.length) := ⟨hR, Nat.le_refl _⟩
  have HT := Lib.hid ht
  clear hR ht
  go_enter Tryd.func38, Tryd.ntmps38
  go_wp2_with fail
  go_loopw [0, 7, 8] (fun sv ov iv wr => ∃ (j : Nat) (u : List UInt8) (acc : List Int) (A : Option Addr) (c : Nat), j ≤ n ∧ iv = .int .i64 j ∧ sv = .string ⟨u.toArray⟩ ∧ ov = .slice A j c ∧ Hid (wr.ownsRow w.heap.size 3 1 (.slice A j c) j (acc.map (.int .i64))) ∧ Hid (rdN (n - j) acc u = R ∧ u.length ≤ t.length) ∧ Hid (Below w.heap.size w wr)) (fun _ _ iv _ => n - (intOf iv).toNat)
  case atStart => exact ⟨0, t, [], none, 0, Nat.zero_le _, rfl, rfl, rfl, ⟨rfl, .inl ⟨rfl, rfl⟩⟩, HR0, brefl w⟩
  case round =>
    obtain ⟨j, u, acc, A, c, hj, rfl, rfl, rfl, HO, HR, HB⟩ := hrel
    by_cases hlt : j < n
    · have hul : u.length ≤ 1125899906842624 := Nat.le_trans HR.out.2 HT.out
      have HC := Lib.hid (refcnt_any wr u hul)
      obtain ⟨m, hm⟩ : ∃ m, n - j = m + 1 := ⟨n - j - 1, by omega⟩
      have hR1 := HR.out.1
      rw [hm] at hR1
      by_cases h0 : (readCnt u).2.1 = 0
      · rw [rdN_ok _ _ h0] at hR1
        have hlen := readCnt_len u
        have HN : Hid (rdN (n - (j + 1)) (acc ++ [(readCnt u).1]) (readCnt u).2.2 = R ∧ (readCnt u).2.2.length ≤ t.length) := ⟨by rw [show n - (j + 1) = m by omega]; exact hR1, Nat.le_trans hlen HR.out.2⟩
        rw [h0] at HC
        generalize (readCnt u).1 = v at *
        generalize (readCnt u).2.2 = u2 at *
        clear h0 hR1 hm hlen
        have hbw := HB.out.size
        go_wp2_with fail
        refine HC.out.mono ?_
        rintro e w1 ⟨⟨k, rfl, hk⟩, hb1⟩
        obtain ⟨k0, k1, k2⟩ := hk (by first | exact rfl | trivial)
        obtain ⟨kn, rfl⟩ := Int.eq_ofNat_of_zero_le k0
        rw [Int.toNat_natCast] at k2
        have hcut := cut_from u kn
        rw [← k2] at hcut
        have HB1 := Lib.hid (bcall HB.out hb1)
        have HO1 := Lib.hid (own_kept HO.out hb1)
        have hb1s := HB1.out.size
        clear hk k2 hb1
        go_wp2_with (at_builtin; refine wpList_push w w1 _ rfl _ _ _ rfl el_int _ _ _ rfl HO1.out rfl (by simp) rfl (by simp [Value.oneCell']) (by unfold maxLen; omega) (by omega) hb1s HB1.out ?_; intro v2 w2 hown2 hb2 _ _; obtain ⟨A2, c2, rfl, _⟩ := own_shape hown2; have HO2 := Lib.hid hown2; have HB2 := Lib.hid hb2; clear hown2 hb2)
        go_roundw
        case rel => exact ⟨j + 1, u2, acc ++ [v], A2, c2, by omega, by go_num, rfl, rfl, by rw [List.map_append]; exact HO2, HN, HB2⟩
        case measure => simp [intOf]; omega
      · rw [rdN_err _ _ h0] at hR1
        have HE : Hid (R.1 = (readCnt u).2.1 ∧ R.1 ≠ 0) := ⟨by rw [← hR1], by rw [← hR1]; exact h0⟩
        have q1 : ((readCnt u).2.1 != 0) = true := by simpa using h0
        generalize (readCnt u).1 = v at *
        generalize (readCnt u).2.1 = err at *
        clear h0 hR1 hm
        go_wp2_with fail
        refine HC.out.mono ?_
        rintro e w1 ⟨⟨k, rfl, _⟩, hb1⟩
        go_wp2_with fail
        go_ret3
        exact ⟨bcall HB.out hb1, .inr ⟨HE.out.2, by rw [HE.out.1]; rfl⟩⟩
    · obtain rfl : j = n := by omega
      have hR1 := HR.out.1
      rw [Nat.sub_self] at hR1
      have HE : Hid (R = (0, acc, u)) := hR1.symm
      clear hR1
      go_wp2_with fail
      go_ret3
      exact ⟨HB.out, .inl ⟨by rw [HE.out], _, by rw [HE.out]; rfl, by rw [HE.out]; exact HO.out⟩⟩
/-- The error of ways. -/
def wayErr (n : Nat) : Nat → List UInt8 → Int
  | 0, _ => 0
  | k + 1, t => if (rdN 3 [] t).1 ≠ 0 then (rdN 3 [] t).1 else if 255 < (rdN 3 [] t).2.1.getD 0 0 ∨ (n : Int) ≤ (rdN 3 [] t).2.1.getD 2 0 then 3 else wayErr n k (rdN 3 [] t).2.2
theorem rdW_wayErr (n : Nat) (sz dp : List Int) : ∀ (k : Nat) (ws : Ways) (s d : Int) (t : List UInt8), (rdW n sz dp k ws s d t).1 = wayErr n k t
  | 0, _, _, _, _ => rfl
  | k + 1, ws, s, d, t => by
    rw [rdW, wayErr]
    split
    · rfl
    split
    · rfl
    exact rdW_wayErr n sz dp k _ _ _ _
theorem wayErr_err {n k : Nat} {t : List UInt8} {e : Int} {acc : List Int} {u : List UInt8} (h : rdN 3 [] t = (e, acc, u)) (he : e ≠ 0) : wayErr n (k + 1) t = e := by
  rw [wayErr, h]
  exact if_pos he
theorem wayErr_bad {n k : Nat} {t : List UInt8} {a b c : Int} {u : List UInt8} (h : rdN 3 [] t = (0, [a, b, c], u)) (hb : 255 < a ∨ (n : Int) ≤ c) : wayErr n (k + 1) t = 3 := by
  rw [wayErr, h]
  exact if_pos hb
theorem wayErr_go {n k : Nat} {t : List UInt8} {a b c : Int} {u : List UInt8} (h : rdN 3 [] t = (0, [a, b, c], u)) (hb : ¬ (255 < a ∨ (n : Int) ≤ c)) : wayErr n (k + 1) t = wayErr n k u := by
  rw [wayErr, h]
  exact if_neg hb
theorem rdN_three {t : List UInt8} {acc : List Int} {u : List UInt8} (h : rdN 3 [] t = (0, acc, u)) : ∃ a b c, acc = [a, b, c] ∧ pos63 a ∧ pos63 b ∧ pos63 c ∧ u.length + 3 ≤ t.length := by
  obtain ⟨more, h1, h2, h3, h4⟩ := rdN_in 3 [] t (by rw [h])
  rw [h] at h1 h4
  rw [List.nil_append] at h1
  simp only at h1 h4
  subst h1
  match acc, h2 with
  | [a, b, c], _ => exact ⟨a, b, c, rfl, h3 a (by simp), h3 b (by simp), h3 c (by simp), h4⟩
set_option maxRecDepth 100000 in
set_option maxHeartbeats 8000000 in
theorem wide_any (w : World) (t : List UInt8) (K n : Nat) (hK : K ≤ 256) (ht : t.length ≤ 1125899906842624) :
    Calls Tryd.prog 39 #[.string ⟨t.toArray⟩, .int .i64 (K : Nat), .int .i64 (n : Nat)] w fun e w' => e = .returned (.int .i64 (if wayErr n K t = 0 then 3 else wayErr n K t)) ∧ Below w.heap.size w w' := by
  obtain ⟨E, hE⟩ : ∃ E, wayErr n K t = E := ⟨_, rfl⟩
  rw [hE]
  obtain ⟨Z, hZ⟩ : ∃ Z, (if E = 0 then (3 : Int) else E) = Z := ⟨_, rfl⟩
  rw [hZ]
  have HZ : Hid (Z = if E = 0 then (3 : Int) else E) := hZ.symm
  have HR0 : Hid (wayErr n (K - 0) t = E ∧ t.length ≤ t.length) := ⟨hE, Nat.le_refl _⟩
  have HT := Lib.hid ht
  clear hE ht hZ
  go_enter Tryd.func39, Tryd.ntmps39
  go_wp2_with fail
  go_loopw [0, 7] (fun sv iv wr => ∃ (j : Nat) (u : List UInt8), j ≤ K ∧ iv = .int .i64 j ∧ sv = .string ⟨u.toArray⟩ ∧ Hid (wayErr n (K - j) u = E ∧ u.length ≤ t.length) ∧ Hid (Below w.heap.size w wr)) (fun _ iv _ => K - (intOf iv).toNat)
  case atStart => exact ⟨0, t, Nat.zero_le _, rfl, rfl, HR0, brefl w⟩
  case round =>
    obtain ⟨j, u, hj, rfl, rfl, HR, HB⟩ := hrel
    by_cases hlt : j < K
    · have hul : u.length ≤ 1125899906842624 := Nat.le_trans HR.out.2 HT.out
      have HC := Lib.hid (rnums_any wr u 3 (by omega) hul)
      obtain ⟨m, hm⟩ : ∃ m, K - j = m + 1 := ⟨K - j - 1, by omega⟩
      have hR1 := HR.out.1
      rw [hm] at hR1
      obtain ⟨⟨e, acc, u2⟩, hr⟩ : ∃ r, rdN 3 [] u = r := ⟨_, rfl⟩
      rw [hr] at HC
      by_cases he : e = 0
      · subst he
        obtain ⟨a, b, c, rfl, ha, hb, hc, hul2⟩ := rdN_three hr
        obtain ⟨ha0, ha1⟩ := ha
        obtain ⟨hc0, hc1⟩ := hc
        have HU : Hid (u2.length ≤ t.length) := Nat.le_trans (by omega) HR.out.2
        have HW : Hid (((255 < a ∨ (n : Int) ≤ c) → E = 3) ∧ (¬ (255 < a ∨ (n : Int) ≤ c) → wayErr n (K - (j + 1)) u2 = E)) :=
          ⟨fun h => by rw [← hR1, wayErr_bad hr h], fun h => by rw [← hR1, wayErr_go hr h, show K - (j + 1) = m by omega]⟩
        clear hr hR1 hm hb hul2
        go_wp2_with fail
        refine HC.out.mono ?_
        rintro e w1 ⟨hb1, ⟨_, v, rfl, hv⟩ | ⟨h, _⟩⟩
        rotate_left
        · exact absurd rfl h
        have HV := Lib.hid hv
        obtain ⟨A1, c1, rfl, _⟩ := own_shape hv
        obtain ⟨g, rfl, _, _⟩ := own_head hv (by omega)
        have k0 := hv.cells (g := g) rfl 0 (.int .i64 a) rfl
        have k2 := hv.cells (g := g) rfl 2 (.int .i64 c) rfl
        rw [Addr.add_lit, Nat.zero_add] at k0 k2
        have HB1 := Lib.hid (bcall HB.out hb1)
        clear hv hb1
        by_cases hbad : 255 < a ∨ (n : Int) ≤ c
        · have HE : Hid (E = 3) := HW.out.1 hbad
          rcases hbad with hbad | hbad
          · have q1 : decide (a > 255) = true := decide_eq_true (by omega)
            go_wp2_with fail
            go_ret
            exact ⟨by rw [HZ.out, HE.out]; rfl, HB1.out⟩
          · by_cases h255 : 255 < a
            · have q1 : decide (a > 255) = true := decide_eq_true (by omega)
              go_wp2_with fail
              go_ret
              exact ⟨by rw [HZ.out, HE.out]; rfl, HB1.out⟩
            · have q1 : decide (a > 255) = false := decide_eq_false (by omega)
              have q2 : decide (c ≥ (n : Int)) = true := decide_eq_true (by omega)
              go_wp2_with fail
              go_ret
              exact ⟨by rw [HZ.out, HE.out]; rfl, HB1.out⟩
        · have HN : Hid (wayErr n (K - (j + 1)) u2 = E ∧ u2.length ≤ t.length) := ⟨HW.out.2 hbad, HU.out⟩
          have q1 : decide (a > 255) = false := decide_eq_false (by omega)
          have q2 : decide (c ≥ (n : Int)) = false := decide_eq_false (by omega)
          clear hbad
          go_wp2_with fail
          go_roundw
          case rel => exact ⟨j + 1, u2, by omega, by go_num, rfl, HN, HB1⟩
          case measure => simp [intOf]; omega
      · have HE : Hid (E = e ∧ e ≠ 0) := ⟨by rw [← hR1, wayErr_err hr he], he⟩
        have q1 : (e != 0) = true := by simpa using he
        clear hr hR1 hm he
        go_wp2_with fail
        refine HC.out.mono ?_
        rintro e' w1 ⟨hb1, ⟨h, _⟩ | ⟨_, rfl⟩⟩
        · exact absurd h HE.out.2
        have HB1 := Lib.hid (bcall HB.out hb1)
        clear hb1
        simp only
        go_wp2_with fail
        go_ret
        exact ⟨by rw [HZ.out, HE.out.1, if_neg HE.out.2]; rfl, HB1.out⟩
    · obtain rfl : j = K := by omega
      have hR1 := HR.out.1
      rw [Nat.sub_self] at hR1
      have HE : Hid (E = 0) := hR1.symm
      clear hR1
      go_wp2_with fail
      go_ret
      exact ⟨by rw [HZ.out, HE.out]; rfl, HB.out⟩
end Go.Proofs.YtheickndnniomaaDoor
