/- dfa.Both and the reference's Both, in every case: what both say. -/
import Derived.Test.YtebdffabfimmkaaDoorHDfaBoth28
import Derived.Test.YtebdffabfimmkaaDoorHDfaBoth37
import Derived.Test.YtebdffabfimmkaaDoorHDfaBoth39
namespace Go.Proofs.YtebdffabfimmkaaDoor
open Go.RowKit Go.Maps

set_option maxRecDepth 100000 in
set_option maxHeartbeats 8000000 in
theorem both_bad (w : World) (B : Nat) (hB : B ≤ w.heap.size) (A : Option Addr) (n c : Nat) (H : List Sh) (h : StsIn w B A n c H) (A' : Option Addr) (n' c' : Nat) (H' : List Sh) (h' : StsIn w B A' n' c' H') (hg : checkE (H.map (·.d)) ≠ 0 ∨ checkE (H'.map (·.d)) ≠ 0) (most : Int) :
    Calls Tryd.prog 21 #[.slice A n c, .slice A' n' c', .int .i64 most] w fun e w' => e = .returned (.tuple #[.slice none 0 0, .int .i64 3]) ∧ Below w.heap.size w w' := by
  have HS := Lib.hid h
  have HS' := Lib.hid h'
  obtain ⟨ck, hck⟩ : ∃ k, checkE (H.map (·.d)) = k := ⟨_, rfl⟩
  obtain ⟨ck', hck'⟩ : ∃ k, checkE (H'.map (·.d)) = k := ⟨_, rfl⟩
  have HC := Lib.hid hck
  have HC' := Lib.hid hck'
  rw [hck, hck'] at hg
  have HOR := Lib.hid hg
  clear h h' hck hck' hg
  by_cases h0 : ck = 0
  · subst h0
    have hne : ck' ≠ 0 := HOR.out.elim (fun h => absurd rfl h) id
    have q : (ck' == 0) = false := by simpa using hne
    have q1 : (ck' != 0) = true := by simpa using hne
    clear hne HOR
    go_enter Tryd.func21, Tryd.ntmps21
    go_wp2_with fail
    refine (dcheck_any w B hB A n c H HS.out).mono ?_
    rintro e w1 ⟨rfl, hb1⟩
    rw [HC.out]
    have HB1 := Lib.hid hb1
    clear hb1
    go_wp2_with fail
    refine (dcheck_any w1 B (Nat.le_trans hB HB1.out.size) A' n' c' H' (HS'.out.keep (HB1.out.mono hB) (Nat.le_refl _))).mono ?_
    rintro e w2 ⟨rfl, hb2⟩
    rw [HC'.out]
    have HB2 := Lib.hid (bcall HB1.out hb2)
    clear hb2
    go_wp2_with fail
    go_ret2
    exact ⟨rfl, HB2.out⟩
  · have q : (ck == 0) = false := by simpa using h0
    have q1 : (ck != 0) = true := by simpa using h0
    clear h0 HOR
    go_enter Tryd.func21, Tryd.ntmps21
    go_wp2_with fail
    refine (dcheck_any w B hB A n c H HS.out).mono ?_
    rintro e w1 ⟨rfl, hb1⟩
    rw [HC.out]
    have HB1 := Lib.hid hb1
    clear hb1
    go_wp2_with fail
    go_ret2
    exact ⟨rfl, HB1.out⟩
/-- What Both of two lists is: the number of the refusal, and the states. -/
def BothIs (a e : List St) (most code : Int) (xs : List St) : Prop :=
  ((checkE a ≠ 0 ∨ checkE e ≠ 0) ∧ code = 3 ∧ xs = []) ∨
  (checkE a = 0 ∧ checkE e = 0 ∧ (∃ f, most < (((pairW a e).run f 0 [[0, 0]]).length : Nat)) ∧ code = 8 ∧ xs = []) ∨
  (checkE a = 0 ∧ checkE e = 0 ∧ (∀ f, (((pairW a e).run f 0 [[0, 0]]).length : Nat) ≤ most) ∧ code = 0 ∧ ∃ d, LeastIs (auOf d) 0 xs ∧ Leq (auOf d) 0 ⟨finP a e, stepP a e⟩ [0, 0])
theorem BothIs.one {a e : List St} {most c1 c2 : Int} {x1 x2 : List St} (h1 : BothIs a e most c1 x1) (h2 : BothIs a e most c2 x2) : c1 = c2 ∧ x1 = x2 := by
  rcases h1 with ⟨b1, r1, s1⟩ | ⟨g1, g1', m1, r1, s1⟩ | ⟨g1, g1', m1, r1, d1, l1, q1⟩ <;> rcases h2 with ⟨b2, r2, s2⟩ | ⟨g2, g2', m2, r2, s2⟩ | ⟨g2, g2', m2, r2, d2, l2, q2⟩
  · exact ⟨by rw [r1, r2], by rw [s1, s2]⟩
  · exact absurd b1 (by simp [g2, g2'])
  · exact absurd b1 (by simp [g2, g2'])
  · exact absurd b2 (by simp [g1, g1'])
  · exact ⟨by rw [r1, r2], by rw [s1, s2]⟩
  · obtain ⟨f, hf⟩ := m1
    have := m2 f
    omega
  · exact absurd b2 (by simp [g1, g1'])
  · obtain ⟨f, hf⟩ := m2
    have := m1 f
    omega
  · exact ⟨by rw [r1, r2], l1.eq l2 (q1.trans q2.symm)⟩
theorem sts_nil (w : World) : StsIn w w.heap.size none 0 0 [] := ⟨rfl, Sl.empty, Nat.le_refl _, Nat.zero_le _, fun _ hx => absurd hx List.not_mem_nil⟩
/-- The post of both: states in memory that say it. -/
def BothPost (w : World) (a e : List St) (most : Int) : Ending → World → Prop := fun r w' => ∃ A n c X code, r = .returned (.tuple #[.slice A n c, .int .i64 code]) ∧ StsIn w' w'.heap.size A n c X ∧ BothIs a e most code (X.map (·.d)) ∧ Below w.heap.size w w'
theorem both_post {w w' : World} {a e : List St} {most : Int} {r : Ending} (ha : checkE a = 0) (he : checkE e = 0)
    (h : ((∃ f, most < (((pairW a e).run f 0 [[0, 0]]).length : Nat)) ∧ r = .returned (.tuple #[.slice none 0 0, .int .i64 8]) ∧ Below w.heap.size w w') ∨
      ((∀ f, (((pairW a e).run f 0 [[0, 0]]).length : Nat) ≤ most) ∧ ∃ v hs d, r = .returned (.tuple #[v, .int .i64 0]) ∧ OwnSts w' w.heap.size v hs ∧ LeastIs (auOf d) 0 (hs.map (·.d)) ∧ Leq (auOf d) 0 ⟨finP a e, stepP a e⟩ [0, 0] ∧ hs.length ≤ d.length ∧ d.length ≤ 20000 ∧ Below w.heap.size w w')) : BothPost w a e most r w' := by
  rcases h with ⟨hf, hr, hb⟩ | ⟨hf, v, hs, d, hr, ho, hl, hq, hle, hd, hb⟩
  · exact ⟨none, 0, 0, [], 8, hr, sts_nil w', .inr (.inl ⟨ha, he, hf, rfl, rfl⟩), hb⟩
  · have hle2 : hs.length ≤ 20000 := by omega
    obtain ⟨A, c, rfl, hs2⟩ := ho.use hle2 (hl.good (by rw [List.length_map]; exact hle2))
    exact ⟨A, hs.length, c, hs, 0, hr, hs2, .inr (.inr ⟨ha, he, hf, rfl, d, hl, hq⟩), hb⟩
section
variable (w : World) (B : Nat) (hB : B ≤ w.heap.size) (A : Option Addr) (n c : Nat) (H : List Sh) (h : StsIn w B A n c H) (A' : Option Addr) (n' c' : Nat) (H' : List Sh) (h' : StsIn w B A' n' c' H') (hfew : n * n' ≤ 20000) (most : Int)
include hB h h' hfew
theorem bothE_any (ht : Tab w) : Calls Tryd.prog 21 #[.slice A n c, .slice A' n' c', .int .i64 most] w (BothPost w (H.map (·.d)) (H'.map (·.d)) most) := by
  by_cases h1 : checkE (H.map (·.d)) = 0
  · by_cases h2 : checkE (H'.map (·.d)) = 0
    · exact (both_any w B hB A n c H h A' n' c' H' h' ((good_iff _).1 h1) ((good_iff _).1 h2) hfew most ht).mono fun e w' hp => both_post h1 h2 hp
    · exact (both_bad w B hB A n c H h A' n' c' H' h' (.inr h2) most).mono fun e w' hp => ⟨none, 0, 0, [], 3, hp.1, sts_nil w', .inl ⟨.inr h2, rfl, rfl⟩, hp.2⟩
  · exact (both_bad w B hB A n c H h A' n' c' H' h' (.inl h1) most).mono fun e w' hp => ⟨none, 0, 0, [], 3, hp.1, sts_nil w', .inl ⟨.inl h1, rfl, rfl⟩, hp.2⟩
theorem refbothE_any : Calls Tryd.prog 22 #[.slice A n c, .slice A' n' c', .int .i64 most] w (BothPost w (H.map (·.d)) (H'.map (·.d)) most) := by
  by_cases h1 : checkE (H.map (·.d)) = 0
  · by_cases h2 : checkE (H'.map (·.d)) = 0
    · exact (refboth_any w B hB A n c H h A' n' c' H' h' ((good_iff _).1 h1) ((good_iff _).1 h2) hfew most).mono fun e w' hp => both_post h1 h2 hp
    · exact (refboth_bad w B hB A n c H h A' n' c' H' h' (.inr h2) most).mono fun e w' hp => ⟨none, 0, 0, [], 3, hp.1, sts_nil w', .inl ⟨.inr h2, rfl, rfl⟩, hp.2⟩
  · exact (refboth_bad w B hB A n c H h A' n' c' H' h' (.inl h1) most).mono fun e w' hp => ⟨none, 0, 0, [], 3, hp.1, sts_nil w', .inl ⟨.inl h1, rfl, rfl⟩, hp.2⟩
end
/-- dfa.Least in every case. -/
def LeastPost (w : World) (a : List St) : Ending → World → Prop := fun r w' => ∃ A n c X code, r = .returned (.tuple #[.slice A n c, .int .i64 code]) ∧ StsIn w' w'.heap.size A n c X ∧ ((checkE a = 0 ∧ code = 0 ∧ LeastIs (auOf a) 0 (X.map (·.d))) ∨ (checkE a ≠ 0 ∧ code = 3 ∧ n = 0)) ∧ Below w.heap.size w w'
theorem leastE_any (w : World) (B : Nat) (hB : B ≤ w.heap.size) (A : Option Addr) (n c : Nat) (H : List Sh) (h : StsIn w B A n c H) (ht : Tab w) : Calls Tryd.prog 23 #[.slice A n c] w (LeastPost w (H.map (·.d))) := by
  by_cases h1 : checkE (H.map (·.d)) = 0
  · have hg := (good_iff _).1 h1
    refine (oleast_any w B hB A n c H h hg ht).mono fun e w' hp => ?_
    obtain ⟨v, hs, hr, ho, hl, hle, hb⟩ := hp
    have hn : n ≤ 20000 := by have := hg.few; rw [List.length_map, h.len] at this; exact this
    have hle2 : hs.length ≤ 20000 := by omega
    obtain ⟨A, c, rfl, hs2⟩ := ho.use hle2 (hl.good (by rw [List.length_map]; exact hle2))
    exact ⟨A, hs.length, c, hs, 0, hr, hs2, .inl ⟨h1, rfl, hl⟩, hb⟩
  · exact (oleast_bad w B hB A n c H h h1).mono fun e w' hp => ⟨none, 0, 0, [], 3, hp.1, sts_nil w', .inr ⟨h1, rfl, rfl⟩, hp.2⟩
end Go.Proofs.YtebdffabfimmkaaDoor
/- The walk of DfaBoth. -/
namespace Go.Proofs.YtebdffabfimmkaaDoor
open Go.RowKit Go.Maps

set_option maxRecDepth 100000 in
set_option maxHeartbeats 8000000 in
theorem bothlaw_walk (w : World) (A : Option Addr) (n c : Nat) (H : List Sh) (h : StsIn w w.heap.size A n c H) (A' : Option Addr) (n' c' : Nat) (H' : List Sh) (h' : StsIn w w.heap.size A' n' c' H') (most : Int) (ht : Tab w) :
    Calls Tryd.prog 6 #[.slice A n c, .slice A' n' c', .int .i64 most] w fun e w' => e = .returned (.bool true) ∧ Below w.heap.size w w' := by
  have HS := Lib.hid h
  have HS' := Lib.hid h'
  have HT := Lib.hid ht
  have hcm := h.cm
  have hcm' := h'.cm
  clear h h' ht
  go_enter Tryd.func6, Tryd.ntmps6
  go_wp2_with fail
  refine (awake_any _ HT.out).mono ?_
  rintro e w1 ⟨rfl, hb1⟩
  have HB1 := Lib.hid hb1
  clear hb1
  go_wp2_with fail
  refine (few_any w1 (n : Int)).mono ?_
  rintro e w2 ⟨rfl, hb2⟩
  have HB2 := Lib.hid (bcall HB1.out hb2)
  clear hb2 HB1
  by_cases hn : (n : Int) ≤ 30
  · rw [decide_eq_true hn]
    go_wp2_with fail
    refine (few_any w2 (n' : Int)).mono ?_
    rintro e w3 ⟨rfl, hb3⟩
    have HB3 := Lib.hid (bcall HB2.out hb3)
    clear hb3 HB2
    by_cases hn' : (n' : Int) ≤ 30
    · rw [decide_eq_true hn']
      obtain ⟨K, hK⟩ : ∃ K : Int, (n : Int) * (n' : Int) = K := ⟨_, rfl⟩
      have hK2 : ((n * n' : Nat) : Int) = K := by rw [← hK]; exact Int.natCast_mul n n'
      have hK900 : n * n' ≤ 900 := Nat.mul_le_mul (show n ≤ 30 by omega) (show n' ≤ 30 by omega)
      have HFW := Lib.hid (show n * n' ≤ 20000 by omega)
      have hKle : K ≤ 900 := by omega
      have hK0 : 0 ≤ K := by omega
      have hwr : IntKind.i64.wrap ((n : Int) * (n' : Int)) = K := by rw [hK]; exact IntWalk.i64_in _ (by omega)
      clear hK hK2 hK900
      by_cases h150 : K > 150
      · have q0 : decide (K > 150) = true := decide_eq_true h150
        clear HS HS'
        go_wp2_with fail
        refine (awake_any _ (HT.out.below HB3.out)).mono ?_
        rintro e w9 ⟨rfl, hb9⟩
        have HB9 := Lib.hid (bcall HB3.out hb9)
        clear hb9
        go_wp2_with fail
        go_ret
        exact ⟨rfl, HB9.out⟩
      · have q0 : decide (K > 150) = false := decide_eq_false h150
        go_wp2_with fail
        refine (bothE_any w3 w.heap.size HB3.out.size A n c H (HS.out.keep HB3.out (Nat.le_refl _)) A' n' c' H' (HS'.out.keep HB3.out (Nat.le_refl _)) HFW.out most (HT.out.below HB3.out)).mono ?_
        rintro e w4 ⟨Ax, nx, cx, X, ce, rfl, hx, hbx, hb4⟩
        have HX4 := Lib.hid hx
        have HBX := Lib.hid hbx
        have HB4 := Lib.hid (bcall HB3.out hb4)
        clear hx hbx hb4 HB3
        go_wp2_with fail
        refine (refbothE_any w4 w.heap.size HB4.out.size A n c H (HS.out.keep HB4.out (Nat.le_refl _)) A' n' c' H' (HS'.out.keep HB4.out (Nat.le_refl _)) HFW.out most).mono ?_
        rintro e w5 ⟨Ay, ny, cy, Y, cf, rfl, hy, hby, hb5⟩
        obtain ⟨hcc, hxy⟩ := HBX.out.one hby
        subst hcc
        have HXY := Lib.hid hxy
        have HX5 := Lib.hid (HX4.out.keep hb5 hb5.size)
        have HY5 := Lib.hid hy
        have HB5 := Lib.hid (bcall HB4.out hb5)
        clear hy hby hb5 HB4 HX4 HBX hxy
        go_wp2_with fail
        refine (leastE_any w5 w.heap.size HB5.out.size A n c H (HS.out.keep HB5.out (Nat.le_refl _)) (HT.out.below HB5.out)).mono ?_
        rintro e w6 ⟨Al, nl, cl, Z, cg, rfl, hz, hbz, hb6⟩
        have HZ6 := Lib.hid hz
        have HBZ := Lib.hid hbz
        have HX6 := Lib.hid (HX5.out.keep hb6 hb6.size)
        have HY6 := Lib.hid (HY5.out.keep hb6 hb6.size)
        have HB6 := Lib.hid (bcall HB5.out hb6)
        clear hz hbz hb6 HB5 HX5 HY5
        go_wp2_with fail
        refine (rsame_any w6 w6.heap.size (Nat.le_refl _) Ax Ay nx cx ny cy X Y HX6.out HY6.out).mono ?_
        rintro e w7 ⟨rfl, hb7⟩
        rw [decide_eq_true HXY.out]
        have HZ7 := Lib.hid (HZ6.out.keep hb7 hb7.size)
        have HB7 := Lib.hid (bcall HB6.out hb7)
        clear hb7 HB6 HZ6 HX6 HY6
        go_wp2_with fail
        refine (rcheck_any w7 w.heap.size HB7.out.size A n c H (HS.out.keep HB7.out (Nat.le_refl _))).mono ?_
        rintro e w8 ⟨rfl, hb8⟩
        have HZ8 := Lib.hid (HZ7.out.keep hb8 hb8.size)
        have HB8 := Lib.hid (bcall HB7.out hb8)
        clear hb8 HB7 HZ7
        rcases HBZ.out with ⟨hck, rfl, hll⟩ | ⟨hck, rfl, rfl⟩
        · rw [hck]
          have HLL := Lib.hid hll
          have HGG := Lib.hid ((good_iff _).1 hck)
          clear hck hll HBZ
          go_wp2_with fail
          refine (refleast_any w8 w.heap.size HB8.out.size A n c H (HS.out.keep HB8.out (Nat.le_refl _)) HGG.out).mono ?_
          rintro e w9 ⟨v9, M, rfl, hown9, hl9, hle9, hb9⟩
          have hnn : n ≤ 20000 := by omega
          have hml : M.length ≤ 20000 := by omega
          have HEQ := Lib.hid (HLL.out.eq hl9 (Leq.refl _ _))
          obtain ⟨Am, cm, rfl, hM9⟩ := hown9.use hml (hl9.good (by rw [List.length_map]; exact hml))
          obtain ⟨nm, hnm⟩ : ∃ k, M.length = k := ⟨_, rfl⟩
          rw [hnm] at hM9 ⊢
          have HM9 := Lib.hid hM9
          have HZ9 := Lib.hid (HZ8.out.keep hb9 hb9.size)
          have HB9 := Lib.hid (bcall HB8.out hb9)
          clear hown9 hl9 hM9 hb9 hnm HB8 HZ8 hml hle9 hnn
          go_wp2_with fail
          refine (rsame_any w9 w9.heap.size (Nat.le_refl _) Al Am nl cl nm cm Z M HZ9.out HM9.out).mono ?_
          rintro e w10 ⟨rfl, hb10⟩
          rw [decide_eq_true HEQ.out]
          have HB10 := Lib.hid (bcall HB9.out hb10)
          clear hb10 HB9 HZ9 HM9
          go_wp2_with fail
          go_ret
          exact ⟨rfl, HB10.out⟩
        · obtain ⟨ck, hck2⟩ : ∃ k, checkE (H.map (·.d)) = k := ⟨_, rfl⟩
          rw [hck2] at hck ⊢
          have q5 : (ck == 0) = false := by simpa using hck
          have q6 : (ck != 0) = true := by simpa using hck
          clear hck hck2 HBZ
          go_wp2_with fail
          go_ret
          exact ⟨rfl, HB8.out⟩
    · rw [decide_eq_false hn']
      clear HS HS'
      go_wp2_with fail
      refine (awake_any _ (HT.out.below HB3.out)).mono ?_
      rintro e w9 ⟨rfl, hb9⟩
      have HB9 := Lib.hid (bcall HB3.out hb9)
      clear hb9
      go_wp2_with fail
      go_ret
      exact ⟨rfl, HB9.out⟩
  · rw [decide_eq_false hn]
    clear HS HS'
    go_wp2_with fail
    refine (awake_any _ (HT.out.below HB2.out)).mono ?_
    rintro e w9 ⟨rfl, hb9⟩
    have HB9 := Lib.hid (bcall HB2.out hb9)
    clear hb9
    go_wp2_with fail
    go_ret
    exact ⟨rfl, HB9.out⟩
theorem bothlaw_all (w : World) (A : Option Addr) (n c : Nat) (x : Nat → tState.den) (h : StsIn w w.heap.size A n c (shL n x)) (A' : Option Addr) (n' c' : Nat) (x' : Nat → tState.den) (h' : StsIn w w.heap.size A' n' c' (shL n' x')) (z : Int) (_ : (Lit.int .i64 z).wf = true) (ht : Tab w) :
    Calls Tryd.prog 6 #[.slice A n c, .slice A' n' c', .int .i64 z] w fun e w' => e = .returned (.bool true) ∧ Below w.heap.size w w' := bothlaw_walk w A n c _ h A' n' c' _ h' z ht
end Go.Proofs.YtebdffabfimmkaaDoor
