/- The score, as the program reckons it. -/
import Derived.Test.YtdiekkligpinkaaDivw
namespace Go.Proofs.Ytdiekkligpinkaa
open Go.RowKit

def HiOf (a b : Int) : Int := ((a.toNat * b.toNat / 18446744073709551616 : Nat) : Int)
def LoOf (a b : Int) : Int := ((a.toNat * b.toNat % 18446744073709551616 : Nat) : Int)
theorem mul_any (a b : Int) (a0 : 0 ≤ a) (a1 : a ≤ 18446744073709551615) (b0 : 0 ≤ b) (b1 : b ≤ 18446744073709551615) (w : World) :
    Calls Try.prog 17 #[.int .u64 a, .int .u64 b] w fun e w' => e = .returned (.tuple #[.int .u64 (HiOf a b), .int .u64 (LoOf a b)]) ∧ w = w' := by
  have h := Try.bits_Mul64 a.toNat b.toNat (by omega) (by omega) w
  rw [Int.toNat_of_nonneg a0, Int.toNat_of_nonneg b0] at h
  exact h.mono fun _ _ ⟨h1, h2⟩ => ⟨h1, h2.symm⟩
theorem lo_bounds (a b : Int) : 0 ≤ LoOf a b ∧ LoOf a b ≤ 18446744073709551615 := by
  unfold LoOf
  generalize a.toNat * b.toNat = z
  omega
def Num (c : Counts) : Nat := (WtV c.docs c.have_).toNat * (22 * (c.times * c.total)).toNat
def Den (c : Counts) : Int := 10 * (c.times * c.total) + 3 * c.total + 9 * c.len * c.docs
def ScN (c : Counts) : Nat := Num c / (Den c).toNat
theorem div_any (hi lo y : Int) (h0 : 0 ≤ hi) (hy : hi < y) (hyb : y ≤ 18446744073709551615) (l0 : 0 ≤ lo) (l1 : lo ≤ 18446744073709551615) (w : World) :
    Calls Try.prog 18 #[.int .u64 hi, .int .u64 lo, .int .u64 y] w fun e w' => (∃ r : Int, e = .returned (.tuple #[.int .u64 (((hi.toNat * 18446744073709551616 + lo.toNat) / y.toNat : Nat) : Int), .int .u64 r])) ∧ ∃ q, w' = w.drewN q := by
  have e1 : ((hi.toNat : Nat) : Int) = hi := Int.toNat_of_nonneg h0
  have e2 : ((lo.toNat : Nat) : Int) = lo := Int.toNat_of_nonneg l0
  have e3 : ((y.toNat : Nat) : Int) = y := Int.toNat_of_nonneg (by omega)
  by_cases hz : hi = 0
  · subst hz
    have h := div_low lo.toNat y.toNat (by omega) (by omega) w
    rw [e2, e3] at h
    have ez : (0 : Int).toNat * 18446744073709551616 + lo.toNat = lo.toNat := by rw [Int.toNat_zero, Nat.zero_mul, Nat.zero_add]
    rw [ez]
    exact h
  · have h := div_high hi.toNat lo.toNat y.toNat (by omega) (by omega) (by omega) (by omega) w
    rw [e1, e2, e3] at h
    exact h.mono fun _ w' ⟨a, b⟩ => ⟨a, 0, b.symm⟩

structure CountsOk (c : Counts) : Prop where
  d1 : 1 ≤ c.docs
  d2 : c.docs ≤ 1073741824
  h1 : 1 ≤ c.have_
  h2 : c.have_ ≤ c.docs
  t1 : 1 ≤ c.times
  t2 : c.times ≤ c.len
  l1 : c.len ≤ 4096
  n1 : c.len ≤ c.total
  n2 : c.total ≤ 1099511627776
theorem counts_ok {c : Counts} (h : c.ok = true) : CountsOk c := by
  have := of_decide_eq_true h
  exact ⟨by omega, by omega, by omega, by omega, by omega, by omega, by omega, by omega, by omega⟩
theorem part_bounds {c : Counts} (h : CountsOk c) : 1 ≤ c.times * c.total ∧ c.times * c.total ≤ 4503599627370496 := by
  obtain ⟨d1, d2, h1, h2, t1, t2, l1, n1, n2⟩ := h
  constructor
  · have := Int.mul_le_mul t1 (show 1 ≤ c.total by omega) (by omega) (by omega)
    omega
  · have := Int.mul_le_mul (show c.times ≤ 4096 by omega) n2 (by omega) (by omega)
    omega
theorem ld_bounds {c : Counts} (h : CountsOk c) : 0 ≤ 9 * c.len * c.docs ∧ 9 * c.len * c.docs ≤ 39582418599936 := by
  obtain ⟨d1, d2, h1, h2, t1, t2, l1, n1, n2⟩ := h
  constructor
  · exact Int.mul_nonneg (by omega) (by omega)
  · have := Int.mul_le_mul (show 9 * c.len ≤ 36864 by omega) d2 (by omega) (by omega)
    omega
theorem num_bound {c : Counts} (h : CountsOk c) : Num c ≤ 9227467 * (Den c).toNat := by
  have hp := part_bounds h
  have hl := ld_bounds h
  have hw := wt_bounds ⟨h.d1, h.d2, h.h1, h.h2⟩
  have ht := h.n1
  have ht2 := h.t1
  have ht3 := h.t2
  unfold Num Den
  generalize c.times * c.total = p at *
  generalize 9 * c.len * c.docs = q at *
  generalize WtV c.docs c.have_ = v at *
  have h1 : v.toNat * (22 * p).toNat ≤ 4194303 * (22 * p).toNat := Nat.mul_le_mul_right _ (by omega)
  omega

set_option maxRecDepth 100000 in
set_option maxHeartbeats 2000000 in
theorem score_ok (c : Counts) (hc : c.ok = true) (w : World) : Calls Try.prog 10 #[c.val] w fun e w' => e = .returned (.tuple #[.int .i64 (ScN c), .int .i64 0]) ∧ Below w.heap.size w w' := by
  have ho := counts_ok hc
  have hp := part_bounds ho
  have hl := ld_bounds ho
  have hw := wt_bounds ⟨ho.d1, ho.d2, ho.h1, ho.h2⟩
  have hn := num_bound ho
  have HC := Lib.hid (chk_any c)
  have HW := Lib.hid (wt_yes ⟨ho.d1, ho.d2, ho.h1, ho.h2⟩).2
  have hnum : Hid (Num c = (WtV c.docs c.have_).toNat * (22 * (c.times * c.total)).toNat) := rfl
  have hden : Hid (Den c = 10 * (c.times * c.total) + 3 * c.total + 9 * c.len * c.docs) := rfl
  have hsc : Hid (ScN c = Num c / (Den c).toNat) := rfl
  have HT : Hid (1 ≤ c.total ∧ c.total ≤ 1099511627776) := ⟨by have := ho.n1; have := ho.t1; have := ho.t2; omega, ho.n2⟩
  have HO := Lib.hid hc
  obtain ⟨d1, d2, h1, h2, t1, t2, l1, n1, n2⟩ := ho
  unfold Counts.val at *
  obtain ⟨p, ep⟩ : ∃ p : Int, c.times * c.total = p := ⟨_, rfl⟩
  obtain ⟨q, eq⟩ : ∃ q : Int, 9 * c.len * c.docs = q := ⟨_, rfl⟩
  rw [ep] at hp hnum hden
  rw [eq] at hl hden
  obtain ⟨v, ev⟩ : ∃ v : Int, WtV c.docs c.have_ = v := ⟨_, rfl⟩
  rw [ev] at hw hnum
  obtain ⟨hp1, hp2⟩ := hp
  obtain ⟨hl1, hl2⟩ := hl
  obtain ⟨hw1, hw2⟩ := hw
  have hT := HT.out
  obtain ⟨hT1, hT2⟩ := hT
  have eD : Hid (Den c = 10 * p + 3 * c.total + q) := hden
  have hhi : Hid (HiOf v (22 * p) < 10 * p + 3 * c.total + q) := by
    have a := hn
    rw [eD.out, hnum.out] at a
    show _ < _
    unfold HiOf
    generalize v.toNat * (22 * p).toNat = z at *
    omega
  have hquot : Hid (((HiOf v (22 * p)).toNat * 18446744073709551616 + (LoOf v (22 * p)).toNat) / (10 * p + 3 * c.total + q).toNat = ScN c) := by
    show _ = _
    rw [hsc.out, eD.out, hnum.out]
    congr 1
    unfold HiOf LoOf
    rw [Int.toNat_natCast, Int.toNat_natCast, Nat.mul_comm]
    exact Nat.div_add_mod _ _
  have hsb : Hid (ScN c ≤ 9227467) := by
    show _ ≤ _
    rw [hsc.out, Nat.div_le_iff_le_mul_add_pred (by rw [eD.out]; omega)]
    rw [Nat.mul_comm]
    omega
  have HN := Lib.hid hn
  have hlen : 1 ≤ c.len := by omega
  clear hn hc hnum hden hsc t1 t2 h1 h2 d1 n1 n2 eD
  go_enter Try.func10, Try.ntmps10
  go_wp2_with fail
  refine (HC.out _).mono ?_
  rw [HO.out]
  rintro e w1 ⟨rfl, hb1⟩
  have hB1 := bcall (bnew (brefl w) _) hb1
  have hcell : ∀ w2 : World, Below (w.heap.size + 1) (w.alloc (.cells #[.int .i64 c.docs, .int .i64 c.total, .int .i64 c.have_, .int .i64 c.times, .int .i64 c.len] 30)) w2 → ∀ j u, ([.int .i64 c.docs, .int .i64 c.total, .int .i64 c.have_, .int .i64 c.times, .int .i64 c.len] : List Value)[j]? = some u → w2.cell? ⟨w.heap.size, j, none⟩ = some u := by
    intro w2 hb j u hu
    have h := news_at w #[.int .i64 c.docs, .int .i64 c.total, .int .i64 c.have_, .int .i64 c.times, .int .i64 c.len] 30 j u hu
    rw [Addr.add_lit, Nat.zero_add] at h
    exact (hb.cell (p := ⟨w.heap.size, j, none⟩) (Nat.lt_succ_self _)).trans h
  have hb1' : Below (w.heap.size + 1) (w.alloc (.cells #[.int .i64 c.docs, .int .i64 c.total, .int .i64 c.have_, .int .i64 c.times, .int .i64 c.len] 30)) w1 := hb1.mono (by simp)
  have a0 := hcell w1 hb1' 0 _ rfl
  have a2 := hcell w1 hb1' 2 _ rfl
  have HCELL := Lib.hid hcell
  clear hcell
  go_wp2_with fail
  refine (weight_any _ _ _).mono ?_
  rw [ev, HW.out]
  rintro e w2 ⟨rfl, hb2⟩
  have hb2' := hb1'.trans (hb2.mono (by have := hb1'.size; simpa using this))
  have f0 := HCELL.out w2 hb2' 0 _ rfl
  have f1 := HCELL.out w2 hb2' 1 _ rfl
  have f3 := HCELL.out w2 hb2' 3 _ rfl
  have f4 := HCELL.out w2 hb2' 4 _ rfl
  have hB2 := bcall hB1 hb2
  have hpw : IntKind.i64.wrap (c.times * c.total) = p := by rw [ep]; exact IntWalk.i64_in _ (by omega)
  have hqw : IntKind.i64.wrap (9 * c.len * c.docs) = q := by rw [eq]; exact IntWalk.i64_in _ (by omega)
  have HEP := Lib.hid ep
  have HEQ := Lib.hid eq
  have HEV := Lib.hid ev
  clear a0 a2 ep eq ev hb1 hb2 hb1' hb2' hB1
  go_wp2_with fail
  refine (mul_any _ _ (by omega) (by omega) (by omega) (by omega) _).mono ?_
  have hlo := Lib.hid (lo_bounds v (22 * p))
  have hhi0 : Hid (0 ≤ HiOf v (22 * p)) := Int.natCast_nonneg _
  obtain ⟨Hv, hHv⟩ : ∃ z : Int, z = HiOf v (22 * p) := ⟨_, rfl⟩
  obtain ⟨Lv, hLv⟩ : ∃ z : Int, z = LoOf v (22 * p) := ⟨_, rfl⟩
  rw [← hHv] at hhi hhi0 hquot
  rw [← hLv] at hlo hquot
  rw [← hHv, ← hLv]
  clear hHv hLv
  rintro e w3 ⟨rfl, rfl⟩
  go_wp2_with fail
  refine (div_any _ _ _ hhi0.out hhi.out (by omega) hlo.out.1 hlo.out.2 _).mono ?_
  rw [hquot.out]
  rintro e w4 ⟨⟨r, rfl⟩, z, rfl⟩
  obtain ⟨S, hS⟩ : ∃ S : Int, S = (ScN c : Int) := ⟨_, rfl⟩
  rw [← hS]
  have hS1 : 0 ≤ S := by omega
  have hS2 : S ≤ 9227467 := by have := hsb.out; omega
  have HS := Lib.hid hS
  clear hS
  go_wp2
  go_ret2
  exact ⟨ret_two HS.out, below_drewN hB2 _⟩
end Go.Proofs.Ytdiekkligpinkaa
