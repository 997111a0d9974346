/- The checksum as a division of rows of bits. (plain) -/
import Derived.Test.YtkhemhiifhggmaaGreatDoorHPr5
import Derived.Laws.BitsLemmas
import Derived.Test.YtkhemhiifhggmaaGreatDoorHPr7
import Derived.Deep.OwnRows
import Derived.StillTailTactics
set_option maxRecDepth 100000
set_option maxHeartbeats 40000000
namespace Go.Proofs.YtkhemhiifhggmaaGreatDoor
open Go.RowKit
def onesL : List Nat := [6, 9, 10, 16, 20, 21, 22, 24, 25, 27, 28, 30, 31, 32]
def stepF (f : Nat → Bool) (i : Nat) : Nat → Bool := fun p => (f p) ^^ (f i && onesL.any fun o => i + o == p)
def runF (f : Nat → Bool) : Nat → (Nat → Bool)
 | 0 => f
 | k + 1 => stepF (runF f k) k
def msgB (t : List UInt8) (p : Nat) : Bool := (t.getD (p / 8) 0).toNat.testBit (p % 8)
def begF (t : List UInt8) (p : Nat) : Bool := (msgB t p) ^^ (decide (p < 32))
def finN (f : Nat → Bool) (n : Nat) : Nat → Nat
 | 0 => 0
 | m + 1 => 2 * finN f n m + if f (n + 31 - m) then 0 else 1
theorem xor_u32 (a b : Nat) (ha : a < 4294967296) (hb : b < 4294967296) : bits .xor .u32 (a : Int) (b : Int) = ((a ^^^ b : Nat) : Int) := by
 have hp : 4294967296 ≤ 2 ^ IntKind.u32.bits := by decide
 have ha' : a % 2 ^ IntKind.u32.bits = a := Nat.mod_eq_of_lt (Nat.lt_of_lt_of_le ha hp)
 have hb' : b % 2 ^ IntKind.u32.bits = b := Nat.mod_eq_of_lt (Nat.lt_of_lt_of_le hb hp)
 simp only [bits, BitVec.ofInt_natCast, BitVec.toNat_xor, BitVec.toNat_ofNat, ha', hb']
 rw [IntKind.wrap_u32]
 have h : a ^^^ b < 2 ^ 32 := Nat.xor_lt_two_pow (by omega) (by omega)
 omega
def crcS (c : Nat) : Nat := c / 2 ^^^ (if c.testBit 0 then 3988292384 else 0)
theorem crcS_lt {c : Nat} (h : c < 4294967296) : crcS c < 4294967296 := by
 unfold crcS
 refine Nat.xor_lt_two_pow (n := 32) (by omega) ?_
 split <;> omega
theorem crcI_nat (c : Nat) (h : c < 4294967296) : crcI (c : Int) = ((crcS c : Nat) : Int) := by
 have h1 : bits .and .u32 (c : Int) 1 = ((c % 2 : Nat) : Int) := by
  have := (bits_nat .u32 32 (by decide) (fun n h0 h1 => by rw [IntKind.wrap_u32]; omega) c 1 (by omega) (by omega)).1
  rw [Nat.and_one_is_mod] at this
  exact this
 have h2 : (c : Int) / 2 = ((c / 2 : Nat) : Int) := by omega
 unfold crcI crcS
 rw [h1, h2]
 rcases Nat.mod_two_eq_zero_or_one c with e | e
 ·have ht : c.testBit 0 = false := by rw [Nat.testBit_zero, e]; rfl
  rw [e, ht]
  have h3 : bits .and .u32 3988292384 (IntKind.u32.wrap (-((0 : Nat) : Int))) = ((0 : Nat) : Int) := by decide
  rw [h3]
  exact xor_u32 _ _ (by omega) (by decide)
 ·have ht : c.testBit 0 = true := by rw [Nat.testBit_zero, e]; rfl
  rw [e, ht]
  have h3 : bits .and .u32 3988292384 (IntKind.u32.wrap (-((1 : Nat) : Int))) = ((3988292384 : Nat) : Int) := by decide
  rw [h3]
  exact xor_u32 _ _ (by omega) (by decide)
theorem poly_bits (j : Nat) : Nat.testBit 3988292384 j = onesL.any fun o => o == 1 + j := by
 by_cases h : j < 32
 ·have : ∀ j, j < 32 → Nat.testBit 3988292384 j = onesL.any fun o => o == 1 + j := by decide
  exact this j h
 ·rw [Nat.testBit_lt_two_pow (Nat.lt_of_lt_of_le (show 3988292384 < 2 ^ 32 by decide) (Nat.pow_le_pow_right (by decide) (by omega)))]
  symm
  rw [List.any_eq_false]
  intro o ho
  have : ∀ o ∈ onesL, o ≤ 32 := by decide
  have := this o ho
  simp
  omega
theorem crcS_bit (c j : Nat) : (crcS c).testBit j = ((c.testBit (j + 1)) ^^ (c.testBit 0 && onesL.any fun o => o == 1 + j)) := by
 unfold crcS
 rw [Nat.testBit_xor, Nat.testBit_div_two]
 congr 1
 cases c.testBit 0
 ·simp
 ·simp only [if_true, Bool.true_and]
  exact poly_bits j
def Vf (f : Nat → Bool) (base c : Nat) (M : Nat → Bool) : Prop := ∀ j, f (base + j) = ((c.testBit j) ^^ (M j))
theorem Vf.step {f0 : Nat → Bool} {base c : Nat} {M : Nat → Bool} (h : Vf (runF f0 base) base c M) (h0 : M 0 = false) : Vf (runF f0 (base + 1)) (base + 1) (crcS c) (fun j => M (j + 1)) := by
 intro j
 show ((runF f0 base (base + 1 + j)) ^^ (runF f0 base base && onesL.any fun o => base + o == base + 1 + j)) = _
 have e1 : runF f0 base base = c.testBit 0 := by
  have := h 0
  rw [h0, Bool.xor_false] at this
  exact this
 have e2 : runF f0 base (base + 1 + j) = ((c.testBit (j + 1)) ^^ (M (j + 1))) := by
  have := h (j + 1)
  rw [show base + (j + 1) = base + 1 + j by omega] at this
  exact this
 have e3 : (onesL.any fun o => base + o == base + 1 + j) = onesL.any fun o => o == 1 + j := by
  congr 1
  funext o
  by_cases e : o = 1 + j
  ·have : base + o = base + 1 + j := by omega
   rw [beq_iff_eq.2 this, beq_iff_eq.2 e]
  ·have : ¬ base + o = base + 1 + j := by omega
   rw [beq_false_of_ne this, beq_false_of_ne e]
 rw [e1, e2, e3, crcS_bit]
 show _ = (_ ^^ M (j + 1))
 cases c.testBit (j + 1) <;> cases M (j + 1) <;> cases (c.testBit 0 && onesL.any fun o => o == 1 + j) <;> rfl
def crcM : Nat → Nat → Nat
 | 0, c => c
 | k + 1, c => crcS (crcM k c)
theorem Vf.steps {f0 : Nat → Bool} {base c : Nat} {M : Nat → Bool} (h : Vf (runF f0 base) base c M) : ∀ k, (∀ j, j < k → M j = false) → Vf (runF f0 (base + k)) (base + k) (crcM k c) (fun j => M (j + k))
 | 0, _ => h
 |
  k + 1, h0 => by
  have h1 := (Vf.steps h k (fun j hj => h0 j (by omega))).step (by
   show M (0 + k) = false
   exact h0 _ (by omega))
  intro j
  have h2 : runF f0 (base + k + 1) (base + k + 1 + j) = ((crcS (crcM k c)).testBit j ^^ M (j + 1 + k)) := h1 j
  rw [show j + 1 + k = j + (k + 1) by omega] at h2
  exact h2
def crcTN (c : Nat) : List UInt8 → Nat
 | [] => c
 | b :: r => crcTN (crcM 8 (c ^^^ b.toNat)) r
theorem Vf.text {f0 : Nat → Bool} : ∀ (t : List UInt8) {base c : Nat}, Vf (runF f0 base) base c (msgB t) → Vf (runF f0 (base + 8 * t.length)) (base + 8 * t.length) (crcTN c t) (fun _ => false)
 |
  [], base, c, h => by
  intro j
  have := h j
  have e : msgB [] j = false := by simp [msgB]
  rw [e] at this
  exact this
 |
  b :: r, base, c, h => by
  have h1 : Vf (runF f0 base) base (c ^^^ b.toNat) (fun j => if j < 8 then false else msgB r (j - 8)) := by
   intro j
   rw [h j, Nat.testBit_xor]
   show _ = (_ ^^ (if j < 8 then false else msgB r (j - 8)))
   by_cases hj : j < 8
   ·rw [if_pos hj, Bool.xor_false]
    have e : msgB (b :: r) j = b.toNat.testBit j := by
     unfold msgB
     rw [Nat.div_eq_of_lt hj, Nat.mod_eq_of_lt hj]
     rfl
    rw [e]
   ·rw [if_neg hj]
    have e : msgB (b :: r) j = msgB r (j - 8) := by
     unfold msgB
     rw [show j / 8 = (j - 8) / 8 + 1 by omega, show j % 8 = (j - 8) % 8 by omega]
     rfl
    have e2 : b.toNat.testBit j = false := Nat.testBit_lt_two_pow (Nat.lt_of_lt_of_le (show b.toNat < 2 ^ 8 from b.toNat_lt) (Nat.pow_le_pow_right (by decide) (by omega)))
    rw [e, e2, Bool.xor_false]
  have h2 := h1.steps 8 (fun j hj => if_pos hj)
  have h3 : Vf (runF f0 (base + 8)) (base + 8) (crcM 8 (c ^^^ b.toNat)) (msgB r) := by
   intro j
   rw [h2 j]
   have : (if j + 8 < 8 then false else msgB r (j + 8 - 8)) = msgB r j := by
    rw [if_neg (by omega), Nat.add_sub_cancel]
   simp only [this]
  have h4 := Vf.text r h3
  have e : base + 8 * (b :: r).length = base + 8 + 8 * r.length := by rw [List.length_cons]; omega
  rw [e]
  exact h4
theorem crcM_lt : ∀ k {c : Nat}, c < 4294967296 → crcM k c < 4294967296
 | 0, _, h => h
 | k + 1, _, h => crcS_lt (crcM_lt k h)
theorem crcN_nat (c : Nat) (h : c < 4294967296) : ∀ k, crcN k (c : Int) = ((crcM k c : Nat) : Int)
 | 0 => rfl
 |
  k + 1 => by
  show crcI (crcN k (c : Int)) = _
  rw [crcN_nat c h k, crcI_nat _ (crcM_lt k h)]
  rfl
theorem xor8_lt {c : Nat} (h : c < 4294967296) (b : UInt8) : c ^^^ b.toNat < 4294967296 := Nat.xor_lt_two_pow (n := 32) (by omega) (by have := b.toNat_lt; omega)
theorem crcT_nat : ∀ (t : List UInt8) (c : Nat), c < 4294967296 → crcT (c : Int) t = ((crcTN c t : Nat) : Int)
 | [], c, h => rfl
 |
  b :: r, c, h => by
  show crcT (crcN 8 (bits .xor .u32 (c : Int) (b.toNat : Int))) r = _
  rw [xor_u32 c b.toNat h (by have := b.toNat_lt; omega), crcN_nat _ (xor8_lt h b)]
  exact crcT_nat r _ (crcM_lt 8 (xor8_lt h b))
theorem crcTN_lt : ∀ (t : List UInt8) {c : Nat}, c < 4294967296 → crcTN c t < 4294967296
 | [], _, h => h
 | b :: r, _, h => crcTN_lt r (crcM_lt 8 (xor8_lt h b))
theorem all_bits (j : Nat) : Nat.testBit 4294967295 j = decide (j < 32) := Nat.testBit_two_pow_sub_one 32 j
theorem fin_div {f : Nat → Bool} {n X : Nat} (hX : X < 4294967296) (h : ∀ j, j < 32 → X.testBit j = !f (n + j)) : ∀ m, m ≤ 32 → finN f n m = X / 2 ^ (32 - m)
 |
  0, _ => by
  show 0 = _
  rw [Nat.div_eq_of_lt]
  exact hX
 |
  m + 1, hm => by
  show 2 * finN f n m + _ = _
  rw [fin_div hX h m (by omega)]
  have e1 : 32 - m = (32 - (m + 1)) + 1 := by omega
  have e2 : n + 31 - m = n + (32 - (m + 1)) := by omega
  rw [e1, e2, Nat.pow_succ, ← Nat.div_div_eq_div_mul]
  have hb := h (32 - (m + 1)) (by omega)
  rw [Nat.testBit_eq_decide_div_mod_eq] at hb
  generalize X / 2 ^ (32 - (m + 1)) = Y at *
  cases hf : f (n + (32 - (m + 1)))
  ·rw [hf] at hb
   have : Y % 2 = 1 := by simpa using hb
   simp
   omega
  ·rw [hf] at hb
   have : ¬ Y % 2 = 1 := by simpa using hb
   simp
   omega
theorem sum_same (t : List UInt8) : sumZ t = ((finN (runF (begF t) (8 * t.length)) (8 * t.length) 32 : Nat) : Int) := by
 have h0 : Vf (runF (begF t) 0) 0 4294967295 (msgB t) := by
  intro j
  rw [Nat.zero_add, all_bits]
  show ((msgB t j) ^^ (decide (j < 32))) = _
  exact Bool.xor_comm _ _
 have h1 := Vf.text t h0
 rw [Nat.zero_add] at h1
 have hc := crcTN_lt t (c := 4294967295) (by decide)
 have e : sumZ t = ((4294967295 ^^^ crcTN 4294967295 t : Nat) : Int) := by
  unfold sumZ
  have := crcT_nat t 4294967295 (by decide)
  rw [show ((4294967295 : Nat) : Int) = 4294967295 from rfl] at this
  rw [this]
  exact xor_u32 4294967295 _ (by decide) hc
 have hX : 4294967295 ^^^ crcTN 4294967295 t < 4294967296 := Nat.xor_lt_two_pow (n := 32) (by decide) (by omega)
 rw [e, fin_div hX (fun j hj => ?_) 32 (Nat.le_refl _), Nat.sub_self, Nat.pow_zero, Nat.div_one]
 rw [Nat.testBit_xor, all_bits, decide_eq_true hj, h1 j, Bool.xor_false, Bool.true_xor]
end Go.Proofs.YtkhemhiifhggmaaGreatDoor
namespace Go.Proofs.YtkhemhiifhggmaaGreatDoor
open Go.RowKit
set_option linter.unusedVariables false
theorem le_al' (W : World) (o : Obj) : W.heap.size < (W.alloc o).heap.size := by
 show _ < (W.heap.push o).size
 rw [Array.size_push]
 omega
theorem made_list (z : Value) : ∀ n, (madeCells #[z] n).toList = List.replicate n z := by
 intro n
 apply List.ext_getElem?
 intro j
 by_cases hj : j < n
 ·simp [madeCells, hj, Nat.mod_one]
 ·simp [madeCells, hj]
theorem make_bool (n : Nat) (hn : n ≤ 1099511627776) (w : World) : (Instr.makeSlice 124 (.int .i64 (n : Int)) (.int .i64 (n : Int))).run Tryz.prog w = .ok (.slice (some ⟨w.heap.size, 0, none⟩) n n) (w.alloc (.cells (madeCells #[.bool false] n) 4)) :=
 run_make_row' 124 4 (.bool false) 1 Tryz.underlying124 (by kernel_rfl) rfl .i64 .i64 n (by omega) (by omega) w
theorem own_made (w : World) (z : Value) (n : Nat) (hn : n ≤ 1099511627776) (e : TypeId) {nb : Nat} (h : nb = w.heap.size) {base : Nat} (hb : base ≤ w.heap.size) : (w.alloc (.cells (madeCells #[z] n) e)).ownsRow base e 1 (.slice (some ⟨nb, 0, none⟩) n n) n (List.replicate n z) := by
 have hl := made_list z n
 have h1 := own_new w (madeCells #[z] n) e 1 n (by rw [← Array.length_toList, hl, List.length_replicate, Nat.mul_one]) (by unfold maxLen; omega) h hb
 rw [hl] at h1
 exact h1
theorem own_blk {W : World} {b e s n g c : Nat} {xs : List Value} (h : W.ownsRow b e s (.slice (some ⟨g, 0, none⟩) n c) n xs) : b ≤ g ∧ g < W.heap.size ∧ ∃ cs, W.heap[g]? = some (.cells cs e (0, 0)) := by
 rcases h.2 with ⟨hv, _⟩ | ⟨g', cap, cur, hv, hb, hg, _⟩
 ·cases hv
 ·injection hv with hv _ _
  injection hv with hv
  injection hv with hv _ _
  subst hv
  exact ⟨hb, (Array.getElem?_eq_some_iff.1 hg).1, _, hg⟩
theorem own_cell {W : World} {b e n g c j : Nat} {u : Value} {xs : List Value} (h : W.ownsRow b e 1 (.slice (some ⟨g, 0, none⟩) n c) n xs) (hu : xs[j]? = some u) : W.cell? ⟨g, j, none⟩ = some u := by
 have := h.cells (g := g) rfl j u hu
 rwa [Addr.add_lit, Nat.zero_add] at this
structure BitR (w W : World) (ob oc N : Nat) (f : Nat → Bool) : Prop where
 own : W.ownsRow w.heap.size 4 1 (.slice (some ⟨ob, 0, none⟩) N oc) N ((List.range N).map fun p => .bool (f p))
 bel : Below w.heap.size w W
section
variable {w W W' : World} {ob oc N : Nat} {f g : Nat → Bool}
theorem BitR.get (h : BitR w W ob oc N f) {p : Nat} (hp : p < N) : W.cell? ⟨ob, p, none⟩ = some (.bool (f p)) := own_cell h.own (by rw [List.getElem?_map, List.getElem?_range hp]; rfl)
theorem BitR.ext (h : BitR w W ob oc N f) (e : ∀ p, p < N → f p = g p) : BitR w W ob oc N g := by
 refine ⟨?_, h.bel⟩
 have : ((List.range N).map fun p => Value.bool (g p)) = (List.range N).map fun p => .bool (f p) := List.map_congr_left fun p hp => by rw [e p (List.mem_range.1 hp)]
 rw [this]
 exact h.own
theorem BitR.set (h : BitR w W ob oc N f) (t : Nat) (b : Bool) : BitR w (W.setCell ⟨ob, t, none⟩ (.bool b)) ob oc N (fun p => if p = t then b else f p) ∧ W.frozen? ⟨ob, t, none⟩ = false ∧ ob < W.heap.size := by
 obtain ⟨q1, q2, cs, q3⟩ := own_blk h.own
 refine ⟨⟨?_, below_set h.bel q1 (Nat.le_refl _)⟩, free_at q3 _, q2⟩
 have e : ((List.range N).map fun p => Value.bool (if p = t then b else f p)) = ((List.range N).map fun p => Value.bool (f p)).set t (.bool b) := by
  apply List.ext_getElem?
  intro k
  rw [List.getElem?_set, List.getElem?_map, List.getElem?_map, List.length_map, List.length_range]
  by_cases hk : k < N
  ·rw [List.getElem?_range hk]
   by_cases ht : t = k
   ·subst ht
    rw [if_pos rfl, if_pos hk]
    simp
   ·rw [if_neg ht]
    have : ¬ k = t := fun e => ht e.symm
    simp [this]
  ·have hn : (List.range N)[k]? = none := by simpa using hk
   rw [hn]
   by_cases ht : t = k
   ·subst ht
    rw [if_pos rfl, if_neg hk]
    rfl
   ·rw [if_neg ht]
    rfl
 rw [e]
 exact own_put h.own
theorem BitR.keep (h : BitR w W ob oc N f) (hb : Below W.heap.size W W') : BitR w W' ob oc N f := ⟨own_kept h.own hb, bcall h.bel hb⟩
theorem BitR.cap (h : BitR w W ob oc N f) : N ≤ oc := by
 obtain ⟨A1, c1, e1, h1⟩ := own_shape h.own
 injection e1 with _ _ e1
 omega
end
theorem mod2_bit (X : Nat) : (((X : Int) % 2 == 1) : Bool) = X.testBit 0 := by
 rw [Nat.testBit_zero]
 rcases Nat.mod_two_eq_zero_or_one X with e | e
 ·rw [show (X : Int) % 2 = 0 by omega, e]; rfl
 ·rw [show (X : Int) % 2 = 1 by omega, e]; rfl
theorem rsum_k (w W0 : World) (ob oc N : Nat) (hN : N ≤ 1099511627776) (t : List UInt8) (i X : Nat) (hi : i < t.length) (hX : X = (t.getD i 0).toNat) (hn : 8 * t.length ≤ N) (HR0 : Hid (BitR w W0 ob oc N (fun p => decide (p < 8 * i) && msgB t p)))
  (c0 c1 c2 c3 c4 c9 c10 c11 c12 c13 c14 c15 c16 c17 c18 c19 c20 c21 c22 c23 c24 c25 c26 c27 c28 c29 c30 c46 c47 c48 c49 c50 c51 c52 c53 c54 c55 c56 c57 c58 c59 c60 c61 c62 c63 c64 c65 c66 c67 c68 c69 c70 c71 c72 c73 c74 c75 c76 c77 c78 c79 c80 c81 c82 c83 c84 c85 c86 c87 c88 c89 c90 c91 c92 c93 c94 c95 c96 c97 c98 c99 c100 c101 c102 c103 c104 u31 u32 u33 u34 u35 u36 u37 u38 u39 u40 u41 u42 u43 u44 u45 : Value) (Q0 : Exit → Act → World → Prop) (hQ0 : ∀ c (a a' : Act) w, a.defers = a'.defers → Q0 (.panic c) a w → Q0 (.panic c) a' w)
  (hexit : ∀ (W : World) (x7 x8 u31 u32 u33 u34 u35 u36 u37 u38 u39 u40 u41 u42 u43 u44 u45 : Value), Hid (BitR w W ob oc N (fun p => decide (p < 8 * (i + 1)) && msgB t p)) → Q0 (.exit 2) ⟨List.toArray (c0 :: c1 :: c2 :: c3 :: c4 :: .slice (some ⟨ob, 0, none⟩) N oc :: .int .i64 (i : Int) :: x7 :: x8 :: c9 :: c10 :: c11 :: c12 :: c13 :: c14 :: c15 :: c16 :: c17 :: c18 :: c19 :: c20 :: c21 :: c22 :: c23 :: c24 :: c25 :: c26 :: c27 :: c28 :: c29 :: c30 :: u31 :: u32 :: u33 :: u34 :: u35 :: u36 :: u37 :: u38 :: u39 :: u40 :: u41 :: u42 :: u43 :: u44 :: u45 :: c46 :: c47 :: c48 :: c49 :: c50 :: c51 :: c52 :: c53 :: c54 :: c55 :: c56 :: c57 :: c58 :: c59 :: c60 :: c61 :: c62 :: c63 :: c64 :: c65 :: c66 :: c67 :: c68 :: c69 :: c70 :: c71 :: c72 :: c73 :: c74 :: c75 :: c76 :: c77 :: c78 :: c79 :: c80 :: c81 :: c82 :: c83 :: c84 :: c85 :: c86 :: c87 :: c88 :: c89 :: c90 :: c91 :: c92 :: c93 :: c94 :: c95 :: c96 :: c97 :: c98 :: c99 :: c100 :: c101 :: c102 :: c103 :: c104 :: []), []⟩ W) :
  Code.wp Tryz.prog (.loop (loopOf Tryz.f72 1)) Q0 ⟨List.toArray (c0 :: c1 :: c2 :: c3 :: c4 :: .slice (some ⟨ob, 0, none⟩) N oc :: .int .i64 (i : Int) :: .int .i64 (X : Int) :: .int .i64 (0 : Int) :: c9 :: c10 :: c11 :: c12 :: c13 :: c14 :: c15 :: c16 :: c17 :: c18 :: c19 :: c20 :: c21 :: c22 :: c23 :: c24 :: c25 :: c26 :: c27 :: c28 :: c29 :: c30 :: u31 :: u32 :: u33 :: u34 :: u35 :: u36 :: u37 :: u38 :: u39 :: u40 :: u41 :: u42 :: u43 :: u44 :: u45 :: c46 :: c47 :: c48 :: c49 :: c50 :: c51 :: c52 :: c53 :: c54 :: c55 :: c56 :: c57 :: c58 :: c59 :: c60 :: c61 :: c62 :: c63 :: c64 :: c65 :: c66 :: c67 :: c68 :: c69 :: c70 :: c71 :: c72 :: c73 :: c74 :: c75 :: c76 :: c77 :: c78 :: c79 :: c80 :: c81 :: c82 :: c83 :: c84 :: c85 :: c86 :: c87 :: c88 :: c89 :: c90 :: c91 :: c92 :: c93 :: c94 :: c95 :: c96 :: c97 :: c98 :: c99 :: c100 :: c101 :: c102 :: c103 :: c104 :: []), []⟩ W0 := by
 have hX8 : X < 256 := by rw [hX]; exact UInt8.toNat_lt _
 have HX := Lib.hid hX
 clear hX
 conv => arg 2; arg 1; whnf
 go_loopw [7, 8] (fun xv kv wr => ∃ k Y : Nat, k ≤ 8 ∧ xv = .int .i64 (Y : Int) ∧ kv = .int .i64 (k : Int) ∧ Hid (Y = X / 2 ^ k) ∧ Hid (BitR w wr ob oc N (fun p => decide (p < 8 * i + k) && msgB t p))) (fun _ kv _ => 8 - (intOf kv).toNat)
 case atStart => exact ⟨0, X, Nat.zero_le _, rfl, rfl, (by show _ = _; simp), HR0⟩
 case round =>
  clear HR0
  obtain ⟨k, Y, hk, rfl, rfl, HY, HR⟩ := hrel
  by_cases hk8 : k < 8
  ·have q0 : decide ((k : Int) < 8) = true := decide_eq_true (by omega)
   have hY8 : Y < 256 := by rw [HY.out]; exact Nat.lt_of_le_of_lt (Nat.div_le_self _ _) hX8
   have hpos : 8 * i + k < N := by omega
   have hcap := HR.out.cap
   have HS := Lib.hid (HR.out.set (8 * i + k) (Y.testBit 0))
   have hfz := HS.out.2.1
   have hob := HS.out.2.2
   have HRN : Hid (BitR w (wr.setCell ⟨ob, 8 * i + k, none⟩ (.bool (Y.testBit 0))) ob oc N (fun p => decide (p < 8 * i + (k + 1)) && msgB t p)) := HS.out.1.ext fun p hp => by
    by_cases e : p = 8 * i + k
    ·rw [if_pos e, e, decide_eq_true (by omega), Bool.true_and]
     unfold msgB
     rw [show (8 * i + k) / 8 = i by omega, show (8 * i + k) % 8 = k by omega, ← HX.out, HY.out, Nat.testBit_zero, Nat.testBit_eq_decide_div_mod_eq]
    ·rw [if_neg e]
     congr 1
     by_cases h : p < 8 * i + k
     ·rw [decide_eq_true h, decide_eq_true (by omega)]
     ·rw [decide_eq_false h, decide_eq_false (by omega)]
   have HYN : Hid (Y / 2 = X / 2 ^ (k + 1)) := by show _ = _; rw [HY.out, Nat.pow_succ, Nat.div_div_eq_div_mul]
   have w1 : IntKind.i64.wrap (8 * (i : Int)) = 8 * (i : Int) := IntWalk.i64_in _ (by omega)
   have w2 : IntKind.i64.wrap (8 * (i : Int) + (k : Int)) = 8 * (i : Int) + (k : Int) := IntWalk.i64_in _ (by omega)
   have t1 : Int.tmod (Y : Int) 2 = (Y : Int) % 2 := Int.tmod_eq_emod_of_nonneg (by omega)
   have t2 : Int.tdiv (Y : Int) 2 = ((Y / 2 : Nat) : Int) := by rw [Int.tdiv_eq_ediv_of_nonneg (by omega)]; omega
   have m1 := mod2_bit Y
   have i1 : (0 : Int) ≤ 8 * (i : Int) + (k : Int) := by omega
   have i2 : 8 * (i : Int) + (k : Int) < (N : Int) := by omega
   have i3 : (8 * (i : Int) + (k : Int)).toNat = 8 * i + k := by omega
   have o1 := HR.out.get hpos
   generalize Y.testBit 0 = yb at *
   generalize (decide (8 * i + k < 8 * i + k) && msgB t (8 * i + k)) = ob1 at o1
   clear HS HR hexit
   go_wp2_with fail
   go_roundw
   case rel => exact ⟨k + 1, Y / 2, by omega, by go_num, by go_num, HYN, HRN⟩
   case measure => simp [intOf]; omega
  ·obtain rfl : k = 8 := by omega
   have q0 : decide (((8 : Nat) : Int) < 8) = false := rfl
   have HRN : Hid (BitR w wr ob oc N (fun p => decide (p < 8 * (i + 1)) && msgB t p)) := HR
   go_wp2_with fail
   first
    | exact HRN
    | exact hexit wr _ _ _ _ _ _ _ _ _ _ _ _ _ _ _ _ _ HRN
theorem rsum_i (w W0 : World) (ob oc N : Nat) (hN : N ≤ 1099511627776) (t : List UInt8) (hn : 8 * t.length ≤ N) (HR0 : Hid (BitR w W0 ob oc N (fun _ => false)))
  (c1 c2 c3 c4 c9 c10 c11 c12 c13 c14 c15 c16 c17 c18 c19 c20 c46 c47 c48 c49 c50 c51 c52 c53 c54 c55 c56 c57 c58 c59 c60 c61 c62 c63 c64 c65 c66 c67 c68 c69 c70 c71 c72 c73 c74 c75 c76 c77 c78 c79 c80 c81 c82 c83 c84 c85 c86 c87 c88 c89 c90 c91 c92 c93 c94 c95 c96 c97 c98 c99 c100 c101 c102 c103 c104 u7 u8 u21 u22 u23 u24 u25 u26 u27 u28 u29 u30 u31 u32 u33 u34 u35 u36 u37 u38 u39 u40 u41 u42 u43 u44 u45 : Value) (Q0 : Exit → Act → World → Prop) (hQ0 : ∀ c (a a' : Act) w, a.defers = a'.defers → Q0 (.panic c) a w → Q0 (.panic c) a' w)
  (hexit : ∀ (W : World) (x6 u7 u8 u21 u22 u23 u24 u25 u26 u27 u28 u29 u30 u31 u32 u33 u34 u35 u36 u37 u38 u39 u40 u41 u42 u43 u44 u45 : Value), Hid (BitR w W ob oc N (fun p => msgB t p)) → Q0 (.exit 0) ⟨List.toArray (.string ⟨t.toArray⟩ :: c1 :: c2 :: c3 :: c4 :: .slice (some ⟨ob, 0, none⟩) N oc :: x6 :: u7 :: u8 :: c9 :: c10 :: c11 :: c12 :: c13 :: c14 :: c15 :: c16 :: c17 :: c18 :: c19 :: c20 :: u21 :: u22 :: u23 :: u24 :: u25 :: u26 :: u27 :: u28 :: u29 :: u30 :: u31 :: u32 :: u33 :: u34 :: u35 :: u36 :: u37 :: u38 :: u39 :: u40 :: u41 :: u42 :: u43 :: u44 :: u45 :: c46 :: c47 :: c48 :: c49 :: c50 :: c51 :: c52 :: c53 :: c54 :: c55 :: c56 :: c57 :: c58 :: c59 :: c60 :: c61 :: c62 :: c63 :: c64 :: c65 :: c66 :: c67 :: c68 :: c69 :: c70 :: c71 :: c72 :: c73 :: c74 :: c75 :: c76 :: c77 :: c78 :: c79 :: c80 :: c81 :: c82 :: c83 :: c84 :: c85 :: c86 :: c87 :: c88 :: c89 :: c90 :: c91 :: c92 :: c93 :: c94 :: c95 :: c96 :: c97 :: c98 :: c99 :: c100 :: c101 :: c102 :: c103 :: c104 :: []), []⟩ W) :
  Code.wp Tryz.prog (.loop (loopOf Tryz.f72 0)) Q0 ⟨List.toArray (.string ⟨t.toArray⟩ :: c1 :: c2 :: c3 :: c4 :: .slice (some ⟨ob, 0, none⟩) N oc :: .int .i64 (0 : Int) :: u7 :: u8 :: c9 :: c10 :: c11 :: c12 :: c13 :: c14 :: c15 :: c16 :: c17 :: c18 :: c19 :: c20 :: u21 :: u22 :: u23 :: u24 :: u25 :: u26 :: u27 :: u28 :: u29 :: u30 :: u31 :: u32 :: u33 :: u34 :: u35 :: u36 :: u37 :: u38 :: u39 :: u40 :: u41 :: u42 :: u43 :: u44 :: u45 :: c46 :: c47 :: c48 :: c49 :: c50 :: c51 :: c52 :: c53 :: c54 :: c55 :: c56 :: c57 :: c58 :: c59 :: c60 :: c61 :: c62 :: c63 :: c64 :: c65 :: c66 :: c67 :: c68 :: c69 :: c70 :: c71 :: c72 :: c73 :: c74 :: c75 :: c76 :: c77 :: c78 :: c79 :: c80 :: c81 :: c82 :: c83 :: c84 :: c85 :: c86 :: c87 :: c88 :: c89 :: c90 :: c91 :: c92 :: c93 :: c94 :: c95 :: c96 :: c97 :: c98 :: c99 :: c100 :: c101 :: c102 :: c103 :: c104 :: []), []⟩ W0 := by
 have hz : (⟨t.toArray⟩ : ByteArray).size = t.length := by show t.toArray.size = _; simp
 conv => arg 2; arg 1; whnf
 go_loopw [6] (fun iv wr => ∃ i : Nat, i ≤ t.length ∧ iv = .int .i64 (i : Int) ∧ Hid (BitR w wr ob oc N (fun p => decide (p < 8 * i) && msgB t p))) (fun iv _ => t.length - (intOf iv).toNat)
 case atStart => exact ⟨0, Nat.zero_le _, rfl, Lib.hid (HR0.out.ext fun p _ => by simp)⟩
 case round =>
  clear HR0
  obtain ⟨i, hi, rfl, HR⟩ := hrel
  by_cases hin : i < t.length
  ·have q0 : decide ((i : Int) < (t.length : Int)) = true := decide_eq_true (by omega)
   obtain ⟨b, hb⟩ : ∃ b, t[i]? = some b := ⟨t[i]'hin, List.getElem?_eq_getElem _⟩
   have HXN : Hid (b.toNat = (t.getD i 0).toNat) := by show _ = _; rw [List.getD_eq_getElem?_getD, hb]; rfl
   have hb8 := b.toNat_lt
   obtain ⟨X, hX⟩ : ∃ X : Nat, b.toNat = X := ⟨_, rfl⟩
   have hXw : (X : Int) % 256 = (X : Int) := by omega
   have hXi : IntKind.i64.wrap (X : Int) = (X : Int) := IntWalk.i64_in _ (by omega)
   have hbz : ∀ h, ((((⟨t.toArray⟩ : ByteArray)[i]'h).toNat : Nat) : Int) = (X : Int) := fun h => by
    have h1 := (List.getElem?_eq_some_iff.1 hb).2
    show ((t.toArray[i]).toNat : Int) = _
    rw [List.getElem_toArray, h1, hX]
   rw [hX] at HXN
   clear hb hb8 hX
   go_wp2_with fail
   refine rsum_k w wr ob oc N hN t i X hin HXN.out hn HR _ _ _ _ _ _ _ _ _ _ _ _ _ _ _ _ _ _ _ _ _ _ _ _ _ _ _ _ _ _ _ _ _ _ _ _ _ _ _ _ _ _ _ _ _ _ _ _ _ _ _ _ _ _ _ _ _ _ _ _ _ _ _ _ _ _ _ _ _ _ _ _ _ _ _ _ _ _ _ _ _ _ _ _ _ _ _ _ _ _ _ _ _ _ _ _ _ _ _ _ _ _ (fun c a a' w hd h => hQ0 c a a' w hd h) ?_
   clear HR
   intro W x7 x8 u31 u32 u33 u34 u35 u36 u37 u38 u39 u40 u41 u42 u43 u44 u45 HR
   go_wp2_with fail
   go_roundw
   case rel => exact ⟨i + 1, by omega, by go_num, HR⟩
   case measure => simp [intOf]; omega
  ·obtain rfl : i = t.length := by omega
   have q0 : decide ((t.length : Int) < (t.length : Int)) = false := decide_eq_false (by omega)
   have HRN : Hid (BitR w wr ob oc N (fun p => msgB t p)) := HR.out.ext fun p _ => by
    by_cases h : p < 8 * t.length
    ·rw [decide_eq_true h, Bool.true_and]
    ·rw [decide_eq_false h]
     unfold msgB
     rw [List.getD_eq_getElem?_getD, List.getElem?_eq_none (by omega)]
     simp
   go_wp2_with fail
   first
    | exact HRN
    | exact hexit wr _ _ _ _ _ _ _ _ _ _ _ _ _ _ _ _ _ _ _ _ _ _ _ _ _ _ _ _ HRN
theorem rsum_f (w W0 : World) (ob oc N : Nat) (hN : N ≤ 1099511627776) (h32 : 32 ≤ N) (f : Nat → Bool) (HR0 : Hid (BitR w W0 ob oc N f))
  (c0 c1 c2 c3 c4 c6 c7 c8 c10 c11 c12 c13 c14 c15 c16 c17 c18 c19 c20 c21 c22 c23 c24 c25 c26 c27 c28 c29 c30 c31 c32 c33 c34 c35 c36 c37 c38 c39 c40 c41 c42 c43 c44 c45 c58 c59 c60 c61 c62 c63 c64 c65 c66 c67 c68 c69 c70 c71 c72 c73 c74 c75 c76 c77 c78 c79 c80 c81 c82 c83 c84 c85 c86 c87 c88 c89 c90 c91 c92 c93 c94 c95 c96 c97 c98 c99 c100 c101 c102 c103 c104 u46 u47 u48 u49 u50 u51 u52 u53 u54 u55 u56 u57 : Value) (Q0 : Exit → Act → World → Prop) (hQ0 : ∀ c (a a' : Act) w, a.defers = a'.defers → Q0 (.panic c) a w → Q0 (.panic c) a' w)
  (hexit : ∀ (W : World) (x9 u46 u47 u48 u49 u50 u51 u52 u53 u54 u55 u56 u57 : Value), Hid (BitR w W ob oc N (fun p => (f p) ^^ (decide (p < 32)))) → Q0 (.exit 4) ⟨List.toArray (c0 :: c1 :: c2 :: c3 :: c4 :: .slice (some ⟨ob, 0, none⟩) N oc :: c6 :: c7 :: c8 :: x9 :: c10 :: c11 :: c12 :: c13 :: c14 :: c15 :: c16 :: c17 :: c18 :: c19 :: c20 :: c21 :: c22 :: c23 :: c24 :: c25 :: c26 :: c27 :: c28 :: c29 :: c30 :: c31 :: c32 :: c33 :: c34 :: c35 :: c36 :: c37 :: c38 :: c39 :: c40 :: c41 :: c42 :: c43 :: c44 :: c45 :: u46 :: u47 :: u48 :: u49 :: u50 :: u51 :: u52 :: u53 :: u54 :: u55 :: u56 :: u57 :: c58 :: c59 :: c60 :: c61 :: c62 :: c63 :: c64 :: c65 :: c66 :: c67 :: c68 :: c69 :: c70 :: c71 :: c72 :: c73 :: c74 :: c75 :: c76 :: c77 :: c78 :: c79 :: c80 :: c81 :: c82 :: c83 :: c84 :: c85 :: c86 :: c87 :: c88 :: c89 :: c90 :: c91 :: c92 :: c93 :: c94 :: c95 :: c96 :: c97 :: c98 :: c99 :: c100 :: c101 :: c102 :: c103 :: c104 :: []), []⟩ W) :
  Code.wp Tryz.prog (.loop (loopOf Tryz.f72 2)) Q0 ⟨List.toArray (c0 :: c1 :: c2 :: c3 :: c4 :: .slice (some ⟨ob, 0, none⟩) N oc :: c6 :: c7 :: c8 :: .int .i64 (0 : Int) :: c10 :: c11 :: c12 :: c13 :: c14 :: c15 :: c16 :: c17 :: c18 :: c19 :: c20 :: c21 :: c22 :: c23 :: c24 :: c25 :: c26 :: c27 :: c28 :: c29 :: c30 :: c31 :: c32 :: c33 :: c34 :: c35 :: c36 :: c37 :: c38 :: c39 :: c40 :: c41 :: c42 :: c43 :: c44 :: c45 :: u46 :: u47 :: u48 :: u49 :: u50 :: u51 :: u52 :: u53 :: u54 :: u55 :: u56 :: u57 :: c58 :: c59 :: c60 :: c61 :: c62 :: c63 :: c64 :: c65 :: c66 :: c67 :: c68 :: c69 :: c70 :: c71 :: c72 :: c73 :: c74 :: c75 :: c76 :: c77 :: c78 :: c79 :: c80 :: c81 :: c82 :: c83 :: c84 :: c85 :: c86 :: c87 :: c88 :: c89 :: c90 :: c91 :: c92 :: c93 :: c94 :: c95 :: c96 :: c97 :: c98 :: c99 :: c100 :: c101 :: c102 :: c103 :: c104 :: []), []⟩ W0 := by
 conv => arg 2; arg 1; whnf
 go_loopw [9] (fun iv wr => ∃ i : Nat, i ≤ 32 ∧ iv = .int .i64 (i : Int) ∧ Hid (BitR w wr ob oc N (fun p => (f p) ^^ (decide (p < i))))) (fun iv _ => 32 - (intOf iv).toNat)
 case atStart => exact ⟨0, Nat.zero_le _, rfl, Lib.hid (HR0.out.ext fun p _ => by simp)⟩
 case round =>
  clear HR0
  obtain ⟨i, hi, rfl, HR⟩ := hrel
  by_cases hin : i < 32
  ·have q0 : decide ((i : Int) < 32) = true := decide_eq_true (by omega)
   have hcap := HR.out.cap
   have o1 := HR.out.get (p := i) (by omega)
   rw [decide_eq_false (by omega), Bool.xor_false] at o1
   have HS := Lib.hid (HR.out.set i (!f i))
   have hfz := HS.out.2.1
   have hob := HS.out.2.2
   have HRN : Hid (BitR w (wr.setCell ⟨ob, i, none⟩ (.bool (!f i))) ob oc N (fun p => (f p) ^^ (decide (p < i + 1)))) := HS.out.1.ext fun p hp => by
    by_cases e : p = i
    ·rw [if_pos e, e, decide_eq_true (by omega), Bool.xor_true]
    ·rw [if_neg e]
     congr 1
     by_cases h : p < i
     ·rw [decide_eq_true h, decide_eq_true (by omega)]
     ·rw [decide_eq_false h, decide_eq_false (by omega)]
   have i2 : (i : Int) < (N : Int) := by omega
   generalize f i = fi at *
   clear HS HR hexit
   go_wp2_with fail
   go_roundw
   case rel => exact ⟨i + 1, by omega, by go_num, HRN⟩
   case measure => simp [intOf]; omega
  ·obtain rfl : i = 32 := by omega
   have q0 : decide (((32 : Nat) : Int) < 32) = false := rfl
   go_wp2_with fail
   first
    | exact HR
    | exact hexit wr _ _ _ _ _ _ _ _ _ _ _ _ _ HR
def OnesAt (w : World) (ow : Nat) : Prop := ∀ W, Below w.heap.size w W → ∀ (k o : Nat), onesL[k]? = some o → W.cell? ⟨ow, k, none⟩ = some (.int .i64 (o : Int))
def midF (f : Nat → Bool) (i k : Nat) : Nat → Bool := fun p => (f p) ^^ ((onesL.take k).any fun o => i + o == p)
theorem ones_ge : ∀ o ∈ onesL, 1 ≤ o ∧ o ≤ 32 := by decide
theorem midF_at (f : Nat → Bool) (i k : Nat) : midF f i k i = f i := by
 unfold midF
 have : ((onesL.take k).any fun o => i + o == i) = false := by
  rw [List.any_eq_false]
  intro o ho
  have := (ones_ge o (List.mem_of_mem_take ho)).1
  simp
  omega
 rw [this, Bool.xor_false]
theorem onesL_nodup : ∀ k < 14, ∀ o, onesL[k]? = some o → o ∉ onesL.take k := by decide
theorem midF_next (f : Nat → Bool) (i k o : Nat) (ho : onesL[k]? = some o) (p : Nat) : midF f i (k + 1) p = if p = i + o then !midF f i k (i + o) else midF f i k p := by
 have hk : k < 14 := (List.getElem?_eq_some_iff.1 ho).1
 have hnd := onesL_nodup k hk o ho
 unfold midF
 rw [List.take_add_one, ho]
 simp only [Option.toList_some, List.any_append, List.any_cons, List.any_nil, Bool.or_false]
 by_cases e : p = i + o
 ·rw [if_pos e, e]
  have : ((onesL.take k).any fun o' => i + o' == i + o) = false := by
   rw [List.any_eq_false]
   intro o' ho'
   have : o' ≠ o := fun e => hnd (e ▸ ho')
   simp
   omega
  rw [this]
  simp
 ·rw [if_neg e]
  have : (i + o == p) = false := by simp; omega
  rw [this, Bool.or_false]
theorem step_mid (f : Nat → Bool) (i : Nat) (h : f i = true) (p : Nat) : midF f i 14 p = stepF f i p := by
 unfold midF stepF
 rw [h, Bool.true_and]
 rfl
theorem step_not (f : Nat → Bool) (i : Nat) (h : f i = false) (p : Nat) : f p = stepF f i p := by
 unfold stepF
 rw [h, Bool.false_and, Bool.xor_false]
theorem rsum_q (w W0 : World) (ob oc N : Nat) (hN : N ≤ 1099511627776) (ow : Nat) (HON : Hid (OnesAt w ow)) (how : ow < w.heap.size) (f : Nat → Bool) (i : Nat) (hi : i + 32 < N) (HR0 : Hid (BitR w W0 ob oc N f))
  (c0 c1 c2 c4 c6 c7 c8 c9 c12 c13 c14 c15 c16 c17 c18 c19 c20 c21 c22 c23 c24 c25 c26 c27 c28 c29 c30 c31 c32 c33 c34 c35 c36 c37 c38 c39 c40 c41 c42 c43 c44 c45 c46 c47 c48 c49 c50 c51 c52 c53 c54 c55 c56 c57 c58 c59 c60 c61 c62 c89 c90 c91 c92 c93 c94 c95 c96 c97 c98 c99 c100 c101 c102 c103 c104 u63 u64 u65 u66 u67 u68 u69 u70 u71 u72 u73 u74 u75 u76 u77 u78 u79 u80 u81 u82 u83 u84 u85 u86 u87 u88 : Value) (Q0 : Exit → Act → World → Prop) (hQ0 : ∀ c (a a' : Act) w, a.defers = a'.defers → Q0 (.panic c) a w → Q0 (.panic c) a' w)
  (hexit : ∀ (W : World) (x11 u63 u64 u65 u66 u67 u68 u69 u70 u71 u72 u73 u74 u75 u76 u77 u78 u79 u80 u81 u82 u83 u84 u85 u86 u87 u88 : Value), Hid (BitR w W ob oc N (stepF f i)) → Q0 (.exit 8) ⟨List.toArray (c0 :: c1 :: c2 :: .pointer (some ⟨ow, 0, none⟩) :: c4 :: .slice (some ⟨ob, 0, none⟩) N oc :: c6 :: c7 :: c8 :: c9 :: .int .i64 (i : Int) :: x11 :: c12 :: c13 :: c14 :: c15 :: c16 :: c17 :: c18 :: c19 :: c20 :: c21 :: c22 :: c23 :: c24 :: c25 :: c26 :: c27 :: c28 :: c29 :: c30 :: c31 :: c32 :: c33 :: c34 :: c35 :: c36 :: c37 :: c38 :: c39 :: c40 :: c41 :: c42 :: c43 :: c44 :: c45 :: c46 :: c47 :: c48 :: c49 :: c50 :: c51 :: c52 :: c53 :: c54 :: c55 :: c56 :: c57 :: c58 :: c59 :: c60 :: c61 :: c62 :: u63 :: u64 :: u65 :: u66 :: u67 :: u68 :: u69 :: u70 :: u71 :: u72 :: u73 :: u74 :: u75 :: u76 :: u77 :: u78 :: u79 :: u80 :: u81 :: u82 :: u83 :: u84 :: u85 :: u86 :: u87 :: u88 :: c89 :: c90 :: c91 :: c92 :: c93 :: c94 :: c95 :: c96 :: c97 :: c98 :: c99 :: c100 :: c101 :: c102 :: c103 :: c104 :: []), []⟩ W) :
  Code.wp Tryz.prog (.loop (loopOf Tryz.f72 4)) Q0 ⟨List.toArray (c0 :: c1 :: c2 :: .pointer (some ⟨ow, 0, none⟩) :: c4 :: .slice (some ⟨ob, 0, none⟩) N oc :: c6 :: c7 :: c8 :: c9 :: .int .i64 (i : Int) :: .int .i64 (0 : Int) :: c12 :: c13 :: c14 :: c15 :: c16 :: c17 :: c18 :: c19 :: c20 :: c21 :: c22 :: c23 :: c24 :: c25 :: c26 :: c27 :: c28 :: c29 :: c30 :: c31 :: c32 :: c33 :: c34 :: c35 :: c36 :: c37 :: c38 :: c39 :: c40 :: c41 :: c42 :: c43 :: c44 :: c45 :: c46 :: c47 :: c48 :: c49 :: c50 :: c51 :: c52 :: c53 :: c54 :: c55 :: c56 :: c57 :: c58 :: c59 :: c60 :: c61 :: c62 :: u63 :: u64 :: u65 :: u66 :: u67 :: u68 :: u69 :: u70 :: u71 :: u72 :: u73 :: u74 :: u75 :: u76 :: u77 :: u78 :: u79 :: u80 :: u81 :: u82 :: u83 :: u84 :: u85 :: u86 :: u87 :: u88 :: c89 :: c90 :: c91 :: c92 :: c93 :: c94 :: c95 :: c96 :: c97 :: c98 :: c99 :: c100 :: c101 :: c102 :: c103 :: c104 :: []), []⟩ W0 := by
 conv => arg 2; arg 1; whnf
 go_loopw [11] (fun kv wr => ∃ k : Nat, k ≤ 14 ∧ (f i = false → k = 0) ∧ kv = .int .i64 (k : Int) ∧ Hid (BitR w wr ob oc N (midF f i k))) (fun kv _ => 14 - (intOf kv).toNat)
 case atStart => exact ⟨0, Nat.zero_le _, fun _ => rfl, rfl, Lib.hid (HR0.out.ext fun p _ => by simp [midF])⟩
 case round =>
  clear HR0
  obtain ⟨k, hk, hk0, rfl, HR⟩ := hrel
  have hcap := HR.out.cap
  by_cases hin : k < 14
  ·have q0 : decide ((k : Int) < 14) = true := decide_eq_true (by omega)
   have o1 := HR.out.get (p := i) (by omega)
   rw [midF_at] at o1
   cases hfi : f i
   ·have HRN : Hid (BitR w wr ob oc N (stepF f i)) := HR.out.ext fun p _ => by
     rw [← step_not f i hfi, hk0 hfi]
     simp [midF]
    rw [hfi] at o1
    clear hk0 HR hfi
    go_wp2_with fail
    first
     | exact HRN
     | exact hexit wr _ _ _ _ _ _ _ _ _ _ _ _ _ _ _ _ _ _ _ _ _ _ _ _ _ _ _ HRN
   ·obtain ⟨o, ho⟩ : ∃ o, onesL[k]? = some o := ⟨onesL[k]'hin, List.getElem?_eq_getElem _⟩
    have hol := ones_ge o (List.mem_of_getElem? ho)
    have n0 := HON.out wr HR.out.bel k o ho
    have o2 := HR.out.get (p := i + o) (by omega)
    have HS := Lib.hid ((HR.out.keep (brefl wr).drew).set (i + o) (!midF f i k (i + o)))
    have hfz := HS.out.2.1
    have hob := HS.out.2.2
    have HRN : Hid (BitR w (wr.drew.setCell ⟨ob, i + o, none⟩ (.bool (!midF f i k (i + o)))) ob oc N (midF f i (k + 1))) := HS.out.1.ext fun p hp => (midF_next f i k o ho p).symm
    have HFI := Lib.hid hfi
    rw [hfi] at o1
    have w1 : IntKind.i64.wrap ((i : Int) + (o : Int)) = (i : Int) + (o : Int) := IntWalk.i64_in _ (by omega)
    have i1 : (0 : Int) ≤ (i : Int) + (o : Int) := by omega
    have i2 : (i : Int) + (o : Int) < (N : Int) := by omega
    have i3 : ((i : Int) + (o : Int)).toNat = i + o := by omega
    have i4 : (i : Int) < (N : Int) := by omega
    have i5 : (k : Int) < 14 := by omega
    have hlow := how
    generalize midF f i k (i + o) = fi at *
    clear HS HR hexit hk0 hfi ho
    have o1q : wr.drew.cell? ⟨ob, i, none⟩ = some (.bool true) := o1
    have o2q : wr.drew.cell? ⟨ob, i + o, none⟩ = some (.bool fi) := o2
    have n0q : wr.drew.cell? ⟨ow, k, none⟩ = some (.int .i64 (o : Int)) := n0
    go_wp2_with fail
    go_still_tail 16, (by kernel_rfl)
    change wpList _ _ _ _ _ wr.drew
    generalize wr.drew = W2 at *
    go_wp2_with fail
    go_roundw
    case rel =>
     refine ⟨k + 1, by omega, ?_, by go_num, HRN⟩
     intro h
     cases h
    case measure => simp [intOf]; omega
  ·obtain rfl : k = 14 := by omega
   have q0 : decide (((14 : Nat) : Int) < 14) = false := rfl
   have hfi : f i = true := by
    cases h : f i
    ·have := hk0 h; omega
    ·rfl
   have HRN : Hid (BitR w wr ob oc N (stepF f i)) := HR.out.ext fun p _ => step_mid f i hfi p
   clear hk0 HR hfi
   go_wp2_with fail
   first
    | exact HRN
    | exact hexit wr _ _ _ _ _ _ _ _ _ _ _ _ _ _ _ _ _ _ _ _ _ _ _ _ _ _ _ HRN
theorem rsum_p (w W0 : World) (ob oc N : Nat) (hN : N ≤ 1099511627776) (n : Nat) (hn : n + 32 = N) (ow : Nat) (HON : Hid (OnesAt w ow)) (how : ow < w.heap.size) (f : Nat → Bool) (HR0 : Hid (BitR w W0 ob oc N f))
  (c0 c1 c2 c6 c7 c8 c9 c12 c13 c14 c15 c16 c17 c18 c19 c20 c21 c22 c23 c24 c25 c26 c27 c28 c29 c30 c31 c32 c33 c34 c35 c36 c37 c38 c39 c40 c41 c42 c43 c44 c45 c46 c47 c48 c49 c50 c51 c52 c53 c54 c55 c56 c57 c89 c90 c91 c92 c93 c94 c95 c96 c97 c98 c99 c100 c101 c102 c103 c104 u11 u58 u59 u60 u61 u62 u63 u64 u65 u66 u67 u68 u69 u70 u71 u72 u73 u74 u75 u76 u77 u78 u79 u80 u81 u82 u83 u84 u85 u86 u87 u88 : Value) (Q0 : Exit → Act → World → Prop) (hQ0 : ∀ c (a a' : Act) w, a.defers = a'.defers → Q0 (.panic c) a w → Q0 (.panic c) a' w)
  (hexit : ∀ (W : World) (x10 u11 u58 u59 u60 u61 u62 u63 u64 u65 u66 u67 u68 u69 u70 u71 u72 u73 u74 u75 u76 u77 u78 u79 u80 u81 u82 u83 u84 u85 u86 u87 u88 : Value), Hid (BitR w W ob oc N (runF f n)) → Q0 (.exit 6) ⟨List.toArray (c0 :: c1 :: c2 :: .pointer (some ⟨ow, 0, none⟩) :: .int .i64 (n : Int) :: .slice (some ⟨ob, 0, none⟩) N oc :: c6 :: c7 :: c8 :: c9 :: x10 :: u11 :: c12 :: c13 :: c14 :: c15 :: c16 :: c17 :: c18 :: c19 :: c20 :: c21 :: c22 :: c23 :: c24 :: c25 :: c26 :: c27 :: c28 :: c29 :: c30 :: c31 :: c32 :: c33 :: c34 :: c35 :: c36 :: c37 :: c38 :: c39 :: c40 :: c41 :: c42 :: c43 :: c44 :: c45 :: c46 :: c47 :: c48 :: c49 :: c50 :: c51 :: c52 :: c53 :: c54 :: c55 :: c56 :: c57 :: u58 :: u59 :: u60 :: u61 :: u62 :: u63 :: u64 :: u65 :: u66 :: u67 :: u68 :: u69 :: u70 :: u71 :: u72 :: u73 :: u74 :: u75 :: u76 :: u77 :: u78 :: u79 :: u80 :: u81 :: u82 :: u83 :: u84 :: u85 :: u86 :: u87 :: u88 :: c89 :: c90 :: c91 :: c92 :: c93 :: c94 :: c95 :: c96 :: c97 :: c98 :: c99 :: c100 :: c101 :: c102 :: c103 :: c104 :: []), []⟩ W) :
  Code.wp Tryz.prog (.loop (loopOf Tryz.f72 3)) Q0 ⟨List.toArray (c0 :: c1 :: c2 :: .pointer (some ⟨ow, 0, none⟩) :: .int .i64 (n : Int) :: .slice (some ⟨ob, 0, none⟩) N oc :: c6 :: c7 :: c8 :: c9 :: .int .i64 (0 : Int) :: u11 :: c12 :: c13 :: c14 :: c15 :: c16 :: c17 :: c18 :: c19 :: c20 :: c21 :: c22 :: c23 :: c24 :: c25 :: c26 :: c27 :: c28 :: c29 :: c30 :: c31 :: c32 :: c33 :: c34 :: c35 :: c36 :: c37 :: c38 :: c39 :: c40 :: c41 :: c42 :: c43 :: c44 :: c45 :: c46 :: c47 :: c48 :: c49 :: c50 :: c51 :: c52 :: c53 :: c54 :: c55 :: c56 :: c57 :: u58 :: u59 :: u60 :: u61 :: u62 :: u63 :: u64 :: u65 :: u66 :: u67 :: u68 :: u69 :: u70 :: u71 :: u72 :: u73 :: u74 :: u75 :: u76 :: u77 :: u78 :: u79 :: u80 :: u81 :: u82 :: u83 :: u84 :: u85 :: u86 :: u87 :: u88 :: c89 :: c90 :: c91 :: c92 :: c93 :: c94 :: c95 :: c96 :: c97 :: c98 :: c99 :: c100 :: c101 :: c102 :: c103 :: c104 :: []), []⟩ W0 := by
 conv => arg 2; arg 1; whnf
 go_loopw [10] (fun iv wr => ∃ i : Nat, i ≤ n ∧ iv = .int .i64 (i : Int) ∧ Hid (BitR w wr ob oc N (runF f i))) (fun iv _ => n - (intOf iv).toNat)
 case atStart => exact ⟨0, Nat.zero_le _, rfl, HR0⟩
 case round =>
  clear HR0
  obtain ⟨i, hi, rfl, HR⟩ := hrel
  by_cases hin : i < n
  ·have q0 : decide ((i : Int) < (n : Int)) = true := decide_eq_true (by omega)
   go_wp2_with fail
   refine rsum_q w wr ob oc N hN ow HON how (runF f i) i (by omega) HR _ _ _ _ _ _ _ _ _ _ _ _ _ _ _ _ _ _ _ _ _ _ _ _ _ _ _ _ _ _ _ _ _ _ _ _ _ _ _ _ _ _ _ _ _ _ _ _ _ _ _ _ _ _ _ _ _ _ _ _ _ _ _ _ _ _ _ _ _ _ _ _ _ _ _ _ _ _ _ _ _ _ _ _ _ _ _ _ _ _ _ _ _ _ _ _ _ _ _ _ _ _ (fun c a a' w hd h => hQ0 c a a' w hd h) ?_
   clear HR
   intro W x11 u63 u64 u65 u66 u67 u68 u69 u70 u71 u72 u73 u74 u75 u76 u77 u78 u79 u80 u81 u82 u83 u84 u85 u86 u87 u88 HR
   go_wp2_with fail
   go_roundw
   case rel => exact ⟨i + 1, by omega, by go_num, HR⟩
   case measure => simp [intOf]; omega
  ·obtain rfl : i = n := by omega
   have q0 : decide ((i : Int) < (i : Int)) = false := decide_eq_false (by omega)
   go_wp2_with fail
   first
    | exact HR
    | exact hexit wr _ _ _ _ _ _ _ _ _ _ _ _ _ _ _ _ _ _ _ _ _ _ _ _ _ _ _ _ _ _ _ _ _ HR
theorem finN_lt (f : Nat → Bool) (n : Nat) : ∀ m, finN f n m < 2 ^ m
 | 0 => by show 0 < 2 ^ 0; decide
 |
  m + 1 => by
  show 2 * finN f n m + _ < _
  have := finN_lt f n m
  rw [Nat.pow_succ]
  split <;> omega
theorem rsum_x (w W0 : World) (ob oc N : Nat) (hN : N ≤ 1099511627776) (n : Nat) (hn : n + 32 = N) (f : Nat → Bool) (HR0 : Hid (BitR w W0 ob oc N f))
  (c0 c1 c2 c3 c6 c7 c8 c9 c10 c11 c14 c15 c16 c17 c18 c19 c20 c21 c22 c23 c24 c25 c26 c27 c28 c29 c30 c31 c32 c33 c34 c35 c36 c37 c38 c39 c40 c41 c42 c43 c44 c45 c46 c47 c48 c49 c50 c51 c52 c53 c54 c55 c56 c57 c58 c59 c60 c61 c62 c63 c64 c65 c66 c67 c68 c69 c70 c71 c72 c73 c74 c75 c76 c77 c78 c79 c80 c81 c82 c83 c84 c85 c86 c87 c88 c104 u89 u90 u91 u92 u93 u94 u95 u96 u97 u98 u99 u100 u101 u102 u103 : Value) (Q0 : Exit → Act → World → Prop) (hQ0 : ∀ c (a a' : Act) w, a.defers = a'.defers → Q0 (.panic c) a w → Q0 (.panic c) a' w)
  (hexit : ∀ (x13 u89 u90 u91 u92 u93 u94 u95 u96 u97 u98 u99 u100 u101 u102 u103 : Value), Q0 (.exit 10) ⟨List.toArray (c0 :: c1 :: c2 :: c3 :: .int .i64 (n : Int) :: .slice (some ⟨ob, 0, none⟩) N oc :: c6 :: c7 :: c8 :: c9 :: c10 :: c11 :: .int .u32 (finN f n 32 : Int) :: x13 :: c14 :: c15 :: c16 :: c17 :: c18 :: c19 :: c20 :: c21 :: c22 :: c23 :: c24 :: c25 :: c26 :: c27 :: c28 :: c29 :: c30 :: c31 :: c32 :: c33 :: c34 :: c35 :: c36 :: c37 :: c38 :: c39 :: c40 :: c41 :: c42 :: c43 :: c44 :: c45 :: c46 :: c47 :: c48 :: c49 :: c50 :: c51 :: c52 :: c53 :: c54 :: c55 :: c56 :: c57 :: c58 :: c59 :: c60 :: c61 :: c62 :: c63 :: c64 :: c65 :: c66 :: c67 :: c68 :: c69 :: c70 :: c71 :: c72 :: c73 :: c74 :: c75 :: c76 :: c77 :: c78 :: c79 :: c80 :: c81 :: c82 :: c83 :: c84 :: c85 :: c86 :: c87 :: c88 :: u89 :: u90 :: u91 :: u92 :: u93 :: u94 :: u95 :: u96 :: u97 :: u98 :: u99 :: u100 :: u101 :: u102 :: u103 :: c104 :: []), []⟩ W0) :
  Code.wp Tryz.prog (.loop (loopOf Tryz.f72 5)) Q0 ⟨List.toArray (c0 :: c1 :: c2 :: c3 :: .int .i64 (n : Int) :: .slice (some ⟨ob, 0, none⟩) N oc :: c6 :: c7 :: c8 :: c9 :: c10 :: c11 :: .int .u32 (0 : Int) :: .int .i64 (31 : Int) :: c14 :: c15 :: c16 :: c17 :: c18 :: c19 :: c20 :: c21 :: c22 :: c23 :: c24 :: c25 :: c26 :: c27 :: c28 :: c29 :: c30 :: c31 :: c32 :: c33 :: c34 :: c35 :: c36 :: c37 :: c38 :: c39 :: c40 :: c41 :: c42 :: c43 :: c44 :: c45 :: c46 :: c47 :: c48 :: c49 :: c50 :: c51 :: c52 :: c53 :: c54 :: c55 :: c56 :: c57 :: c58 :: c59 :: c60 :: c61 :: c62 :: c63 :: c64 :: c65 :: c66 :: c67 :: c68 :: c69 :: c70 :: c71 :: c72 :: c73 :: c74 :: c75 :: c76 :: c77 :: c78 :: c79 :: c80 :: c81 :: c82 :: c83 :: c84 :: c85 :: c86 :: c87 :: c88 :: u89 :: u90 :: u91 :: u92 :: u93 :: u94 :: u95 :: u96 :: u97 :: u98 :: u99 :: u100 :: u101 :: u102 :: u103 :: c104 :: []), []⟩ W0 := by
 conv => arg 2; arg 1; whnf
 go_loopw [12, 13] (fun xv kv wr => ∃ m : Nat, m ≤ 32 ∧ xv = .int .u32 (finN f n m : Int) ∧ kv = .int .i64 (31 - (m : Int)) ∧ wr = W0) (fun _ kv _ => (intOf kv + 1).toNat)
 case atStart => exact ⟨0, Nat.zero_le _, rfl, rfl, rfl⟩
 case round =>
  obtain ⟨m, hm, rfl, rfl, rfl⟩ := hrel
  have hcap := HR0.out.cap
  by_cases hin : m < 32
  ·have q0 : decide (31 - (m : Int) ≥ 0) = true := decide_eq_true (by omega)
   have o1 := HR0.out.get (p := n + 31 - m) (by omega)
   have hfl := finN_lt f n m
   have hpw : 2 ^ m ≤ 2 ^ 31 := Nat.pow_le_pow_right (by decide) (by omega)
   have HFN : Hid (finN f n (m + 1) = 2 * finN f n m + if f (n + 31 - m) then 0 else 1) := rfl
   have hb0 : (f (n + 31 - m)) = f (n + 31 - m) := rfl
   generalize finN f n m = X at *
   have w1 : IntKind.i64.wrap ((n : Int) + (31 - (m : Int))) = ((n + 31 - m : Nat) : Int) := by rw [IntWalk.i64_in _ (by omega)]; omega
   have w2 : IntKind.u32.wrap (2 * (X : Int)) = ((2 * X : Nat) : Int) := by rw [IntKind.wrap_u32]; omega
   have w3 : IntKind.u32.wrap (((2 * X : Nat) : Int) + 1) = ((2 * X + 1 : Nat) : Int) := by rw [IntKind.wrap_u32]; omega
   have w4 : IntKind.i64.wrap (31 - (m : Int) - 1) = 31 - ((m + 1 : Nat) : Int) := by rw [IntWalk.i64_in _ (by omega)]; omega
   have i1 : (((n + 31 - m : Nat) : Int)) < (N : Int) := by omega
   obtain ⟨P, hP⟩ : ∃ P, n + 31 - m = P := ⟨_, rfl⟩
   rw [hP] at o1 w1 i1 HFN
   have hx31 : X < 2147483648 := Nat.lt_of_lt_of_le hfl hpw
   clear hP hb0 hfl hpw
   cases hf : f P
   ·rw [hf] at o1 HFN
    have HFN : Hid (finN f n (m + 1) = 2 * X + 1) := HFN
    clear hf hexit
    go_wp2_with fail
    go_roundw
    case rel => exact ⟨m + 1, by omega, by rw [HFN.out]; exact congrArg (Value.int .u32) (by omega), by go_num, trivial⟩
    case measure => simp [intOf]; omega
   ·rw [hf] at o1 HFN
    have HFN : Hid (finN f n (m + 1) = 2 * X) := HFN
    clear hf hexit
    go_wp2_with fail
    go_roundw
    case rel => exact ⟨m + 1, by omega, by rw [HFN.out]; exact congrArg (Value.int .u32) (by omega), by go_num, trivial⟩
    case measure => simp [intOf]; omega
  ·obtain rfl : m = 32 := by omega
   have q0 : decide (31 - ((32 : Nat) : Int) ≥ 0) = false := rfl
   go_wp2_with fail
   exact hexit _ _ _ _ _ _ _ _ _ _ _ _ _ _ _ _
def onesC : Array Value := #[.int .i64 6, .int .i64 9, .int .i64 10, .int .i64 16, .int .i64 20, .int .i64 21, .int .i64 22, .int .i64 24, .int .i64 25, .int .i64 27, .int .i64 28, .int .i64 30, .int .i64 31, .int .i64 32]
theorem ones_cells (k o : Nat) (ho : onesL[k]? = some o) : onesC[k]? = some (.int .i64 (o : Int)) := by
 have e : onesC = (onesL.map fun o => Value.int .i64 ((o : Nat) : Int)).toArray := rfl
 rw [e, List.getElem?_toArray, List.getElem?_map, ho]
 rfl
theorem ones_at (w : World) : OnesAt (w.alloc (.cells onesC 123)) w.heap.size := fun W hW k o ho => by
 have hk : k < 14 := (List.getElem?_eq_some_iff.1 ho).1
 rw [hW.cell (p := ⟨w.heap.size, k, none⟩) (by show w.heap.size < (w.heap.push _).size; rw [Array.size_push]; omega), cell_of_row _ _ _ _ _ _ (heap_alloc_new w _)]
 exact ones_cells k o ho
theorem rsum_any (w : World) (t : List UInt8) (ht : t.length ≤ 137438953000) :
  Calls Tryz.prog 72 #[.string ⟨t.toArray⟩] w fun e w' => e = .returned (.int .u32 (sumZ t)) ∧ Below w.heap.size w w' := by
 have hz : (⟨t.toArray⟩ : ByteArray).size = t.length := by show t.toArray.size = _; simp
 obtain ⟨n, hn⟩ : ∃ n, 8 * t.length = n := ⟨_, rfl⟩
 obtain ⟨N, hN⟩ : ∃ N, n + 32 = N := ⟨_, rfl⟩
 have w1 : IntKind.i64.wrap (8 * (t.length : Int)) = (n : Int) := by rw [IntWalk.i64_in _ (by omega)]; omega
 have w2 : IntKind.i64.wrap ((n : Int) + 32) = (N : Int) := by rw [IntWalk.i64_in _ (by omega)]; omega
 have hmk := fun W => make_bool N (by omega) W
 obtain ⟨W1, hW1⟩ : ∃ W1, w.alloc (.cells onesC 123) = W1 := ⟨_, rfl⟩
 have HW1 : Hid (w.alloc (.cells #[.int .i64 6, .int .i64 9, .int .i64 10, .int .i64 16, .int .i64 20, .int .i64 21, .int .i64 22, .int .i64 24, .int .i64 25, .int .i64 27, .int .i64 28, .int .i64 30, .int .i64 31, .int .i64 32] 123) = W1) := hW1
 have HON : Hid (OnesAt W1 w.heap.size) := by show OnesAt _ _; rw [← hW1]; exact ones_at w
 have HB1 : Hid (Below w.heap.size w W1 ∧ w.heap.size < W1.heap.size) := by show _ ∧ _; rw [← hW1]; exact ⟨bnew (brefl w) _, le_al' w _⟩
 have HNN := Lib.hid hn
 have HNM := Lib.hid hN
 have HS := Lib.hid (sum_same t)
 obtain ⟨W2, hW2⟩ : ∃ W2, W1.alloc (.cells (madeCells #[.bool false] N) 4) = W2 := ⟨_, rfl⟩
 have hs1 : W1.heap.size = w.heap.size + 1 := by rw [← hW1]; simp
 have HR : Hid (BitR W1 W2 (w.heap.size + 1) N N (fun _ => false)) := by
  show BitR _ _ _ _ _ _
  rw [← hW2, ← hs1]
  refine ⟨?_, bnew (brefl W1) _⟩
  have h1 := own_made W1 (.bool false) N (by omega) 4 rfl (Nat.le_refl _)
  have e : ((List.range N).map fun _ => Value.bool false) = List.replicate N (.bool false) := by
   rw [List.map_const', List.length_range]
  rw [e]
  exact h1
 have HW2 := Lib.hid hW2
 clear hW1 hW2 hn hN hs1
 go_enter Tryz.func72, Tryz.ntmps72
 go_wp2_with fail
 rw [HW1.out, HW2.out]
 have hb : ∀ (V : World) (f : Nat → Bool), BitR W1 V (w.heap.size + 1) N N f → Below w.heap.size w V := fun V f h => HB1.out.1.trans (h.bel.mono (Nat.le_of_lt HB1.out.2))
 have HBB := Lib.hid hb
 clear hb
 refine rsum_i W1 W2 (w.heap.size + 1) N N (by have := HNN.out; have := HNM.out; omega) t (by have := HNN.out; have := HNM.out; omega) HR _ _ _ _ _ _ _ _ _ _ _ _ _ _ _ _ _ _ _ _ _ _ _ _ _ _ _ _ _ _ _ _ _ _ _ _ _ _ _ _ _ _ _ _ _ _ _ _ _ _ _ _ _ _ _ _ _ _ _ _ _ _ _ _ _ _ _ _ _ _ _ _ _ _ _ _ _ _ _ _ _ _ _ _ _ _ _ _ _ _ _ _ _ _ _ _ _ _ _ _ _ _ _ (fun c a a' w hd h => by cases a; cases a'; cases hd; exact h) ?_
 clear HR HW2 HW1
 intro V1 x6 u7 u8 u21 u22 u23 u24 u25 u26 u27 u28 u29 u30 u31 u32 u33 u34 u35 u36 u37 u38 u39 u40 u41 u42 u43 u44 u45 HR
 go_wp2_with fail
 refine rsum_f W1 V1 (w.heap.size + 1) N N (by have := HNN.out; have := HNM.out; omega) (by have := HNM.out; omega) _ HR _ _ _ _ _ _ _ _ _ _ _ _ _ _ _ _ _ _ _ _ _ _ _ _ _ _ _ _ _ _ _ _ _ _ _ _ _ _ _ _ _ _ _ _ _ _ _ _ _ _ _ _ _ _ _ _ _ _ _ _ _ _ _ _ _ _ _ _ _ _ _ _ _ _ _ _ _ _ _ _ _ _ _ _ _ _ _ _ _ _ _ _ _ _ _ _ _ _ _ _ _ _ _ _ (fun c a a' w hd h => by cases a; cases a'; cases hd; exact h) ?_
 clear HR
 intro V2 x9 u46 u47 u48 u49 u50 u51 u52 u53 u54 u55 u56 u57 HR
 have HR : Hid (BitR W1 V2 (w.heap.size + 1) N N (begF t)) := HR
 go_wp2_with fail
 refine rsum_p W1 V2 (w.heap.size + 1) N N (by have := HNN.out; have := HNM.out; omega) n HNM.out w.heap.size HON HB1.out.2 _ HR _ _ _ _ _ _ _ _ _ _ _ _ _ _ _ _ _ _ _ _ _ _ _ _ _ _ _ _ _ _ _ _ _ _ _ _ _ _ _ _ _ _ _ _ _ _ _ _ _ _ _ _ _ _ _ _ _ _ _ _ _ _ _ _ _ _ _ _ _ _ _ _ _ _ _ _ _ _ _ _ _ _ _ _ _ _ _ _ _ _ _ _ _ _ _ _ _ _ _ _ _ _ (fun c a a' w hd h => by cases a; cases a'; cases hd; exact h) ?_
 clear HR
 intro V3 x10 u11 u58 u59 u60 u61 u62 u63 u64 u65 u66 u67 u68 u69 u70 u71 u72 u73 u74 u75 u76 u77 u78 u79 u80 u81 u82 u83 u84 u85 u86 u87 u88 HR
 go_wp2_with fail
 refine rsum_x W1 V3 (w.heap.size + 1) N N (by have := HNN.out; have := HNM.out; omega) n HNM.out _ HR _ _ _ _ _ _ _ _ _ _ _ _ _ _ _ _ _ _ _ _ _ _ _ _ _ _ _ _ _ _ _ _ _ _ _ _ _ _ _ _ _ _ _ _ _ _ _ _ _ _ _ _ _ _ _ _ _ _ _ _ _ _ _ _ _ _ _ _ _ _ _ _ _ _ _ _ _ _ _ _ _ _ _ _ _ _ _ _ _ _ _ _ _ _ _ _ _ _ _ _ _ _ (fun c a a' w hd h => by cases a; cases a'; cases hd; exact h) ?_
 intro x13 u89 u90 u91 u92 u93 u94 u95 u96 u97 u98 u99 u100 u101 u102 u103
 have HSF : Hid (((finN (runF (begF t) n) n 32 : Nat) : Int) = sumZ t) := by
  show _ = _
  rw [HS.out, HNN.out]
 rw [HSF.out]
 go_wp2_with fail
 go_ret
 exact ⟨rfl, HBB.out _ _ HR.out⟩
end Go.Proofs.YtkhemhiifhggmaaGreatDoor
