/- glossref02.Sum. -/
import Derived.Test.YtkhemhiifhggmaaGreatDoorHPt8
import Derived.Test.YtkhemhiifhggmaaGreatDoorHPt6
import Derived.Deep.OwnRows
import Derived.StillTailTactics
import Derived.Test.YtkhemhiifhggmaaGreatDoorHPt5
set_option maxRecDepth 100000
set_option maxHeartbeats 40000000
namespace Go.Proofs.YtkhemhiifhggmaaGreatDoor
open Go.RowKit
set_option linter.unusedVariables false
theorem le_al' (W : World) (o : Obj) : W.heap.size < (W.alloc o).heap.size := by
 show _ < (W.heap.push o).size
 rw [Array.size_push]
 omega
theorem made_list (z : Value) : ∀ n, (madeCells #[z] n).toList = List.replicate n z := by
 intro n
 apply List.ext_getElem?
 intro j
 by_cases hj : j < n
 ·simp [madeCells, hj, Nat.mod_one]
 ·simp [madeCells, hj]
theorem make_bool (n : Nat) (hn : n ≤ 1099511627776) (w : World) : (Instr.makeSlice 124 (.int .i64 (n : Int)) (.int .i64 (n : Int))).run Tryz.prog w = .ok (.slice (some ⟨w.heap.size, 0, none⟩) n n) (w.alloc (.cells (madeCells #[.bool false] n) 4)) :=
 run_make_row' 124 4 (.bool false) 1 Tryz.underlying124 (by kernel_rfl) rfl .i64 .i64 n (by omega) (by omega) w
theorem own_made (w : World) (z : Value) (n : Nat) (hn : n ≤ 1099511627776) (e : TypeId) {nb : Nat} (h : nb = w.heap.size) {base : Nat} (hb : base ≤ w.heap.size) : (w.alloc (.cells (madeCells #[z] n) e)).ownsRow base e 1 (.slice (some ⟨nb, 0, none⟩) n n) n (List.replicate n z) := by
 have hl := made_list z n
 have h1 := own_new w (madeCells #[z] n) e 1 n (by rw [← Array.length_toList, hl, List.length_replicate, Nat.mul_one]) (by unfold maxLen; omega) h hb
 rw [hl] at h1
 exact h1
theorem own_blk {W : World} {b e s n g c : Nat} {xs : List Value} (h : W.ownsRow b e s (.slice (some ⟨g, 0, none⟩) n c) n xs) : b ≤ g ∧ g < W.heap.size ∧ ∃ cs, W.heap[g]? = some (.cells cs e (0, 0)) := by
 rcases h.2 with ⟨hv, _⟩ | ⟨g', cap, cur, hv, hb, hg, _⟩
 ·cases hv
 ·injection hv with hv _ _
  injection hv with hv
  injection hv with hv _ _
  subst hv
  exact ⟨hb, (Array.getElem?_eq_some_iff.1 hg).1, _, hg⟩
theorem own_cell {W : World} {b e n g c j : Nat} {u : Value} {xs : List Value} (h : W.ownsRow b e 1 (.slice (some ⟨g, 0, none⟩) n c) n xs) (hu : xs[j]? = some u) : W.cell? ⟨g, j, none⟩ = some u := by
 have := h.cells (g := g) rfl j u hu
 rwa [Addr.add_lit, Nat.zero_add] at this
structure BitR (w W : World) (ob oc N : Nat) (f : Nat → Bool) : Prop where
 own : W.ownsRow w.heap.size 4 1 (.slice (some ⟨ob, 0, none⟩) N oc) N ((List.range N).map fun p => .bool (f p))
 bel : Below w.heap.size w W
section
variable {w W W' : World} {ob oc N : Nat} {f g : Nat → Bool}
theorem BitR.get (h : BitR w W ob oc N f) {p : Nat} (hp : p < N) : W.cell? ⟨ob, p, none⟩ = some (.bool (f p)) := own_cell h.own (by rw [List.getElem?_map, List.getElem?_range hp]; rfl)
theorem BitR.ext (h : BitR w W ob oc N f) (e : ∀ p, p < N → f p = g p) : BitR w W ob oc N g := by
 refine ⟨?_, h.bel⟩
 have : ((List.range N).map fun p => Value.bool (g p)) = (List.range N).map fun p => .bool (f p) := List.map_congr_left fun p hp => by rw [e p (List.mem_range.1 hp)]
 rw [this]
 exact h.own
theorem BitR.set (h : BitR w W ob oc N f) (t : Nat) (b : Bool) : BitR w (W.setCell ⟨ob, t, none⟩ (.bool b)) ob oc N (fun p => if p = t then b else f p) ∧ W.frozen? ⟨ob, t, none⟩ = false ∧ ob < W.heap.size := by
 obtain ⟨q1, q2, cs, q3⟩ := own_blk h.own
 refine ⟨⟨?_, below_set h.bel q1 (Nat.le_refl _)⟩, free_at q3 _, q2⟩
 have e : ((List.range N).map fun p => Value.bool (if p = t then b else f p)) = ((List.range N).map fun p => Value.bool (f p)).set t (.bool b) := by
  apply List.ext_getElem?
  intro k
  rw [List.getElem?_set, List.getElem?_map, List.getElem?_map, List.length_map, List.length_range]
  by_cases hk : k < N
  ·rw [List.getElem?_range hk]
   by_cases ht : t = k
   ·subst ht
    rw [if_pos rfl, if_pos hk]
    simp
   ·rw [if_neg ht]
    have : ¬ k = t := fun e => ht e.symm
    simp [this]
  ·have hn : (List.range N)[k]? = none := by simpa using hk
   rw [hn]
   by_cases ht : t = k
   ·subst ht
    rw [if_pos rfl, if_neg hk]
    rfl
   ·rw [if_neg ht]
    rfl
 rw [e]
 exact own_put h.own
theorem BitR.keep (h : BitR w W ob oc N f) (hb : Below W.heap.size W W') : BitR w W' ob oc N f := ⟨own_kept h.own hb, bcall h.bel hb⟩
theorem BitR.cap (h : BitR w W ob oc N f) : N ≤ oc := by
 obtain ⟨A1, c1, e1, h1⟩ := own_shape h.own
 injection e1 with _ _ e1
 omega
end
theorem mod2_bit (X : Nat) : (((X : Int) % 2 == 1) : Bool) = X.testBit 0 := by
 rw [Nat.testBit_zero]
 rcases Nat.mod_two_eq_zero_or_one X with e | e
 ·rw [show (X : Int) % 2 = 0 by omega, e]; rfl
 ·rw [show (X : Int) % 2 = 1 by omega, e]; rfl
theorem rsum_k (w W0 : World) (ob oc N : Nat) (hN : N ≤ 1099511627776) (t : List UInt8) (i X : Nat) (hi : i < t.length) (hX : X = (t.getD i 0).toNat) (hn : 8 * t.length ≤ N) (HR0 : Hid (BitR w W0 ob oc N (fun p => decide (p < 8 * i) && msgB t p)))
  (c0 c1 c2 c3 c4 c9 c10 c11 c12 c13 c14 c15 c16 c17 c18 c19 c20 c21 c22 c23 c24 c25 c26 c27 c28 c29 c30 c46 c47 c48 c49 c50 c51 c52 c53 c54 c55 c56 c57 c58 c59 c60 c61 c62 c63 c64 c65 c66 c67 c68 c69 c70 c71 c72 c73 c74 c75 c76 c77 c78 c79 c80 c81 c82 c83 c84 c85 c86 c87 c88 c89 c90 c91 c92 c93 c94 c95 c96 c97 c98 c99 c100 c101 c102 c103 c104 u31 u32 u33 u34 u35 u36 u37 u38 u39 u40 u41 u42 u43 u44 u45 : Value) (Q0 : Exit → Act → World → Prop) (hQ0 : ∀ c (a a' : Act) w, a.defers = a'.defers → Q0 (.panic c) a w → Q0 (.panic c) a' w)
  (hexit : ∀ (W : World) (x7 x8 u31 u32 u33 u34 u35 u36 u37 u38 u39 u40 u41 u42 u43 u44 u45 : Value), Hid (BitR w W ob oc N (fun p => decide (p < 8 * (i + 1)) && msgB t p)) → Q0 (.exit 2) ⟨List.toArray (c0 :: c1 :: c2 :: c3 :: c4 :: .slice (some ⟨ob, 0, none⟩) N oc :: .int .i64 (i : Int) :: x7 :: x8 :: c9 :: c10 :: c11 :: c12 :: c13 :: c14 :: c15 :: c16 :: c17 :: c18 :: c19 :: c20 :: c21 :: c22 :: c23 :: c24 :: c25 :: c26 :: c27 :: c28 :: c29 :: c30 :: u31 :: u32 :: u33 :: u34 :: u35 :: u36 :: u37 :: u38 :: u39 :: u40 :: u41 :: u42 :: u43 :: u44 :: u45 :: c46 :: c47 :: c48 :: c49 :: c50 :: c51 :: c52 :: c53 :: c54 :: c55 :: c56 :: c57 :: c58 :: c59 :: c60 :: c61 :: c62 :: c63 :: c64 :: c65 :: c66 :: c67 :: c68 :: c69 :: c70 :: c71 :: c72 :: c73 :: c74 :: c75 :: c76 :: c77 :: c78 :: c79 :: c80 :: c81 :: c82 :: c83 :: c84 :: c85 :: c86 :: c87 :: c88 :: c89 :: c90 :: c91 :: c92 :: c93 :: c94 :: c95 :: c96 :: c97 :: c98 :: c99 :: c100 :: c101 :: c102 :: c103 :: c104 :: []), []⟩ W) :
  Code.wp Tryz.prog (.loop (loopOf Tryz.f72 1)) Q0 ⟨List.toArray (c0 :: c1 :: c2 :: c3 :: c4 :: .slice (some ⟨ob, 0, none⟩) N oc :: .int .i64 (i : Int) :: .int .i64 (X : Int) :: .int .i64 (0 : Int) :: c9 :: c10 :: c11 :: c12 :: c13 :: c14 :: c15 :: c16 :: c17 :: c18 :: c19 :: c20 :: c21 :: c22 :: c23 :: c24 :: c25 :: c26 :: c27 :: c28 :: c29 :: c30 :: u31 :: u32 :: u33 :: u34 :: u35 :: u36 :: u37 :: u38 :: u39 :: u40 :: u41 :: u42 :: u43 :: u44 :: u45 :: c46 :: c47 :: c48 :: c49 :: c50 :: c51 :: c52 :: c53 :: c54 :: c55 :: c56 :: c57 :: c58 :: c59 :: c60 :: c61 :: c62 :: c63 :: c64 :: c65 :: c66 :: c67 :: c68 :: c69 :: c70 :: c71 :: c72 :: c73 :: c74 :: c75 :: c76 :: c77 :: c78 :: c79 :: c80 :: c81 :: c82 :: c83 :: c84 :: c85 :: c86 :: c87 :: c88 :: c89 :: c90 :: c91 :: c92 :: c93 :: c94 :: c95 :: c96 :: c97 :: c98 :: c99 :: c100 :: c101 :: c102 :: c103 :: c104 :: []), []⟩ W0 := by
 have hX8 : X < 256 := by rw [hX]; exact UInt8.toNat_lt _
 have HX := Lib.hid hX
 clear hX
 conv => arg 2; arg 1; whnf
 go_loopw [7, 8] (fun xv kv wr => ∃ k Y : Nat, k ≤ 8 ∧ xv = .int .i64 (Y : Int) ∧ kv = .int .i64 (k : Int) ∧ Hid (Y = X / 2 ^ k) ∧ Hid (BitR w wr ob oc N (fun p => decide (p < 8 * i + k) && msgB t p))) (fun _ kv _ => 8 - (intOf kv).toNat)
 case atStart => exact ⟨0, X, Nat.zero_le _, rfl, rfl, (by show _ = _; simp), HR0⟩
 case round =>
  clear HR0
  obtain ⟨k, Y, hk, rfl, rfl, HY, HR⟩ := hrel
  by_cases hk8 : k < 8
  ·have q0 : decide ((k : Int) < 8) = true := decide_eq_true (by omega)
   have hY8 : Y < 256 := by rw [HY.out]; exact Nat.lt_of_le_of_lt (Nat.div_le_self _ _) hX8
   have hpos : 8 * i + k < N := by omega
   have hcap := HR.out.cap
   have HS := Lib.hid (HR.out.set (8 * i + k) (Y.testBit 0))
   have hfz := HS.out.2.1
   have hob := HS.out.2.2
   have HRN : Hid (BitR w (wr.setCell ⟨ob, 8 * i + k, none⟩ (.bool (Y.testBit 0))) ob oc N (fun p => decide (p < 8 * i + (k + 1)) && msgB t p)) := HS.out.1.ext fun p hp => by
    by_cases e : p = 8 * i + k
    ·rw [if_pos e, e, decide_eq_true (by omega), Bool.true_and]
     unfold msgB
     rw [show (8 * i + k) / 8 = i by omega, show (8 * i + k) % 8 = k by omega, ← HX.out, HY.out, Nat.testBit_zero, Nat.testBit_eq_decide_div_mod_eq]
    ·rw [if_neg e]
     congr 1
     by_cases h : p < 8 * i + k
     ·rw [decide_eq_true h, decide_eq_true (by omega)]
     ·rw [decide_eq_false h, decide_eq_false (by omega)]
   have HYN : Hid (Y / 2 = X / 2 ^ (k + 1)) := by show _ = _; rw [HY.out, Nat.pow_succ, Nat.div_div_eq_div_mul]
   have w1 : IntKind.i64.wrap (8 * (i : Int)) = 8 * (i : Int) := IntWalk.i64_in _ (by omega)
   have w2 : IntKind.i64.wrap (8 * (i : Int) + (k : Int)) = 8 * (i : Int) + (k : Int) := IntWalk.i64_in _ (by omega)
   have t1 : Int.tmod (Y : Int) 2 = (Y : Int) % 2 := Int.tmod_eq_emod_of_nonneg (by omega)
   have t2 : Int.tdiv (Y : Int) 2 = ((Y / 2 : Nat) : Int) := by rw [Int.tdiv_eq_ediv_of_nonneg (by omega)]; omega
   have m1 := mod2_bit Y
   have i1 : (0 : Int) ≤ 8 * (i : Int) + (k : Int) := by omega
   have i2 : 8 * (i : Int) + (k : Int) < (N : Int) := by omega
   have i3 : (8 * (i : Int) + (k : Int)).toNat = 8 * i + k := by omega
   have o1 := HR.out.get hpos
   generalize Y.testBit 0 = yb at *
   generalize (decide (8 * i + k < 8 * i + k) && msgB t (8 * i + k)) = ob1 at o1
   clear HS HR hexit
   go_wp2_with fail
   go_roundw
   case rel => exact ⟨k + 1, Y / 2, by omega, by go_num, by go_num, HYN, HRN⟩
   case measure => simp [intOf]; omega
  ·obtain rfl : k = 8 := by omega
   have q0 : decide (((8 : Nat) : Int) < 8) = false := rfl
   have HRN : Hid (BitR w wr ob oc N (fun p => decide (p < 8 * (i + 1)) && msgB t p)) := HR
   go_wp2_with fail
   first
    | exact HRN
    | exact hexit wr _ _ _ _ _ _ _ _ _ _ _ _ _ _ _ _ _ HRN
theorem rsum_i (w W0 : World) (ob oc N : Nat) (hN : N ≤ 1099511627776) (t : List UInt8) (hn : 8 * t.length ≤ N) (HR0 : Hid (BitR w W0 ob oc N (fun _ => false)))
  (c1 c2 c3 c4 c9 c10 c11 c12 c13 c14 c15 c16 c17 c18 c19 c20 c46 c47 c48 c49 c50 c51 c52 c53 c54 c55 c56 c57 c58 c59 c60 c61 c62 c63 c64 c65 c66 c67 c68 c69 c70 c71 c72 c73 c74 c75 c76 c77 c78 c79 c80 c81 c82 c83 c84 c85 c86 c87 c88 c89 c90 c91 c92 c93 c94 c95 c96 c97 c98 c99 c100 c101 c102 c103 c104 u7 u8 u21 u22 u23 u24 u25 u26 u27 u28 u29 u30 u31 u32 u33 u34 u35 u36 u37 u38 u39 u40 u41 u42 u43 u44 u45 : Value) (Q0 : Exit → Act → World → Prop) (hQ0 : ∀ c (a a' : Act) w, a.defers = a'.defers → Q0 (.panic c) a w → Q0 (.panic c) a' w)
  (hexit : ∀ (W : World) (x6 u7 u8 u21 u22 u23 u24 u25 u26 u27 u28 u29 u30 u31 u32 u33 u34 u35 u36 u37 u38 u39 u40 u41 u42 u43 u44 u45 : Value), Hid (BitR w W ob oc N (fun p => msgB t p)) → Q0 (.exit 0) ⟨List.toArray (.string ⟨t.toArray⟩ :: c1 :: c2 :: c3 :: c4 :: .slice (some ⟨ob, 0, none⟩) N oc :: x6 :: u7 :: u8 :: c9 :: c10 :: c11 :: c12 :: c13 :: c14 :: c15 :: c16 :: c17 :: c18 :: c19 :: c20 :: u21 :: u22 :: u23 :: u24 :: u25 :: u26 :: u27 :: u28 :: u29 :: u30 :: u31 :: u32 :: u33 :: u34 :: u35 :: u36 :: u37 :: u38 :: u39 :: u40 :: u41 :: u42 :: u43 :: u44 :: u45 :: c46 :: c47 :: c48 :: c49 :: c50 :: c51 :: c52 :: c53 :: c54 :: c55 :: c56 :: c57 :: c58 :: c59 :: c60 :: c61 :: c62 :: c63 :: c64 :: c65 :: c66 :: c67 :: c68 :: c69 :: c70 :: c71 :: c72 :: c73 :: c74 :: c75 :: c76 :: c77 :: c78 :: c79 :: c80 :: c81 :: c82 :: c83 :: c84 :: c85 :: c86 :: c87 :: c88 :: c89 :: c90 :: c91 :: c92 :: c93 :: c94 :: c95 :: c96 :: c97 :: c98 :: c99 :: c100 :: c101 :: c102 :: c103 :: c104 :: []), []⟩ W) :
  Code.wp Tryz.prog (.loop (loopOf Tryz.f72 0)) Q0 ⟨List.toArray (.string ⟨t.toArray⟩ :: c1 :: c2 :: c3 :: c4 :: .slice (some ⟨ob, 0, none⟩) N oc :: .int .i64 (0 : Int) :: u7 :: u8 :: c9 :: c10 :: c11 :: c12 :: c13 :: c14 :: c15 :: c16 :: c17 :: c18 :: c19 :: c20 :: u21 :: u22 :: u23 :: u24 :: u25 :: u26 :: u27 :: u28 :: u29 :: u30 :: u31 :: u32 :: u33 :: u34 :: u35 :: u36 :: u37 :: u38 :: u39 :: u40 :: u41 :: u42 :: u43 :: u44 :: u45 :: c46 :: c47 :: c48 :: c49 :: c50 :: c51 :: c52 :: c53 :: c54 :: c55 :: c56 :: c57 :: c58 :: c59 :: c60 :: c61 :: c62 :: c63 :: c64 :: c65 :: c66 :: c67 :: c68 :: c69 :: c70 :: c71 :: c72 :: c73 :: c74 :: c75 :: c76 :: c77 :: c78 :: c79 :: c80 :: c81 :: c82 :: c83 :: c84 :: c85 :: c86 :: c87 :: c88 :: c89 :: c90 :: c91 :: c92 :: c93 :: c94 :: c95 :: c96 :: c97 :: c98 :: c99 :: c100 :: c101 :: c102 :: c103 :: c104 :: []), []⟩ W0 := by
 have hz : (⟨t.toArray⟩ : ByteArray).size = t.length := by show t.toArray.size = _; simp
 conv => arg 2; arg 1; whnf
 go_loopw [6] (fun iv wr => ∃ i : Nat, i ≤ t.length ∧ iv = .int .i64 (i : Int) ∧ Hid (BitR w wr ob oc N (fun p => decide (p < 8 * i) && msgB t p))) (fun iv _ => t.length - (intOf iv).toNat)
 case atStart => exact ⟨0, Nat.zero_le _, rfl, Lib.hid (HR0.out.ext fun p _ => by simp)⟩
 case round =>
  clear HR0
  obtain ⟨i, hi, rfl, HR⟩ := hrel
  by_cases hin : i < t.length
  ·have q0 : decide ((i : Int) < (t.length : Int)) = true := decide_eq_true (by omega)
   obtain ⟨b, hb⟩ : ∃ b, t[i]? = some b := ⟨t[i]'hin, List.getElem?_eq_getElem _⟩
   have HXN : Hid (b.toNat = (t.getD i 0).toNat) := by show _ = _; rw [List.getD_eq_getElem?_getD, hb]; rfl
   have hb8 := b.toNat_lt
   obtain ⟨X, hX⟩ : ∃ X : Nat, b.toNat = X := ⟨_, rfl⟩
   have hXw : (X : Int) % 256 = (X : Int) := by omega
   have hXi : IntKind.i64.wrap (X : Int) = (X : Int) := IntWalk.i64_in _ (by omega)
   have hbz : ∀ h, ((((⟨t.toArray⟩ : ByteArray)[i]'h).toNat : Nat) : Int) = (X : Int) := fun h => by
    have h1 := (List.getElem?_eq_some_iff.1 hb).2
    show ((t.toArray[i]).toNat : Int) = _
    rw [List.getElem_toArray, h1, hX]
   rw [hX] at HXN
   clear hb hb8 hX
   go_wp2_with fail
   refine rsum_k w wr ob oc N hN t i X hin HXN.out hn HR _ _ _ _ _ _ _ _ _ _ _ _ _ _ _ _ _ _ _ _ _ _ _ _ _ _ _ _ _ _ _ _ _ _ _ _ _ _ _ _ _ _ _ _ _ _ _ _ _ _ _ _ _ _ _ _ _ _ _ _ _ _ _ _ _ _ _ _ _ _ _ _ _ _ _ _ _ _ _ _ _ _ _ _ _ _ _ _ _ _ _ _ _ _ _ _ _ _ _ _ _ _ (fun c a a' w hd h => hQ0 c a a' w hd h) ?_
   clear HR
   intro W x7 x8 u31 u32 u33 u34 u35 u36 u37 u38 u39 u40 u41 u42 u43 u44 u45 HR
   go_wp2_with fail
   go_roundw
   case rel => exact ⟨i + 1, by omega, by go_num, HR⟩
   case measure => simp [intOf]; omega
  ·obtain rfl : i = t.length := by omega
   have q0 : decide ((t.length : Int) < (t.length : Int)) = false := decide_eq_false (by omega)
   have HRN : Hid (BitR w wr ob oc N (fun p => msgB t p)) := HR.out.ext fun p _ => by
    by_cases h : p < 8 * t.length
    ·rw [decide_eq_true h, Bool.true_and]
    ·rw [decide_eq_false h]
     unfold msgB
     rw [List.getD_eq_getElem?_getD, List.getElem?_eq_none (by omega)]
     simp
   go_wp2_with fail
   first
    | exact HRN
    | exact hexit wr _ _ _ _ _ _ _ _ _ _ _ _ _ _ _ _ _ _ _ _ _ _ _ _ _ _ _ _ HRN
theorem rsum_f (w W0 : World) (ob oc N : Nat) (hN : N ≤ 1099511627776) (h32 : 32 ≤ N) (f : Nat → Bool) (HR0 : Hid (BitR w W0 ob oc N f))
  (c0 c1 c2 c3 c4 c6 c7 c8 c10 c11 c12 c13 c14 c15 c16 c17 c18 c19 c20 c21 c22 c23 c24 c25 c26 c27 c28 c29 c30 c31 c32 c33 c34 c35 c36 c37 c38 c39 c40 c41 c42 c43 c44 c45 c58 c59 c60 c61 c62 c63 c64 c65 c66 c67 c68 c69 c70 c71 c72 c73 c74 c75 c76 c77 c78 c79 c80 c81 c82 c83 c84 c85 c86 c87 c88 c89 c90 c91 c92 c93 c94 c95 c96 c97 c98 c99 c100 c101 c102 c103 c104 u46 u47 u48 u49 u50 u51 u52 u53 u54 u55 u56 u57 : Value) (Q0 : Exit → Act → World → Prop) (hQ0 : ∀ c (a a' : Act) w, a.defers = a'.defers → Q0 (.panic c) a w → Q0 (.panic c) a' w)
  (hexit : ∀ (W : World) (x9 u46 u47 u48 u49 u50 u51 u52 u53 u54 u55 u56 u57 : Value), Hid (BitR w W ob oc N (fun p => (f p) ^^ (decide (p < 32)))) → Q0 (.exit 4) ⟨List.toArray (c0 :: c1 :: c2 :: c3 :: c4 :: .slice (some ⟨ob, 0, none⟩) N oc :: c6 :: c7 :: c8 :: x9 :: c10 :: c11 :: c12 :: c13 :: c14 :: c15 :: c16 :: c17 :: c18 :: c19 :: c20 :: c21 :: c22 :: c23 :: c24 :: c25 :: c26 :: c27 :: c28 :: c29 :: c30 :: c31 :: c32 :: c33 :: c34 :: c35 :: c36 :: c37 :: c38 :: c39 :: c40 :: c41 :: c42 :: c43 :: c44 :: c45 :: u46 :: u47 :: u48 :: u49 :: u50 :: u51 :: u52 :: u53 :: u54 :: u55 :: u56 :: u57 :: c58 :: c59 :: c60 :: c61 :: c62 :: c63 :: c64 :: c65 :: c66 :: c67 :: c68 :: c69 :: c70 :: c71 :: c72 :: c73 :: c74 :: c75 :: c76 :: c77 :: c78 :: c79 :: c80 :: c81 :: c82 :: c83 :: c84 :: c85 :: c86 :: c87 :: c88 :: c89 :: c90 :: c91 :: c92 :: c93 :: c94 :: c95 :: c96 :: c97 :: c98 :: c99 :: c100 :: c101 :: c102 :: c103 :: c104 :: []), []⟩ W) :
  Code.wp Tryz.prog (.loop (loopOf Tryz.f72 2)) Q0 ⟨List.toArray (c0 :: c1 :: c2 :: c3 :: c4 :: .slice (some ⟨ob, 0, none⟩) N oc :: c6 :: c7 :: c8 :: .int .i64 (0 : Int) :: c10 :: c11 :: c12 :: c13 :: c14 :: c15 :: c16 :: c17 :: c18 :: c19 :: c20 :: c21 :: c22 :: c23 :: c24 :: c25 :: c26 :: c27 :: c28 :: c29 :: c30 :: c31 :: c32 :: c33 :: c34 :: c35 :: c36 :: c37 :: c38 :: c39 :: c40 :: c41 :: c42 :: c43 :: c44 :: c45 :: u46 :: u47 :: u48 :: u49 :: u50 :: u51 :: u52 :: u53 :: u54 :: u55 :: u56 :: u57 :: c58 :: c59 :: c60 :: c61 :: c62 :: c63 :: c64 :: c65 :: c66 :: c67 :: c68 :: c69 :: c70 :: c71 :: c72 :: c73 :: c74 :: c75 :: c76 :: c77 :: c78 :: c79 :: c80 :: c81 :: c82 :: c83 :: c84 :: c85 :: c86 :: c87 :: c88 :: c89 :: c90 :: c91 :: c92 :: c93 :: c94 :: c95 :: c96 :: c97 :: c98 :: c99 :: c100 :: c101 :: c102 :: c103 :: c104 :: []), []⟩ W0 := by
 conv => arg 2; arg 1; whnf
 go_loopw [9] (fun iv wr => ∃ i : Nat, i ≤ 32 ∧ iv = .int .i64 (i : Int) ∧ Hid (BitR w wr ob oc N (fun p => (f p) ^^ (decide (p < i))))) (fun iv _ => 32 - (intOf iv).toNat)
 case atStart => exact ⟨0, Nat.zero_le _, rfl, Lib.hid (HR0.out.ext fun p _ => by simp)⟩
 case round =>
  clear HR0
  obtain ⟨i, hi, rfl, HR⟩ := hrel
  by_cases hin : i < 32
  ·have q0 : decide ((i : Int) < 32) = true := decide_eq_true (by omega)
   have hcap := HR.out.cap
   have o1 := HR.out.get (p := i) (by omega)
   rw [decide_eq_false (by omega), Bool.xor_false] at o1
   have HS := Lib.hid (HR.out.set i (!f i))
   have hfz := HS.out.2.1
   have hob := HS.out.2.2
   have HRN : Hid (BitR w (wr.setCell ⟨ob, i, none⟩ (.bool (!f i))) ob oc N (fun p => (f p) ^^ (decide (p < i + 1)))) := HS.out.1.ext fun p hp => by
    by_cases e : p = i
    ·rw [if_pos e, e, decide_eq_true (by omega), Bool.xor_true]
    ·rw [if_neg e]
     congr 1
     by_cases h : p < i
     ·rw [decide_eq_true h, decide_eq_true (by omega)]
     ·rw [decide_eq_false h, decide_eq_false (by omega)]
   have i2 : (i : Int) < (N : Int) := by omega
   generalize f i = fi at *
   clear HS HR hexit
   go_wp2_with fail
   go_roundw
   case rel => exact ⟨i + 1, by omega, by go_num, HRN⟩
   case measure => simp [intOf]; omega
  ·obtain rfl : i = 32 := by omega
   have q0 : decide (((32 : Nat) : Int) < 32) = false := rfl
   go_wp2_with fail
   first
    | exact HR
    | exact hexit wr _ _ _ _ _ _ _ _ _ _ _ _ _ HR
def OnesAt (w : World) (ow : Nat) : Prop := ∀ W, Below w.heap.size w W → ∀ (k o : Nat), onesL[k]? = some o → W.cell? ⟨ow, k, none⟩ = some (.int .i64 (o : Int))
def midF (f : Nat → Bool) (i k : Nat) : Nat → Bool := fun p => (f p) ^^ ((onesL.take k).any fun o => i + o == p)
theorem ones_ge : ∀ o ∈ onesL, 1 ≤ o ∧ o ≤ 32 := by decide
theorem midF_at (f : Nat → Bool) (i k : Nat) : midF f i k i = f i := by
 unfold midF
 have : ((onesL.take k).any fun o => i + o == i) = false := by
  rw [List.any_eq_false]
  intro o ho
  have := (ones_ge o (List.mem_of_mem_take ho)).1
  simp
  omega
 rw [this, Bool.xor_false]
theorem onesL_nodup : ∀ k < 14, ∀ o, onesL[k]? = some o → o ∉ onesL.take k := by decide
theorem midF_next (f : Nat → Bool) (i k o : Nat) (ho : onesL[k]? = some o) (p : Nat) : midF f i (k + 1) p = if p = i + o then !midF f i k (i + o) else midF f i k p := by
 have hk : k < 14 := (List.getElem?_eq_some_iff.1 ho).1
 have hnd := onesL_nodup k hk o ho
 unfold midF
 rw [List.take_add_one, ho]
 simp only [Option.toList_some, List.any_append, List.any_cons, List.any_nil, Bool.or_false]
 by_cases e : p = i + o
 ·rw [if_pos e, e]
  have : ((onesL.take k).any fun o' => i + o' == i + o) = false := by
   rw [List.any_eq_false]
   intro o' ho'
   have : o' ≠ o := fun e => hnd (e ▸ ho')
   simp
   omega
  rw [this]
  simp
 ·rw [if_neg e]
  have : (i + o == p) = false := by simp; omega
  rw [this, Bool.or_false]
theorem step_mid (f : Nat → Bool) (i : Nat) (h : f i = true) (p : Nat) : midF f i 14 p = stepF f i p := by
 unfold midF stepF
 rw [h, Bool.true_and]
 rfl
theorem step_not (f : Nat → Bool) (i : Nat) (h : f i = false) (p : Nat) : f p = stepF f i p := by
 unfold stepF
 rw [h, Bool.false_and, Bool.xor_false]
theorem rsum_q (w W0 : World) (ob oc N : Nat) (hN : N ≤ 1099511627776) (ow : Nat) (HON : Hid (OnesAt w ow)) (how : ow < w.heap.size) (f : Nat → Bool) (i : Nat) (hi : i + 32 < N) (HR0 : Hid (BitR w W0 ob oc N f))
  (c0 c1 c2 c4 c6 c7 c8 c9 c12 c13 c14 c15 c16 c17 c18 c19 c20 c21 c22 c23 c24 c25 c26 c27 c28 c29 c30 c31 c32 c33 c34 c35 c36 c37 c38 c39 c40 c41 c42 c43 c44 c45 c46 c47 c48 c49 c50 c51 c52 c53 c54 c55 c56 c57 c58 c59 c60 c61 c62 c89 c90 c91 c92 c93 c94 c95 c96 c97 c98 c99 c100 c101 c102 c103 c104 u63 u64 u65 u66 u67 u68 u69 u70 u71 u72 u73 u74 u75 u76 u77 u78 u79 u80 u81 u82 u83 u84 u85 u86 u87 u88 : Value) (Q0 : Exit → Act → World → Prop) (hQ0 : ∀ c (a a' : Act) w, a.defers = a'.defers → Q0 (.panic c) a w → Q0 (.panic c) a' w)
  (hexit : ∀ (W : World) (x11 u63 u64 u65 u66 u67 u68 u69 u70 u71 u72 u73 u74 u75 u76 u77 u78 u79 u80 u81 u82 u83 u84 u85 u86 u87 u88 : Value), Hid (BitR w W ob oc N (stepF f i)) → Q0 (.exit 8) ⟨List.toArray (c0 :: c1 :: c2 :: .pointer (some ⟨ow, 0, none⟩) :: c4 :: .slice (some ⟨ob, 0, none⟩) N oc :: c6 :: c7 :: c8 :: c9 :: .int .i64 (i : Int) :: x11 :: c12 :: c13 :: c14 :: c15 :: c16 :: c17 :: c18 :: c19 :: c20 :: c21 :: c22 :: c23 :: c24 :: c25 :: c26 :: c27 :: c28 :: c29 :: c30 :: c31 :: c32 :: c33 :: c34 :: c35 :: c36 :: c37 :: c38 :: c39 :: c40 :: c41 :: c42 :: c43 :: c44 :: c45 :: c46 :: c47 :: c48 :: c49 :: c50 :: c51 :: c52 :: c53 :: c54 :: c55 :: c56 :: c57 :: c58 :: c59 :: c60 :: c61 :: c62 :: u63 :: u64 :: u65 :: u66 :: u67 :: u68 :: u69 :: u70 :: u71 :: u72 :: u73 :: u74 :: u75 :: u76 :: u77 :: u78 :: u79 :: u80 :: u81 :: u82 :: u83 :: u84 :: u85 :: u86 :: u87 :: u88 :: c89 :: c90 :: c91 :: c92 :: c93 :: c94 :: c95 :: c96 :: c97 :: c98 :: c99 :: c100 :: c101 :: c102 :: c103 :: c104 :: []), []⟩ W) :
  Code.wp Tryz.prog (.loop (loopOf Tryz.f72 4)) Q0 ⟨List.toArray (c0 :: c1 :: c2 :: .pointer (some ⟨ow, 0, none⟩) :: c4 :: .slice (some ⟨ob, 0, none⟩) N oc :: c6 :: c7 :: c8 :: c9 :: .int .i64 (i : Int) :: .int .i64 (0 : Int) :: c12 :: c13 :: c14 :: c15 :: c16 :: c17 :: c18 :: c19 :: c20 :: c21 :: c22 :: c23 :: c24 :: c25 :: c26 :: c27 :: c28 :: c29 :: c30 :: c31 :: c32 :: c33 :: c34 :: c35 :: c36 :: c37 :: c38 :: c39 :: c40 :: c41 :: c42 :: c43 :: c44 :: c45 :: c46 :: c47 :: c48 :: c49 :: c50 :: c51 :: c52 :: c53 :: c54 :: c55 :: c56 :: c57 :: c58 :: c59 :: c60 :: c61 :: c62 :: u63 :: u64 :: u65 :: u66 :: u67 :: u68 :: u69 :: u70 :: u71 :: u72 :: u73 :: u74 :: u75 :: u76 :: u77 :: u78 :: u79 :: u80 :: u81 :: u82 :: u83 :: u84 :: u85 :: u86 :: u87 :: u88 :: c89 :: c90 :: c91 :: c92 :: c93 :: c94 :: c95 :: c96 :: c97 :: c98 :: c99 :: c100 :: c101 :: c102 :: c103 :: c104 :: []), []⟩ W0 := by
 conv => arg 2; arg 1; whnf
 go_loopw [11] (fun kv wr => ∃ k : Nat, k ≤ 14 ∧ (f i = false → k = 0) ∧ kv = .int .i64 (k : Int) ∧ Hid (BitR w wr ob oc N (midF f i k))) (fun kv _ => 14 - (intOf kv).toNat)
 case atStart => exact ⟨0, Nat.zero_le _, fun _ => rfl, rfl, Lib.hid (HR0.out.ext fun p _ => by simp [midF])⟩
 case round =>
  clear HR0
  obtain ⟨k, hk, hk0, rfl, HR⟩ := hrel
  have hcap := HR.out.cap
  by_cases hin : k < 14
  ·have q0 : decide ((k : Int) < 14) = true := decide_eq_true (by omega)
   have o1 := HR.out.get (p := i) (by omega)
   rw [midF_at] at o1
   cases hfi : f i
   ·have HRN : Hid (BitR w wr ob oc N (stepF f i)) := HR.out.ext fun p _ => by
     rw [← step_not f i hfi, hk0 hfi]
     simp [midF]
    rw [hfi] at o1
    clear hk0 HR hfi
    go_wp2_with fail
    first
     | exact HRN
     | exact hexit wr _ _ _ _ _ _ _ _ _ _ _ _ _ _ _ _ _ _ _ _ _ _ _ _ _ _ _ HRN
   ·obtain ⟨o, ho⟩ : ∃ o, onesL[k]? = some o := ⟨onesL[k]'hin, List.getElem?_eq_getElem _⟩
    have hol := ones_ge o (List.mem_of_getElem? ho)
    have n0 := HON.out wr HR.out.bel k o ho
    have o2 := HR.out.get (p := i + o) (by omega)
    have HS := Lib.hid ((HR.out.keep (brefl wr).drew).set (i + o) (!midF f i k (i + o)))
    have hfz := HS.out.2.1
    have hob := HS.out.2.2
    have HRN : Hid (BitR w (wr.drew.setCell ⟨ob, i + o, none⟩ (.bool (!midF f i k (i + o)))) ob oc N (midF f i (k + 1))) := HS.out.1.ext fun p hp => (midF_next f i k o ho p).symm
    have HFI := Lib.hid hfi
    rw [hfi] at o1
    have w1 : IntKind.i64.wrap ((i : Int) + (o : Int)) = (i : Int) + (o : Int) := IntWalk.i64_in _ (by omega)
    have i1 : (0 : Int) ≤ (i : Int) + (o : Int) := by omega
    have i2 : (i : Int) + (o : Int) < (N : Int) := by omega
    have i3 : ((i : Int) + (o : Int)).toNat = i + o := by omega
    have i4 : (i : Int) < (N : Int) := by omega
    have i5 : (k : Int) < 14 := by omega
    have hlow := how
    generalize midF f i k (i + o) = fi at *
    clear HS HR hexit hk0 hfi ho
    have o1q : wr.drew.cell? ⟨ob, i, none⟩ = some (.bool true) := o1
    have o2q : wr.drew.cell? ⟨ob, i + o, none⟩ = some (.bool fi) := o2
    have n0q : wr.drew.cell? ⟨ow, k, none⟩ = some (.int .i64 (o : Int)) := n0
    go_wp2_with fail
    go_still_tail 16, (by kernel_rfl)
    change wpList _ _ _ _ _ wr.drew
    generalize wr.drew = W2 at *
    go_wp2_with fail
    go_roundw
    case rel =>
     refine ⟨k + 1, by omega, ?_, by go_num, HRN⟩
     intro h
     cases h
    case measure => simp [intOf]; omega
  ·obtain rfl : k = 14 := by omega
   have q0 : decide (((14 : Nat) : Int) < 14) = false := rfl
   have hfi : f i = true := by
    cases h : f i
    ·have := hk0 h; omega
    ·rfl
   have HRN : Hid (BitR w wr ob oc N (stepF f i)) := HR.out.ext fun p _ => step_mid f i hfi p
   clear hk0 HR hfi
   go_wp2_with fail
   first
    | exact HRN
    | exact hexit wr _ _ _ _ _ _ _ _ _ _ _ _ _ _ _ _ _ _ _ _ _ _ _ _ _ _ _ HRN
theorem rsum_p (w W0 : World) (ob oc N : Nat) (hN : N ≤ 1099511627776) (n : Nat) (hn : n + 32 = N) (ow : Nat) (HON : Hid (OnesAt w ow)) (how : ow < w.heap.size) (f : Nat → Bool) (HR0 : Hid (BitR w W0 ob oc N f))
  (c0 c1 c2 c6 c7 c8 c9 c12 c13 c14 c15 c16 c17 c18 c19 c20 c21 c22 c23 c24 c25 c26 c27 c28 c29 c30 c31 c32 c33 c34 c35 c36 c37 c38 c39 c40 c41 c42 c43 c44 c45 c46 c47 c48 c49 c50 c51 c52 c53 c54 c55 c56 c57 c89 c90 c91 c92 c93 c94 c95 c96 c97 c98 c99 c100 c101 c102 c103 c104 u11 u58 u59 u60 u61 u62 u63 u64 u65 u66 u67 u68 u69 u70 u71 u72 u73 u74 u75 u76 u77 u78 u79 u80 u81 u82 u83 u84 u85 u86 u87 u88 : Value) (Q0 : Exit → Act → World → Prop) (hQ0 : ∀ c (a a' : Act) w, a.defers = a'.defers → Q0 (.panic c) a w → Q0 (.panic c) a' w)
  (hexit : ∀ (W : World) (x10 u11 u58 u59 u60 u61 u62 u63 u64 u65 u66 u67 u68 u69 u70 u71 u72 u73 u74 u75 u76 u77 u78 u79 u80 u81 u82 u83 u84 u85 u86 u87 u88 : Value), Hid (BitR w W ob oc N (runF f n)) → Q0 (.exit 6) ⟨List.toArray (c0 :: c1 :: c2 :: .pointer (some ⟨ow, 0, none⟩) :: .int .i64 (n : Int) :: .slice (some ⟨ob, 0, none⟩) N oc :: c6 :: c7 :: c8 :: c9 :: x10 :: u11 :: c12 :: c13 :: c14 :: c15 :: c16 :: c17 :: c18 :: c19 :: c20 :: c21 :: c22 :: c23 :: c24 :: c25 :: c26 :: c27 :: c28 :: c29 :: c30 :: c31 :: c32 :: c33 :: c34 :: c35 :: c36 :: c37 :: c38 :: c39 :: c40 :: c41 :: c42 :: c43 :: c44 :: c45 :: c46 :: c47 :: c48 :: c49 :: c50 :: c51 :: c52 :: c53 :: c54 :: c55 :: c56 :: c57 :: u58 :: u59 :: u60 :: u61 :: u62 :: u63 :: u64 :: u65 :: u66 :: u67 :: u68 :: u69 :: u70 :: u71 :: u72 :: u73 :: u74 :: u75 :: u76 :: u77 :: u78 :: u79 :: u80 :: u81 :: u82 :: u83 :: u84 :: u85 :: u86 :: u87 :: u88 :: c89 :: c90 :: c91 :: c92 :: c93 :: c94 :: c95 :: c96 :: c97 :: c98 :: c99 :: c100 :: c101 :: c102 :: c103 :: c104 :: []), []⟩ W) :
  Code.wp Tryz.prog (.loop (loopOf Tryz.f72 3)) Q0 ⟨List.toArray (c0 :: c1 :: c2 :: .pointer (some ⟨ow, 0, none⟩) :: .int .i64 (n : Int) :: .slice (some ⟨ob, 0, none⟩) N oc :: c6 :: c7 :: c8 :: c9 :: .int .i64 (0 : Int) :: u11 :: c12 :: c13 :: c14 :: c15 :: c16 :: c17 :: c18 :: c19 :: c20 :: c21 :: c22 :: c23 :: c24 :: c25 :: c26 :: c27 :: c28 :: c29 :: c30 :: c31 :: c32 :: c33 :: c34 :: c35 :: c36 :: c37 :: c38 :: c39 :: c40 :: c41 :: c42 :: c43 :: c44 :: c45 :: c46 :: c47 :: c48 :: c49 :: c50 :: c51 :: c52 :: c53 :: c54 :: c55 :: c56 :: c57 :: u58 :: u59 :: u60 :: u61 :: u62 :: u63 :: u64 :: u65 :: u66 :: u67 :: u68 :: u69 :: u70 :: u71 :: u72 :: u73 :: u74 :: u75 :: u76 :: u77 :: u78 :: u79 :: u80 :: u81 :: u82 :: u83 :: u84 :: u85 :: u86 :: u87 :: u88 :: c89 :: c90 :: c91 :: c92 :: c93 :: c94 :: c95 :: c96 :: c97 :: c98 :: c99 :: c100 :: c101 :: c102 :: c103 :: c104 :: []), []⟩ W0 := by
 conv => arg 2; arg 1; whnf
 go_loopw [10] (fun iv wr => ∃ i : Nat, i ≤ n ∧ iv = .int .i64 (i : Int) ∧ Hid (BitR w wr ob oc N (runF f i))) (fun iv _ => n - (intOf iv).toNat)
 case atStart => exact ⟨0, Nat.zero_le _, rfl, HR0⟩
 case round =>
  clear HR0
  obtain ⟨i, hi, rfl, HR⟩ := hrel
  by_cases hin : i < n
  ·have q0 : decide ((i : Int) < (n : Int)) = true := decide_eq_true (by omega)
   go_wp2_with fail
   refine rsum_q w wr ob oc N hN ow HON how (runF f i) i (by omega) HR _ _ _ _ _ _ _ _ _ _ _ _ _ _ _ _ _ _ _ _ _ _ _ _ _ _ _ _ _ _ _ _ _ _ _ _ _ _ _ _ _ _ _ _ _ _ _ _ _ _ _ _ _ _ _ _ _ _ _ _ _ _ _ _ _ _ _ _ _ _ _ _ _ _ _ _ _ _ _ _ _ _ _ _ _ _ _ _ _ _ _ _ _ _ _ _ _ _ _ _ _ _ (fun c a a' w hd h => hQ0 c a a' w hd h) ?_
   clear HR
   intro W x11 u63 u64 u65 u66 u67 u68 u69 u70 u71 u72 u73 u74 u75 u76 u77 u78 u79 u80 u81 u82 u83 u84 u85 u86 u87 u88 HR
   go_wp2_with fail
   go_roundw
   case rel => exact ⟨i + 1, by omega, by go_num, HR⟩
   case measure => simp [intOf]; omega
  ·obtain rfl : i = n := by omega
   have q0 : decide ((i : Int) < (i : Int)) = false := decide_eq_false (by omega)
   go_wp2_with fail
   first
    | exact HR
    | exact hexit wr _ _ _ _ _ _ _ _ _ _ _ _ _ _ _ _ _ _ _ _ _ _ _ _ _ _ _ _ _ _ _ _ _ HR
theorem finN_lt (f : Nat → Bool) (n : Nat) : ∀ m, finN f n m < 2 ^ m
 | 0 => by show 0 < 2 ^ 0; decide
 |
  m + 1 => by
  show 2 * finN f n m + _ < _
  have := finN_lt f n m
  rw [Nat.pow_succ]
  split <;> omega
theorem rsum_x (w W0 : World) (ob oc N : Nat) (hN : N ≤ 1099511627776) (n : Nat) (hn : n + 32 = N) (f : Nat → Bool) (HR0 : Hid (BitR w W0 ob oc N f))
  (c0 c1 c2 c3 c6 c7 c8 c9 c10 c11 c14 c15 c16 c17 c18 c19 c20 c21 c22 c23 c24 c25 c26 c27 c28 c29 c30 c31 c32 c33 c34 c35 c36 c37 c38 c39 c40 c41 c42 c43 c44 c45 c46 c47 c48 c49 c50 c51 c52 c53 c54 c55 c56 c57 c58 c59 c60 c61 c62 c63 c64 c65 c66 c67 c68 c69 c70 c71 c72 c73 c74 c75 c76 c77 c78 c79 c80 c81 c82 c83 c84 c85 c86 c87 c88 c104 u89 u90 u91 u92 u93 u94 u95 u96 u97 u98 u99 u100 u101 u102 u103 : Value) (Q0 : Exit → Act → World → Prop) (hQ0 : ∀ c (a a' : Act) w, a.defers = a'.defers → Q0 (.panic c) a w → Q0 (.panic c) a' w)
  (hexit : ∀ (x13 u89 u90 u91 u92 u93 u94 u95 u96 u97 u98 u99 u100 u101 u102 u103 : Value), Q0 (.exit 10) ⟨List.toArray (c0 :: c1 :: c2 :: c3 :: .int .i64 (n : Int) :: .slice (some ⟨ob, 0, none⟩) N oc :: c6 :: c7 :: c8 :: c9 :: c10 :: c11 :: .int .u32 (finN f n 32 : Int) :: x13 :: c14 :: c15 :: c16 :: c17 :: c18 :: c19 :: c20 :: c21 :: c22 :: c23 :: c24 :: c25 :: c26 :: c27 :: c28 :: c29 :: c30 :: c31 :: c32 :: c33 :: c34 :: c35 :: c36 :: c37 :: c38 :: c39 :: c40 :: c41 :: c42 :: c43 :: c44 :: c45 :: c46 :: c47 :: c48 :: c49 :: c50 :: c51 :: c52 :: c53 :: c54 :: c55 :: c56 :: c57 :: c58 :: c59 :: c60 :: c61 :: c62 :: c63 :: c64 :: c65 :: c66 :: c67 :: c68 :: c69 :: c70 :: c71 :: c72 :: c73 :: c74 :: c75 :: c76 :: c77 :: c78 :: c79 :: c80 :: c81 :: c82 :: c83 :: c84 :: c85 :: c86 :: c87 :: c88 :: u89 :: u90 :: u91 :: u92 :: u93 :: u94 :: u95 :: u96 :: u97 :: u98 :: u99 :: u100 :: u101 :: u102 :: u103 :: c104 :: []), []⟩ W0) :
  Code.wp Tryz.prog (.loop (loopOf Tryz.f72 5)) Q0 ⟨List.toArray (c0 :: c1 :: c2 :: c3 :: .int .i64 (n : Int) :: .slice (some ⟨ob, 0, none⟩) N oc :: c6 :: c7 :: c8 :: c9 :: c10 :: c11 :: .int .u32 (0 : Int) :: .int .i64 (31 : Int) :: c14 :: c15 :: c16 :: c17 :: c18 :: c19 :: c20 :: c21 :: c22 :: c23 :: c24 :: c25 :: c26 :: c27 :: c28 :: c29 :: c30 :: c31 :: c32 :: c33 :: c34 :: c35 :: c36 :: c37 :: c38 :: c39 :: c40 :: c41 :: c42 :: c43 :: c44 :: c45 :: c46 :: c47 :: c48 :: c49 :: c50 :: c51 :: c52 :: c53 :: c54 :: c55 :: c56 :: c57 :: c58 :: c59 :: c60 :: c61 :: c62 :: c63 :: c64 :: c65 :: c66 :: c67 :: c68 :: c69 :: c70 :: c71 :: c72 :: c73 :: c74 :: c75 :: c76 :: c77 :: c78 :: c79 :: c80 :: c81 :: c82 :: c83 :: c84 :: c85 :: c86 :: c87 :: c88 :: u89 :: u90 :: u91 :: u92 :: u93 :: u94 :: u95 :: u96 :: u97 :: u98 :: u99 :: u100 :: u101 :: u102 :: u103 :: c104 :: []), []⟩ W0 := by
 conv => arg 2; arg 1; whnf
 go_loopw [12, 13] (fun xv kv wr => ∃ m : Nat, m ≤ 32 ∧ xv = .int .u32 (finN f n m : Int) ∧ kv = .int .i64 (31 - (m : Int)) ∧ wr = W0) (fun _ kv _ => (intOf kv + 1).toNat)
 case atStart => exact ⟨0, Nat.zero_le _, rfl, rfl, rfl⟩
 case round =>
  obtain ⟨m, hm, rfl, rfl, rfl⟩ := hrel
  have hcap := HR0.out.cap
  by_cases hin : m < 32
  ·have q0 : decide (31 - (m : Int) ≥ 0) = true := decide_eq_true (by omega)
   have o1 := HR0.out.get (p := n + 31 - m) (by omega)
   have hfl := finN_lt f n m
   have hpw : 2 ^ m ≤ 2 ^ 31 := Nat.pow_le_pow_right (by decide) (by omega)
   have HFN : Hid (finN f n (m + 1) = 2 * finN f n m + if f (n + 31 - m) then 0 else 1) := rfl
   have hb0 : (f (n + 31 - m)) = f (n + 31 - m) := rfl
   generalize finN f n m = X at *
   have w1 : IntKind.i64.wrap ((n : Int) + (31 - (m : Int))) = ((n + 31 - m : Nat) : Int) := by rw [IntWalk.i64_in _ (by omega)]; omega
   have w2 : IntKind.u32.wrap (2 * (X : Int)) = ((2 * X : Nat) : Int) := by rw [IntKind.wrap_u32]; omega
   have w3 : IntKind.u32.wrap (((2 * X : Nat) : Int) + 1) = ((2 * X + 1 : Nat) : Int) := by rw [IntKind.wrap_u32]; omega
   have w4 : IntKind.i64.wrap (31 - (m : Int) - 1) = 31 - ((m + 1 : Nat) : Int) := by rw [IntWalk.i64_in _ (by omega)]; omega
   have i1 : (((n + 31 - m : Nat) : Int)) < (N : Int) := by omega
   obtain ⟨P, hP⟩ : ∃ P, n + 31 - m = P := ⟨_, rfl⟩
   rw [hP] at o1 w1 i1 HFN
   have hx31 : X < 2147483648 := Nat.lt_of_lt_of_le hfl hpw
   clear hP hb0 hfl hpw
   cases hf : f P
   ·rw [hf] at o1 HFN
    have HFN : Hid (finN f n (m + 1) = 2 * X + 1) := HFN
    clear hf hexit
    go_wp2_with fail
    go_roundw
    case rel => exact ⟨m + 1, by omega, by rw [HFN.out]; exact congrArg (Value.int .u32) (by omega), by go_num, trivial⟩
    case measure => simp [intOf]; omega
   ·rw [hf] at o1 HFN
    have HFN : Hid (finN f n (m + 1) = 2 * X) := HFN
    clear hf hexit
    go_wp2_with fail
    go_roundw
    case rel => exact ⟨m + 1, by omega, by rw [HFN.out]; exact congrArg (Value.int .u32) (by omega), by go_num, trivial⟩
    case measure => simp [intOf]; omega
  ·obtain rfl : m = 32 := by omega
   have q0 : decide (31 - ((32 : Nat) : Int) ≥ 0) = false := rfl
   go_wp2_with fail
   exact hexit _ _ _ _ _ _ _ _ _ _ _ _ _ _ _ _
def onesC : Array Value := #[.int .i64 6, .int .i64 9, .int .i64 10, .int .i64 16, .int .i64 20, .int .i64 21, .int .i64 22, .int .i64 24, .int .i64 25, .int .i64 27, .int .i64 28, .int .i64 30, .int .i64 31, .int .i64 32]
theorem ones_cells (k o : Nat) (ho : onesL[k]? = some o) : onesC[k]? = some (.int .i64 (o : Int)) := by
 have e : onesC = (onesL.map fun o => Value.int .i64 ((o : Nat) : Int)).toArray := rfl
 rw [e, List.getElem?_toArray, List.getElem?_map, ho]
 rfl
theorem ones_at (w : World) : OnesAt (w.alloc (.cells onesC 123)) w.heap.size := fun W hW k o ho => by
 have hk : k < 14 := (List.getElem?_eq_some_iff.1 ho).1
 rw [hW.cell (p := ⟨w.heap.size, k, none⟩) (by show w.heap.size < (w.heap.push _).size; rw [Array.size_push]; omega), cell_of_row _ _ _ _ _ _ (heap_alloc_new w _)]
 exact ones_cells k o ho
theorem rsum_any (w : World) (t : List UInt8) (ht : t.length ≤ 137438953000) :
  Calls Tryz.prog 72 #[.string ⟨t.toArray⟩] w fun e w' => e = .returned (.int .u32 (sumZ t)) ∧ Below w.heap.size w w' := by
 have hz : (⟨t.toArray⟩ : ByteArray).size = t.length := by show t.toArray.size = _; simp
 obtain ⟨n, hn⟩ : ∃ n, 8 * t.length = n := ⟨_, rfl⟩
 obtain ⟨N, hN⟩ : ∃ N, n + 32 = N := ⟨_, rfl⟩
 have w1 : IntKind.i64.wrap (8 * (t.length : Int)) = (n : Int) := by rw [IntWalk.i64_in _ (by omega)]; omega
 have w2 : IntKind.i64.wrap ((n : Int) + 32) = (N : Int) := by rw [IntWalk.i64_in _ (by omega)]; omega
 have hmk := fun W => make_bool N (by omega) W
 obtain ⟨W1, hW1⟩ : ∃ W1, w.alloc (.cells onesC 123) = W1 := ⟨_, rfl⟩
 have HW1 : Hid (w.alloc (.cells #[.int .i64 6, .int .i64 9, .int .i64 10, .int .i64 16, .int .i64 20, .int .i64 21, .int .i64 22, .int .i64 24, .int .i64 25, .int .i64 27, .int .i64 28, .int .i64 30, .int .i64 31, .int .i64 32] 123) = W1) := hW1
 have HON : Hid (OnesAt W1 w.heap.size) := by show OnesAt _ _; rw [← hW1]; exact ones_at w
 have HB1 : Hid (Below w.heap.size w W1 ∧ w.heap.size < W1.heap.size) := by show _ ∧ _; rw [← hW1]; exact ⟨bnew (brefl w) _, le_al' w _⟩
 have HNN := Lib.hid hn
 have HNM := Lib.hid hN
 have HS := Lib.hid (sum_same t)
 obtain ⟨W2, hW2⟩ : ∃ W2, W1.alloc (.cells (madeCells #[.bool false] N) 4) = W2 := ⟨_, rfl⟩
 have hs1 : W1.heap.size = w.heap.size + 1 := by rw [← hW1]; simp
 have HR : Hid (BitR W1 W2 (w.heap.size + 1) N N (fun _ => false)) := by
  show BitR _ _ _ _ _ _
  rw [← hW2, ← hs1]
  refine ⟨?_, bnew (brefl W1) _⟩
  have h1 := own_made W1 (.bool false) N (by omega) 4 rfl (Nat.le_refl _)
  have e : ((List.range N).map fun _ => Value.bool false) = List.replicate N (.bool false) := by
   rw [List.map_const', List.length_range]
  rw [e]
  exact h1
 have HW2 := Lib.hid hW2
 clear hW1 hW2 hn hN hs1
 go_enter Tryz.func72, Tryz.ntmps72
 go_wp2_with fail
 rw [HW1.out, HW2.out]
 have hb : ∀ (V : World) (f : Nat → Bool), BitR W1 V (w.heap.size + 1) N N f → Below w.heap.size w V := fun V f h => HB1.out.1.trans (h.bel.mono (Nat.le_of_lt HB1.out.2))
 have HBB := Lib.hid hb
 clear hb
 refine rsum_i W1 W2 (w.heap.size + 1) N N (by have := HNN.out; have := HNM.out; omega) t (by have := HNN.out; have := HNM.out; omega) HR _ _ _ _ _ _ _ _ _ _ _ _ _ _ _ _ _ _ _ _ _ _ _ _ _ _ _ _ _ _ _ _ _ _ _ _ _ _ _ _ _ _ _ _ _ _ _ _ _ _ _ _ _ _ _ _ _ _ _ _ _ _ _ _ _ _ _ _ _ _ _ _ _ _ _ _ _ _ _ _ _ _ _ _ _ _ _ _ _ _ _ _ _ _ _ _ _ _ _ _ _ _ _ (fun c a a' w hd h => by cases a; cases a'; cases hd; exact h) ?_
 clear HR HW2 HW1
 intro V1 x6 u7 u8 u21 u22 u23 u24 u25 u26 u27 u28 u29 u30 u31 u32 u33 u34 u35 u36 u37 u38 u39 u40 u41 u42 u43 u44 u45 HR
 go_wp2_with fail
 refine rsum_f W1 V1 (w.heap.size + 1) N N (by have := HNN.out; have := HNM.out; omega) (by have := HNM.out; omega) _ HR _ _ _ _ _ _ _ _ _ _ _ _ _ _ _ _ _ _ _ _ _ _ _ _ _ _ _ _ _ _ _ _ _ _ _ _ _ _ _ _ _ _ _ _ _ _ _ _ _ _ _ _ _ _ _ _ _ _ _ _ _ _ _ _ _ _ _ _ _ _ _ _ _ _ _ _ _ _ _ _ _ _ _ _ _ _ _ _ _ _ _ _ _ _ _ _ _ _ _ _ _ _ _ _ (fun c a a' w hd h => by cases a; cases a'; cases hd; exact h) ?_
 clear HR
 intro V2 x9 u46 u47 u48 u49 u50 u51 u52 u53 u54 u55 u56 u57 HR
 have HR : Hid (BitR W1 V2 (w.heap.size + 1) N N (begF t)) := HR
 go_wp2_with fail
 refine rsum_p W1 V2 (w.heap.size + 1) N N (by have := HNN.out; have := HNM.out; omega) n HNM.out w.heap.size HON HB1.out.2 _ HR _ _ _ _ _ _ _ _ _ _ _ _ _ _ _ _ _ _ _ _ _ _ _ _ _ _ _ _ _ _ _ _ _ _ _ _ _ _ _ _ _ _ _ _ _ _ _ _ _ _ _ _ _ _ _ _ _ _ _ _ _ _ _ _ _ _ _ _ _ _ _ _ _ _ _ _ _ _ _ _ _ _ _ _ _ _ _ _ _ _ _ _ _ _ _ _ _ _ _ _ _ _ (fun c a a' w hd h => by cases a; cases a'; cases hd; exact h) ?_
 clear HR
 intro V3 x10 u11 u58 u59 u60 u61 u62 u63 u64 u65 u66 u67 u68 u69 u70 u71 u72 u73 u74 u75 u76 u77 u78 u79 u80 u81 u82 u83 u84 u85 u86 u87 u88 HR
 go_wp2_with fail
 refine rsum_x W1 V3 (w.heap.size + 1) N N (by have := HNN.out; have := HNM.out; omega) n HNM.out _ HR _ _ _ _ _ _ _ _ _ _ _ _ _ _ _ _ _ _ _ _ _ _ _ _ _ _ _ _ _ _ _ _ _ _ _ _ _ _ _ _ _ _ _ _ _ _ _ _ _ _ _ _ _ _ _ _ _ _ _ _ _ _ _ _ _ _ _ _ _ _ _ _ _ _ _ _ _ _ _ _ _ _ _ _ _ _ _ _ _ _ _ _ _ _ _ _ _ _ _ _ _ _ (fun c a a' w hd h => by cases a; cases a'; cases hd; exact h) ?_
 intro x13 u89 u90 u91 u92 u93 u94 u95 u96 u97 u98 u99 u100 u101 u102 u103
 have HSF : Hid (((finN (runF (begF t) n) n 32 : Nat) : Int) = sumZ t) := by
  show _ = _
  rw [HS.out, HNN.out]
 rw [HSF.out]
 go_wp2_with fail
 go_ret
 exact ⟨rfl, HBB.out _ _ HR.out⟩
end Go.Proofs.YtkhemhiifhggmaaGreatDoor
namespace Go.Proofs.YtkhemhiifhggmaaGreatDoor
open Go.RowKit Go.Maps
set_option linter.unusedVariables false
theorem rblock_any (w : World) (t : List UInt8) (ht : t.length ≤ 4611686018427387000) :
  Calls Tryz.prog 71 #[.string ⟨t.toArray⟩] w fun e w' => e = .returned (.string ⟨(blockB t).toArray⟩) ∧ Below w.heap.size w w' := by
 have hz := size_arr t
 have hl := (numI_len (z := (t.length : Int)) ⟨by omega, by omega⟩).2
 have hcat := cat_arr (by8 (numI t.length)) t (by rw [by8_length]; omega)
 have hb : by8 (numI t.length) ++ t = blockB t := rfl
 rw [hb] at hcat
 have HN := Lib.hid (fun W => refnum_any (t.length : Int) (by omega) (by omega) W)
 rw [numA_eq (n := (t.length : Int)) (by omega) (by omega), str_by8] at HN
 have HN : Hid (∀ W : World, Calls Tryz.prog 34 #[.int .i64 (t.length : Int)] W fun e w' => e = .returned (.string ⟨(by8 (numI t.length)).toArray⟩) ∧ Below W.heap.size W w') := HN
 clear hb hl
 go_enter Tryz.func71, Tryz.ntmps71
 go_wp2_with fail
 refine (HN.out _).mono ?_
 rintro e w1 ⟨rfl, hb1⟩
 have HB := Lib.hid hb1
 clear hb1
 go_wp2_with fail
 go_ret
 exact ⟨rfl, HB.out⟩
def lowB (S : Int) (i : Nat) : List Int := (List.range i).map fun j => S / 256 ^ j % 256
theorem lowB_next (S : Int) (i : Nat) : lowB S (i + 1) = lowB S i ++ [S / 256 ^ i % 256] := by
 unfold lowB
 rw [List.range_succ, List.map_append]
 rfl
theorem lowB_four {S : Int} (h : 0 ≤ S ∧ S < 4294967296) : by8 (lowB S 4) = four S := by
 unfold lowB four
 have e : (List.range 4).map (fun j => S / 256 ^ j % 256) = [S / 1 % 256, S / 256 % 256, S / 65536 % 256, S / 16777216 % 256] := rfl
 rw [e]
 have e1 : S / 1 = S := Int.ediv_one S
 have e2 : S / 16777216 % 256 = S / 16777216 := by omega
 rw [e1, e2]
theorem rseal_o (w W0 : World) (S : Int) (hS : 0 ≤ S ∧ S < 4294967296) (HB0 : Hid (Below w.heap.size w W0))
  (c0 c1 c2 c3 c4 c5 c6 c10 c11 c12 c13 c14 c15 c16 c17 c18 c19 c20 c21 c22 c23 c24 c25 c38 c39 c40 c41 u26 u27 u28 u29 u30 u31 u32 u33 u34 u35 u36 u37 : Value) (Q0 : Exit → Act → World → Prop) (hQ0 : ∀ c (a a' : Act) w, a.defers = a'.defers → Q0 (.panic c) a w → Q0 (.panic c) a' w)
  (hexit : ∀ (W : World) (A : Option Addr) (cp : Nat) (x7 x9 u26 u27 u28 u29 u30 u31 u32 u33 u34 u35 u36 u37 : Value), Hid (Below w.heap.size w W) → Hid (W.ownsRow w.heap.size 5 1 (.slice A 4 cp) 4 ((lowB S 4).map (.int .u8))) → Q0 (.exit 0) ⟨List.toArray (c0 :: c1 :: c2 :: c3 :: c4 :: c5 :: c6 :: x7 :: .slice A 4 cp :: x9 :: c10 :: c11 :: c12 :: c13 :: c14 :: c15 :: c16 :: c17 :: c18 :: c19 :: c20 :: c21 :: c22 :: c23 :: c24 :: c25 :: u26 :: u27 :: u28 :: u29 :: u30 :: u31 :: u32 :: u33 :: u34 :: u35 :: u36 :: u37 :: c38 :: c39 :: c40 :: c41 :: []), []⟩ W) :
  Code.wp Tryz.prog (.loop (loopOf Tryz.f35 0)) Q0 ⟨List.toArray (c0 :: c1 :: c2 :: c3 :: c4 :: c5 :: c6 :: .int .u32 S :: .slice none 0 0 :: .int .i64 (0 : Int) :: c10 :: c11 :: c12 :: c13 :: c14 :: c15 :: c16 :: c17 :: c18 :: c19 :: c20 :: c21 :: c22 :: c23 :: c24 :: c25 :: u26 :: u27 :: u28 :: u29 :: u30 :: u31 :: u32 :: u33 :: u34 :: u35 :: u36 :: u37 :: c38 :: c39 :: c40 :: c41 :: []), []⟩ W0 := by
 conv => arg 2; arg 1; whnf
 go_loopw [7, 8, 9] (fun cv rv iv wr => ∃ (i : Nat) (A : Option Addr) (cp : Nat) (T : Int), i ≤ 4 ∧ cv = .int .u32 T ∧ rv = .slice A i cp ∧ iv = .int .i64 (i : Int) ∧ Hid (T = S / 256 ^ i) ∧ Hid (Below w.heap.size w wr) ∧ Hid (wr.ownsRow w.heap.size 5 1 (.slice A i cp) i ((lowB S i).map (.int .u8)))) (fun _ _ iv _ => 4 - (intOf iv).toNat)
 case atStart => exact ⟨0, none, 0, S, Nat.zero_le _, rfl, rfl, rfl, (by show _ = _; simp), HB0, ⟨by simp [lowB], .inl ⟨rfl, rfl⟩⟩⟩
 case round =>
  clear HB0
  obtain ⟨i, A, cp, T, hi, rfl, rfl, rfl, HT, HB, HR⟩ := hrel
  by_cases hin : i < 4
  ·have q0 : decide ((i : Int) < 4) = true := decide_eq_true (by omega)
   have hT : 0 ≤ T ∧ T < 4294967296 := by
    have h1 := HT.out
    have hp : (1 : Int) ≤ 256 ^ i := by
     have : (0 : Int) < 256 ^ i := Int.pow_pos (by decide)
     omega
    rw [h1]
    exact ⟨Int.ediv_nonneg hS.1 (by omega), Int.lt_of_le_of_lt (Int.ediv_le_self _ hS.1) hS.2⟩
   have HTN : Hid (T / 256 = S / 256 ^ (i + 1)) := by show _ = _; rw [HT.out, Int.pow_succ, Int.ediv_ediv_of_nonneg (Int.le_of_lt (Int.pow_pos (by decide)))]
   have HLN : Hid ((lowB S (i + 1)).map (Value.int .u8) = (lowB S i).map (Value.int .u8) ++ [.int .u8 (T % 256)]) := by show _ = _; rw [lowB_next, HT.out, List.map_append]; rfl
   have t1 : Int.tmod T 256 = T % 256 := Int.tmod_eq_emod_of_nonneg hT.1
   have t2 : Int.tdiv T 256 = T / 256 := Int.tdiv_eq_ediv_of_nonneg hT.1
   have w1 : IntKind.u8.wrap (T % 256) = T % 256 := by rw [IntKind.wrap_u8]; omega
   have w2 : IntKind.u32.wrap (T % 256) = T % 256 := by rw [IntKind.wrap_u32]; omega
   have w3 : IntKind.u32.wrap (T / 256) = T / 256 := by rw [IntKind.wrap_u32]; omega
   clear hexit
   go_wp2_with (at_builtin; refine wpList_pushm w wr _ rfl _ _ _ rfl el_u8 _ _ _ rfl HR.out (m := 1) rfl (by simp) rfl (by simp [Value.oneCell']) (by unfold maxLen; omega) (by omega) HB.out.size HB.out ?_; intro v2 w2 hown9 hb9 hg9 hor9; obtain ⟨A2, p2, rfl, _⟩ := own_shape hown9; have HR2 := Lib.hid hown9; have HW2 := Lib.hid hb9; clear hown9 hb9 hg9 hor9)
   go_roundw
   case rel => exact ⟨i + 1, A2, p2, T / 256, by omega, by go_num, rfl, by go_num, HTN, HW2, by rw [HLN.out]; exact HR2⟩
   case measure => simp [intOf]; omega
  ·obtain rfl : i = 4 := by omega
   have q0 : decide (((4 : Nat) : Int) < 4) = false := rfl
   go_wp2_with fail
   exact hexit wr A cp _ _ _ _ _ _ _ _ _ _ _ _ _ _ HB HR
theorem rseal_any (w : World) (k : Nat) (hk : k ≤ 255) (t : List UInt8) (ht : t.length ≤ 137438950000) :
  Calls Tryz.prog 35 #[.int .i64 k, .string ⟨t.toArray⟩] w fun e w' => e = .returned (.tuple #[.string ⟨(sealB k t).toArray⟩, .int .i64 0]) ∧ Below w.heap.size w w' := by
 have hbl := blockB_len t (by omega)
 have hk0 : decide ((k : Int) < 0) = false := decide_eq_false (by omega)
 have hk1 : decide ((k : Int) > 255) = false := decide_eq_false (by omega)
 have hw8 : IntKind.u8.wrap (k : Int) = (k : Int) := by rw [IntKind.wrap_u8]; omega
 have hcv := fun W b => conv_cell W b (k : Int)
 have e1 : strOfNums [(k : Int)] = ⟨[UInt8.ofNat k].toArray⟩ := by simp [strOfNums]
 simp only [e1] at hcv
 have hc1 := cat_arr [103, 108, 115] [UInt8.ofNat k] (by simp)
 have hc2 := cat_arr ([103, 108, 115] ++ [UInt8.ofNat k]) (blockB t) (by simp; omega)
 have HBK := Lib.hid (fun W => rblock_any W t (by omega))
 have hbd' : (⟨#[103, 108, 115, UInt8.ofNat k]⟩ : ByteArray) ++ ⟨(blockB t).toArray⟩ = ⟨(bodyB k t).toArray⟩ := by
  apply ByteArray.ext
  simp [bodyB]
 have hbd : [103, 108, 115] ++ [UInt8.ofNat k] ++ blockB t = bodyB k t := rfl
 go_enter Tryz.func35, Tryz.ntmps35
 go_wp2_with fail
 go_region_with (first | (go_at_call 71; refine (HBK.out _).mono ?_; rintro e w7 ⟨rfl, hb7⟩; have HB7 := Lib.hid hb7; have h7 := cell_over hb7 ⟨w.heap.size, 0, none⟩ (.int .u8 (k : Int)); (first | simp at h7 | skip); clear hb7))
 all_goals
  clear hcv hc1 hc2 hbd hbd' HBK
  go_wp2_with fail
  refine (rsum_any _ _ (by rw [bodyB_len]; omega)).mono ?_
  rintro e w8 ⟨rfl, hb8⟩
  have HB8 : Hid (Below w.heap.size w w8) := by
   refine bcall ?_ hb8
   repeat (first | exact brefl _ | refine bcall ?_ HB7.out | refine Below.drew ?_ | refine bnew ?_ _)
  have hsr := sumZ_range (bodyB k t)
  obtain ⟨S, hS⟩ : ∃ S, sumZ (bodyB k t) = S := ⟨_, rfl⟩
  have HS := Lib.hid hS
  rw [hS] at hsr ⊢
  clear hS hb8
  go_wp2_with fail
  refine rseal_o w w8 S hsr HB8 _ _ _ _ _ _ _ _ _ _ _ _ _ _ _ _ _ _ _ _ _ _ _ _ _ _ _ _ _ _ _ _ _ _ _ _ _ _ _ _ (fun c a a' w hd h => by cases a; cases a'; cases hd; exact h) ?_
  intro V A cp x7 x9 u26 u27 u28 u29 u30 u31 u32 u33 u34 u35 u36 u37 HBV HRV
  have hcv4 := convert_own (P := Tryz.prog) Tryz.underlying66 Tryz.underlying5 (dst := 9) (src := 66) Tryz.underlying9 HRV.out
  rw [str_by8, lowB_four hsr] at hcv4
  have hc4 := cat_arr (bodyB k t) (four S) (by unfold four; rw [bodyB_len, by8_length]; simp; omega)
  have hsl : bodyB k t ++ four S = sealB k t := by unfold sealB; rw [HS.out]
  rw [hsl] at hc4
  clear hsl
  go_wp2_with fail
  go_ret2
  exact ⟨rfl, HBV.out⟩
end Go.Proofs.YtkhemhiifhggmaaGreatDoor
