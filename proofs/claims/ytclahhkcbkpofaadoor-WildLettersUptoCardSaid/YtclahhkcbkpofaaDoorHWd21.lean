/- The inner loop of the reference's Spread. -/
import Derived.Test.YtclahhkcbkpofaaDoorHWd16
import Derived.Test.YtclahhkcbkpofaaDoorHWd13
import Derived.Test.YtclahhkcbkpofaaDoorHWd10
import Derived.Test.YtclahhkcbkpofaaDoorHWd20
import Derived.Test.YtclahhkcbkpofaaDoorHWd14
namespace Go.Proofs.YtclahhkcbkpofaaDoor
open Go.RowKit Go.Maps
/-- The row of bools of a set in the making. -/
structure SpR (w W : World) (ob oc n : Nat) (L : List Bool) : Prop where
  own : W.ownsRow w.heap.size 4 1 (.slice (some ⟨ob, 0, none⟩) n oc) n (L.map .bool)
  bel : Below w.heap.size w W
theorem SpR.keep {w W W' : World} {ob oc n : Nat} {L : List Bool} (h : SpR w W ob oc n L) (hb : Below W.heap.size W W') : SpR w W' ob oc n L := ⟨own_kept h.own hb, bcall h.bel hb⟩
theorem SpR.get {w W : World} {ob oc n : Nat} {L : List Bool} (h : SpR w W ob oc n L) {t : Nat} {b : Bool} (hf : L[t]? = some b) : W.cell? ⟨ob, t, none⟩ = some (.bool b) := own_cell h.own (by rw [List.getElem?_map, hf]; rfl)
theorem SpR.len {w W : World} {ob oc n : Nat} {L : List Bool} (h : SpR w W ob oc n L) : L.length = n := by
  have := h.own.1
  rw [List.length_map] at this
  omega
theorem SpR.cap {w W : World} {ob oc n : Nat} {L : List Bool} (h : SpR w W ob oc n L) : n ≤ oc := by
  obtain ⟨A1, c1, e1, h1⟩ := own_shape h.own
  injection e1 with _ _ e1
  omega
theorem SpR.set {w W : World} {ob oc n : Nat} {L : List Bool} (h : SpR w W ob oc n L) (t : Nat) (b : Bool) : SpR w (W.setCell ⟨ob, t, none⟩ (.bool b)) ob oc n (L.set t b) ∧ W.frozen? ⟨ob, t, none⟩ = false ∧ ob < W.heap.size := by
  obtain ⟨q1, q2, cs, q3⟩ := own_blk h.own
  refine ⟨⟨?_, below_set h.bel q1 (Nat.le_refl _)⟩, free_at q3 _, q2⟩
  rw [List.map_set]
  exact own_put h.own
set_option linter.unusedVariables false in
set_option maxRecDepth 100000 in
set_option maxHeartbeats 8000000 in
theorem spread_k (w W0 : World) (B : Nat) (hB : B ≤ w.heap.size) (A : Option Addr) (n c : Nat) (H : List Lsh) (HS : Hid (LoIn w B A n c H)) (l : List Lst) (HL : Hid (H.map (·.d) = l)) (HG : Hid (LGood l)) (hlen : H.length = n) (hcm : n ≤ 2097152) (i : Nat) (hi : i < n) (x : Lsh) (HX : Hid (H[i]? = some x))
    (ob oc gk : Nat) (B0 L : List Bool) (more : Bool) (HR0 : Hid (SpR w W0 ob oc n L)) (HP0 : Hid (SpP l B0 L ∧ (more = false → ClsTo l L i 0) ∧ 2 * offs L + (if more then 1 else 0) + 1 ≤ gk))
    (c1 c2 c3 c4 c9 c10 c11 c12 c13 c14 c15 c16 c17 c18 c57 u19 u20 u21 u22 u23 u24 u25 u26 u27 u28 u29 u30 u31 u32 u33 u34 u35 u36 u37 u38 u39 u40 u41 u42 u43 u44 u45 u46 u47 u48 u49 u50 u51 u52 u53 u54 u55 u56 : Value) (Q0 : Exit → Act → World → Prop) (hQ0 : ∀ c (a a' : Act) w, a.defers = a'.defers → Q0 (.panic c) a w → Q0 (.panic c) a' w)
    (hexit : ∀ (L : List Bool) (more : Bool) (W : World) (x8 u19 u20 u21 u22 u23 u24 u25 u26 u27 u28 u29 u30 u31 u32 u33 u34 u35 u36 u37 u38 u39 u40 u41 u42 u43 u44 u45 u46 u47 u48 u49 u50 u51 u52 u53 u54 u55 u56 : Value), Hid (SpR w W ob oc n L) → Hid (SpP l B0 L ∧ (more = false → ClsTo l L (i + 1) 0) ∧ 2 * offs L + (if more then 1 else 0) + 1 ≤ gk) → Q0 (.exit 4) ⟨List.toArray (.slice A n c :: c1 :: c2 :: c3 :: c4 :: .slice (some ⟨ob, 0, none⟩) n oc :: .bool more :: .int .i64 (i : Int) :: x8 :: c9 :: c10 :: c11 :: c12 :: c13 :: c14 :: c15 :: c16 :: c17 :: c18 :: u19 :: u20 :: u21 :: u22 :: u23 :: u24 :: u25 :: u26 :: u27 :: u28 :: u29 :: u30 :: u31 :: u32 :: u33 :: u34 :: u35 :: u36 :: u37 :: u38 :: u39 :: u40 :: u41 :: u42 :: u43 :: u44 :: u45 :: u46 :: u47 :: u48 :: u49 :: u50 :: u51 :: u52 :: u53 :: u54 :: u55 :: u56 :: c57 :: []), []⟩ W) :
    Code.wp Tryd.prog (.loop (loopOf Tryd.f34 2)) Q0 ⟨List.toArray (.slice A n c :: c1 :: c2 :: c3 :: c4 :: .slice (some ⟨ob, 0, none⟩) n oc :: .bool more :: .int .i64 (i : Int) :: .int .i64 (0 : Int) :: c9 :: c10 :: c11 :: c12 :: c13 :: c14 :: c15 :: c16 :: c17 :: c18 :: u19 :: u20 :: u21 :: u22 :: u23 :: u24 :: u25 :: u26 :: u27 :: u28 :: u29 :: u30 :: u31 :: u32 :: u33 :: u34 :: u35 :: u36 :: u37 :: u38 :: u39 :: u40 :: u41 :: u42 :: u43 :: u44 :: u45 :: u46 :: u47 :: u48 :: u49 :: u50 :: u51 :: u52 :: u53 :: u54 :: u55 :: u56 :: c57 :: []), []⟩ W0 := by
  obtain ⟨m, hm⟩ : ∃ m, x.d.free.length = m := ⟨_, rfl⟩
  have HM := Lib.hid hm
  have HXM := Lib.hid (List.mem_of_getElem? HX.out)
  have hmf := (HS.out.fr x HXM.out).2
  rw [hm] at hmf
  obtain ⟨hqc, hq20, _⟩ := hmf
  have HXL : Hid (l[i]? = some x.d) := by show _ = _; rw [← HL.out, List.getElem?_map, HX.out]; rfl
  have hll : l.length = n := by rw [← HL.out, List.length_map]; exact hlen
  have HLL := Lib.hid hll
  clear hm hll
  conv => arg 2; arg 1; whnf
  go_loopw [6, 8] (fun mv kv wr => ∃ (k : Nat) (L : List Bool) (more : Bool), k ≤ m ∧ mv = .bool more ∧ kv = .int .i64 k ∧ Hid (SpR w wr ob oc n L) ∧ Hid (SpP l B0 L ∧ (more = false → ClsTo l L i k) ∧ 2 * offs L + (if more then 1 else 0) + 1 ≤ gk)) (fun _ kv _ => m - (intOf kv).toNat)
  case atStart => exact ⟨0, L, more, Nat.zero_le _, rfl, rfl, HR0, HP0⟩
  case round =>
    clear HR0 HP0
    obtain ⟨k, L, more, hk, rfl, rfl, HR, HP⟩ := hrel
    have HW := Lib.hid (HS.out.keep (HR.out.bel.mono hB) (Nat.le_refl _))
    obtain ⟨b, off, rfl, hb, hcell⟩ := HW.out.at_ (by omega)
    obtain ⟨_, _, k2⟩ := hcell i x HX.out
    rw [HM.out] at k2
    have hbs := HR.out.bel.size
    have hbw : b < wr.heap.size := by omega
    have hLn := HR.out.len
    obtain ⟨bi, hbi⟩ : ∃ bi, L[i]? = some bi := ⟨L[i]'(by omega), List.getElem?_eq_getElem _⟩
    have o0 := HR.out.get hbi
    have hoc := HR.out.cap
    obtain ⟨_, how, _⟩ := own_blk HR.out.own
    have HBI := Lib.hid hbi
    have hi2 : (i : Int) < (n : Int) := by omega
    clear hcell hbi
    cases bi
    · have HPN : Hid (SpP l B0 L ∧ (more = false → ClsTo l L (i + 1) 0) ∧ 2 * offs L + (if more then 1 else 0) + 1 ≤ gk) := ⟨HP.out.1, fun h => (HP.out.2.1 h).next fun s hs hb => (by have h1 := HBI.out; rw [h1] at hb; cases hb), HP.out.2.2⟩
      go_wp2_with fail
      exact hexit L more wr _ _ _ _ _ _ _ _ _ _ _ _ _ _ _ _ _ _ _ _ _ _ _ _ _ _ _ _ _ _ _ _ _ _ _ _ _ _ _ HR HPN
    · by_cases hkm : k < m
      · have hkm2 : (k : Int) < (m : Int) := by omega
        have q0 : decide ((k : Int) < (m : Int)) = true := decide_eq_true hkm2
        have q01 : decide (k < m) = true := decide_eq_true hkm
        obtain ⟨fb, fo, hF, hfb, hfc⟩ := HW.out.frees HXM.out (by rw [HM.out]; omega)
        obtain ⟨z, hz⟩ : ∃ z, x.d.free[k]? = some z := ⟨x.d.free[k]'(by rw [HM.out]; exact hkm), List.getElem?_eq_getElem _⟩
        have f0 := hfc k z hz
        have hzb := HG.out.fre x.d (List.mem_of_getElem? HXL.out) z (List.mem_of_getElem? hz)
        rw [HLL.out] at hzb
        obtain ⟨t, rfl⟩ := Int.eq_ofNat_of_zero_le hzb.1
        have ht : t < n := by omega
        have ht2 : (t : Int) < (n : Int) := by omega
        have hfw : fb < wr.heap.size := by omega
        obtain ⟨bt, hbt⟩ : ∃ bi, L[t]? = some bi := ⟨L[t]'(by omega), List.getElem?_eq_getElem _⟩
        have o1 := HR.out.get hbt
        rw [hF] at k2
        have HZ := Lib.hid hz
        have HBT := Lib.hid hbt
        clear hfc hz hbt hzb
        cases bt
        · have HS1 := Lib.hid (HR.out.set t true)
          have hfz := HS1.out.2.1
          have HPN : Hid (SpP l B0 (L.set t true) ∧ (true = false → ClsTo l (L.set t true) i (k + 1)) ∧ 2 * offs (L.set t true) + (if true then 1 else 0) + 1 ≤ gk) := ⟨HP.out.1.set HBI.out HXL.out (List.mem_of_getElem? HZ.out), (fun h => by cases h), by
            have h1 := offs_set HBT.out
            have h2 := HP.out.2.2
            rw [if_pos rfl]
            omega⟩
          have HRN := Lib.hid HS1.out.1
          clear HS1 HR HP
          go_wp2_with fail
          go_roundw
          case rel => exact ⟨k + 1, L.set t true, true, by omega, rfl, by go_num, HRN, HPN⟩
          case measure => simp [intOf]; omega
        · have HPN : Hid (SpP l B0 L ∧ (more = false → ClsTo l L i (k + 1)) ∧ 2 * offs L + (if more then 1 else 0) + 1 ≤ gk) := ⟨HP.out.1, fun h => (HP.out.2.1 h).one HXL.out HZ.out (by rw [Int.toNat_natCast]; exact HBT.out), HP.out.2.2⟩
          clear HP
          go_wp2_with fail
          go_roundw
          case rel => exact ⟨k + 1, L, more, by omega, rfl, by go_num, HR, HPN⟩
          case measure => simp [intOf]; omega
      · obtain rfl : k = m := by omega
        have q0 : decide ((k : Int) < (k : Int)) = false := decide_eq_false (by omega)
        have HPN : Hid (SpP l B0 L ∧ (more = false → ClsTo l L (i + 1) 0) ∧ 2 * offs L + (if more then 1 else 0) + 1 ≤ gk) := ⟨HP.out.1, fun h => (HP.out.2.1 h).next fun s hs _ => (by
          have h1 := HXL.out
          rw [hs] at h1
          injection h1 with h1
          rw [h1, HM.out]
          exact Nat.le_refl _), HP.out.2.2⟩
        go_wp2_with fail
        exact hexit L more wr _ _ _ _ _ _ _ _ _ _ _ _ _ _ _ _ _ _ _ _ _ _ _ _ _ _ _ _ _ _ _ _ _ _ _ _ _ _ _ HR HPN
end Go.Proofs.YtclahhkcbkpofaaDoor
/- The reference's Spread. -/
namespace Go.Proofs.YtclahhkcbkpofaaDoor
open Go.RowKit Go.Maps
theorem el_bool : Elem Tryd.prog 64 4 1 1 := Elem.mk_ Tryd.underlying64 (z := .bool false) (by kernel_rfl) rfl (by omega)
theorem bools_one (L : List Bool) : ∀ u ∈ L.map Value.bool, u.oneCell' = true := fun u hu => by
  obtain ⟨b, _, rfl⟩ := List.mem_map.1 hu
  rfl
set_option maxRecDepth 100000 in
set_option maxHeartbeats 8000000 in
theorem spread_any (w : World) (B : Nat) (hB : B ≤ w.heap.size) (A : Option Addr) (n c : Nat) (H : List Lsh) (h : LoIn w B A n c H) (hg : LGood (H.map (·.d))) (As : Option Addr) (cs : Nat) (B0 : List Bool) (hs : Sl w w.heap.size 1 As n (B0.map .bool)) (hAs : As = none → n = 0) :
    Calls Tryd.prog 34 #[.slice A n c, .slice As n cs] w fun e w' => ∃ A' c', e = .returned (.slice A' n c') ∧ w'.ownsRow w.heap.size 4 1 (.slice A' n c') n ((charL n (Clo (H.map (·.d)) fun y => B0[y]? = some true)).map .bool) ∧ Below w.heap.size w w' := by
  have HS := Lib.hid h
  have HG := Lib.hid hg
  have HB := Lib.hid hs
  have HA0 := Lib.hid hAs
  have hlen := h.len
  have hcm := h.cm
  obtain ⟨l, hl⟩ : ∃ l, H.map (·.d) = l := ⟨_, rfl⟩
  have HL := Lib.hid hl
  have hll : l.length = n := by rw [← hl, List.length_map]; exact hlen
  have HLL := Lib.hid hll
  have hnp : 0 < n := by rw [← hll, ← hl]; exact List.length_pos_iff.2 hg.ne
  rw [hl] at HG ⊢
  have hB0 : B0.length = n := by have := hs.1; rw [List.length_map] at this; omega
  have HB0 := Lib.hid hB0
  clear h hg hs hAs hl hll hB0
  go_enter Tryd.func34, Tryd.ntmps34
  go_wp2_with (at_builtin; refine wpList_append_sl (base := w.heap.size) w _ rfl _ _ _ rfl el_bool (.slice (some ⟨w.heap.size, 0, none⟩) 0 0) 0 [] rfl (own_lit w _ 1 rfl (Nat.le_refl _)) (A := As) (m := n) (c := cs) (news := B0.map .bool) (B := w.heap.size) rfl (HB.out.below (bnew (brefl w) _)) HA0.out (bools_one B0) (by unfold maxLen; omega) (by omega) (by simp) (bnew (brefl w) _) ?_; intro v1 w1 hown1 hb1 _ _)
  rw [Nat.zero_add, List.nil_append] at hown1
  obtain ⟨A1, oc, rfl, hoc⟩ := own_shape hown1
  obtain ⟨ob, rfl, hob, how⟩ := own_head hown1 hnp
  have HR1 : Hid (SpR w w1 ob oc n B0) := ⟨hown1, hb1⟩
  have HP1 : Hid (SpP l B0 B0 ∧ (true = false → ClsTo l B0 l.length 0)) := ⟨.start (by rw [HB0.out, HLL.out]), fun h => by cases h⟩
  clear hown1 hb1 hob how hoc
  go_loopg [6] (2 * offs B0 + 1) (fun gk mv wr => ∃ (L : List Bool) (more : Bool), mv = .bool more ∧ Hid (SpR w wr ob oc n L) ∧ Hid (SpP l B0 L ∧ (more = false → ClsTo l L l.length 0)) ∧ Hid (2 * offs L + (if more then 1 else 0) ≤ gk))
  case atStart => exact ⟨B0, true, rfl, HR1, HP1, Nat.le_refl _⟩
  case round =>
    clear HR1 HP1
    obtain ⟨L, more, rfl, HR, HP, HK⟩ := hrel
    cases more
    · have HE : Hid (L = charL n (Clo l fun y => B0[y]? = some true)) := by
        have h1 := HP.out.1.done (HP.out.2 rfl)
        rw [HLL.out] at h1
        exact h1
      clear HP HK
      go_wp2_with fail
      go_ret
      exact ⟨_, _, rfl, by rw [← HE.out]; exact HR.out.own, HR.out.bel⟩
    · have HP2 : Hid (SpP l B0 L ∧ (false = false → ClsTo l L 0 0) ∧ 2 * offs L + (if false then 1 else 0) + 1 ≤ gk) := ⟨HP.out.1, fun _ => .zero _ _, HK.out⟩
      clear HP HK
      go_wp2_with fail
      go_loopw [6, 7] (fun mv iv wr => ∃ (i : Nat) (L : List Bool) (more : Bool), i ≤ n ∧ mv = .bool more ∧ iv = .int .i64 i ∧ Hid (SpR w wr ob oc n L) ∧ Hid (SpP l B0 L ∧ (more = false → ClsTo l L i 0) ∧ 2 * offs L + (if more then 1 else 0) + 1 ≤ gk)) (fun _ iv _ => n - (intOf iv).toNat)
      case atStart => exact ⟨0, L, false, Nat.zero_le _, rfl, rfl, HR, Lib.hid ⟨HP2.out.1, fun _ => HP2.out.2.1 trivial, HP2.out.2.2⟩⟩
      case round =>
        clear HR HP2
        obtain ⟨i, L, more, hi, rfl, rfl, HR, HP⟩ := hrel
        by_cases hin : i < n
        · obtain ⟨x, hx⟩ : ∃ x, H[i]? = some x := ⟨H[i]'(by omega), List.getElem?_eq_getElem _⟩
          have HX := Lib.hid hx
          clear hx
          go_wp2_with fail
          refine spread_k w wr B hB A n c H HS l HL HG hlen hcm i hin x HX ob oc gk B0 L more HR HP _ _ _ _ _ _ _ _ _ _ _ _ _ _ _ _ _ _ _ _ _ _ _ _ _ _ _ _ _ _ _ _ _ _ _ _ _ _ _ _ _ _ _ _ _ _ _ _ _ _ _ _ _ _ (fun c a a' w hd h => by cases a; cases a'; cases hd; exact h) ?_
          intro L more W x8 u19 u20 u21 u22 u23 u24 u25 u26 u27 u28 u29 u30 u31 u32 u33 u34 u35 u36 u37 u38 u39 u40 u41 u42 u43 u44 u45 u46 u47 u48 u49 u50 u51 u52 u53 u54 u55 u56 HR HP
          go_wp2_with fail
          go_roundw
          case rel => exact ⟨i + 1, L, more, by omega, rfl, by go_num, HR, HP⟩
          case measure => simp [intOf]; omega
        · obtain rfl : i = n := by omega
          have HPZ : Hid (SpP l B0 L ∧ (more = false → ClsTo l L l.length 0)) := ⟨HP.out.1, by rw [HLL.out]; exact HP.out.2.1⟩
          have HKZ : Hid (2 * offs L + (if more then 1 else 0) + 1 ≤ gk) := HP.out.2.2
          clear HP
          go_wp2_with fail
          go_roundg (gk - 1)
          case measure => have := HKZ.out; omega
          case rel => exact ⟨L, more, rfl, HR, HPZ, by have := HKZ.out; show _ ≤ _; omega⟩
end Go.Proofs.YtclahhkcbkpofaaDoor
/- Where a byte leads from a set, in the making (plain Lean). -/
namespace Go.Proofs.YtclahhkcbkpofaaDoor
/-- Where a byte leads by the states ahead of the i-th and the first k arcs of that. -/
def OvT (l : List Lst) (B : List Bool) (c : Int) (i k x : Nat) : Prop := ∃ (z : Nat) (s : Lst), B[z]? = some true ∧ l[z]? = some s ∧ ((z < i ∧ ∃ a ∈ s.arcs, a.1 ≤ c ∧ c ≤ a.2.1 ∧ a.2.2 = (x : Int)) ∨ (z = i ∧ ∃ a ∈ s.arcs.take k, a.1 ≤ c ∧ c ≤ a.2.1 ∧ a.2.2 = (x : Int)))
structure OvR (l : List Lst) (B : List Bool) (c : Int) (L : List Bool) (i k : Nat) : Prop where
  len : L.length = l.length
  iff : ∀ x : Nat, L[x]? = some true ↔ OvT l B c i k x
theorem OvR.start (l : List Lst) (B : List Bool) (c : Int) : OvR l B c (List.replicate l.length false) 0 0 := by
  refine ⟨List.length_replicate, fun x => ⟨fun h => ?_, fun h => ?_⟩⟩
  · rw [List.getElem?_replicate] at h
    split at h <;> cases h
  · obtain ⟨z, s, _, _, h1 | ⟨_, a, ha, _⟩⟩ := h
    · omega
    · simp at ha
section
variable {l : List Lst} {B L : List Bool} {c : Int} {i k : Nat} {s : Lst} {a : Arc3}
theorem OvT.one (hs : l[i]? = some s) (hb : B[i]? = some true) (ha : s.arcs[k]? = some a) (x : Nat) : OvT l B c i (k + 1) x ↔ OvT l B c i k x ∨ (a.1 ≤ c ∧ c ≤ a.2.1 ∧ a.2.2 = (x : Int)) := by
  have ht : s.arcs.take (k + 1) = s.arcs.take k ++ [a] := by rw [List.take_add_one, ha]; rfl
  constructor
  · rintro ⟨z, s', h1, h2, h3 | ⟨rfl, b, hb', h4⟩⟩
    · exact .inl ⟨z, s', h1, h2, .inl h3⟩
    · rw [hs] at h2
      injection h2 with h2
      subst h2
      rw [ht] at hb'
      rcases List.mem_append.1 hb' with hb' | hb'
      · exact .inl ⟨z, s, h1, hs, .inr ⟨rfl, b, hb', h4⟩⟩
      · rw [List.mem_singleton.1 hb'] at h4
        exact .inr h4
  · rintro (⟨z, s', h1, h2, h3 | ⟨rfl, b, hb', h4⟩⟩ | h4)
    · exact ⟨z, s', h1, h2, .inl h3⟩
    · rw [hs] at h2
      injection h2 with h2
      subst h2
      exact ⟨z, s, h1, hs, .inr ⟨rfl, b, by rw [ht]; exact List.mem_append_left _ hb', h4⟩⟩
    · exact ⟨i, s, hb, hs, .inr ⟨rfl, a, by rw [ht]; exact List.mem_append_right _ (List.mem_singleton.2 rfl), h4⟩⟩
theorem OvR.skip (h : OvR l B c L i k) (hs : l[i]? = some s) (hb : B[i]? = some true) (ha : s.arcs[k]? = some a) (hn : ¬ (a.1 ≤ c ∧ c ≤ a.2.1)) : OvR l B c L i (k + 1) := by
  refine ⟨h.len, fun x => ?_⟩
  rw [OvT.one hs hb ha, h.iff]
  exact ⟨.inl, fun h => h.elim id fun h => absurd ⟨h.1, h.2.1⟩ hn⟩
theorem OvR.take {t : Nat} (h : OvR l B c L i k) (hs : l[i]? = some s) (hb : B[i]? = some true) (ha : s.arcs[k]? = some a) (hn : a.1 ≤ c ∧ c ≤ a.2.1) (ht : a.2.2 = (t : Int)) (htl : t < l.length) : OvR l B c (L.set t true) i (k + 1) := by
  refine ⟨by rw [List.length_set]; exact h.len, fun x => ?_⟩
  rw [OvT.one hs hb ha, ← h.iff, List.getElem?_set]
  by_cases e : t = x
  · subst e
    rw [if_pos rfl, if_pos (by rw [h.len]; exact htl)]
    exact ⟨fun _ => .inr ⟨hn.1, hn.2, ht⟩, fun _ => rfl⟩
  · rw [if_neg e]
    exact ⟨.inl, fun h => h.elim id fun h => absurd (by have := h.2.2; omega) e⟩
theorem OvR.next (h : OvR l B c L i k) (he : ∀ s, l[i]? = some s → B[i]? = some true → s.arcs.length ≤ k) : OvR l B c L (i + 1) 0 := by
  refine ⟨h.len, fun x => ?_⟩
  rw [h.iff]
  constructor
  · rintro ⟨z, s, h1, h2, ⟨h3, h4⟩ | ⟨rfl, b, hb, h4⟩⟩
    · exact ⟨z, s, h1, h2, .inl ⟨by omega, h4⟩⟩
    · exact ⟨z, s, h1, h2, .inl ⟨by omega, b, List.mem_of_mem_take hb, h4⟩⟩
  · rintro ⟨z, s, h1, h2, ⟨h3, h4⟩ | ⟨_, b, hb, _⟩⟩
    · by_cases e : z < i
      · exact ⟨z, s, h1, h2, .inl ⟨e, h4⟩⟩
      · obtain rfl : z = i := by omega
        obtain ⟨a, ha, h5⟩ := h4
        exact ⟨z, s, h1, h2, .inr ⟨rfl, a, by rw [List.take_of_length_le (he s h2 h1)]; exact ha, h5⟩⟩
    · simp at hb
end
theorem OvR.done {l : List Lst} {B L : List Bool} {c : Nat} (h : OvR l B (c : Int) L l.length 0) : (fun y : Nat => L[y]? = some true) = ovP l (fun y => B[y]? = some true) c := by
  funext x
  apply propext
  show L[x]? = some true ↔ _
  rw [h.iff]
  constructor
  · rintro ⟨z, s, h1, h2, ⟨h3, h4⟩ | ⟨_, b, hb, _⟩⟩
    · exact ⟨z, s, h1, h2, h4⟩
    · simp at hb
  · rintro ⟨z, s, h1, h2, h4⟩
    exact ⟨z, s, h1, h2, .inl ⟨(List.getElem?_eq_some_iff.1 h2).1, h4⟩⟩
end Go.Proofs.YtclahhkcbkpofaaDoor
/- The reference's Over. -/
namespace Go.Proofs.YtclahhkcbkpofaaDoor
open Go.RowKit Go.Maps
set_option linter.unusedVariables false in
set_option maxRecDepth 100000 in
set_option maxHeartbeats 8000000 in
theorem over_k (w W0 : World) (B : Nat) (hB : B ≤ w.heap.size) (A : Option Addr) (n c : Nat) (H : List Lsh) (HS : Hid (LoIn w B A n c H)) (l : List Lst) (HL : Hid (H.map (·.d) = l)) (HG : Hid (LGood l)) (hlen : H.length = n) (hcm : n ≤ 2097152) (i : Nat) (hi : i < n) (x : Lsh) (HX : Hid (H[i]? = some x))
    (As : Option Addr) (cs : Nat) (B0 : List Bool) (HB : Hid (Sl w w.heap.size 1 As n (B0.map .bool))) (hcs : n ≤ cs) (ch : Nat) (ob oc : Nat) (L : List Bool) (HR0 : Hid (SpR w W0 ob oc n L)) (HP0 : Hid (OvR l B0 (ch : Int) L i 0))
    (c3 c4 c5 c6 c11 c12 c13 c14 c15 c16 c17 c18 c19 c58 c59 c60 u10 u20 u21 u22 u23 u24 u25 u26 u27 u28 u29 u30 u31 u32 u33 u34 u35 u36 u37 u38 u39 u40 u41 u42 u43 u44 u45 u46 u47 u48 u49 u50 u51 u52 u53 u54 u55 u56 u57 : Value) (Q0 : Exit → Act → World → Prop) (hQ0 : ∀ c (a a' : Act) w, a.defers = a'.defers → Q0 (.panic c) a w → Q0 (.panic c) a' w)
    (hexit : ∀ (L : List Bool) (W : World) (x9 u10 u20 u21 u22 u23 u24 u25 u26 u27 u28 u29 u30 u31 u32 u33 u34 u35 u36 u37 u38 u39 u40 u41 u42 u43 u44 u45 u46 u47 u48 u49 u50 u51 u52 u53 u54 u55 u56 u57 : Value), Hid (SpR w W ob oc n L) → Hid (OvR l B0 (ch : Int) L (i + 1) 0) → Q0 (.exit 2) ⟨List.toArray (.slice A n c :: .slice As n cs :: .int .i64 (ch : Int) :: c3 :: c4 :: c5 :: c6 :: .slice (some ⟨ob, 0, none⟩) n oc :: .int .i64 (i : Int) :: x9 :: u10 :: c11 :: c12 :: c13 :: c14 :: c15 :: c16 :: c17 :: c18 :: c19 :: u20 :: u21 :: u22 :: u23 :: u24 :: u25 :: u26 :: u27 :: u28 :: u29 :: u30 :: u31 :: u32 :: u33 :: u34 :: u35 :: u36 :: u37 :: u38 :: u39 :: u40 :: u41 :: u42 :: u43 :: u44 :: u45 :: u46 :: u47 :: u48 :: u49 :: u50 :: u51 :: u52 :: u53 :: u54 :: u55 :: u56 :: u57 :: c58 :: c59 :: c60 :: []), []⟩ W) :
    Code.wp Tryd.prog (.loop (loopOf Tryd.f35 1)) Q0 ⟨List.toArray (.slice A n c :: .slice As n cs :: .int .i64 (ch : Int) :: c3 :: c4 :: c5 :: c6 :: .slice (some ⟨ob, 0, none⟩) n oc :: .int .i64 (i : Int) :: .int .i64 (0 : Int) :: u10 :: c11 :: c12 :: c13 :: c14 :: c15 :: c16 :: c17 :: c18 :: c19 :: u20 :: u21 :: u22 :: u23 :: u24 :: u25 :: u26 :: u27 :: u28 :: u29 :: u30 :: u31 :: u32 :: u33 :: u34 :: u35 :: u36 :: u37 :: u38 :: u39 :: u40 :: u41 :: u42 :: u43 :: u44 :: u45 :: u46 :: u47 :: u48 :: u49 :: u50 :: u51 :: u52 :: u53 :: u54 :: u55 :: u56 :: u57 :: c58 :: c59 :: c60 :: []), []⟩ W0 := by
  obtain ⟨m, hm⟩ : ∃ m, x.d.arcs.length = m := ⟨_, rfl⟩
  have HM := Lib.hid hm
  have HXM := Lib.hid (List.mem_of_getElem? HX.out)
  have hmf := (HS.out.ar x HXM.out).2
  rw [hm] at hmf
  obtain ⟨hqc, hq20⟩ := hmf
  have HXL : Hid (l[i]? = some x.d) := by show _ = _; rw [← HL.out, List.getElem?_map, HX.out]; rfl
  have hll : l.length = n := by rw [← HL.out, List.length_map]; exact hlen
  have HLL := Lib.hid hll
  clear hm hll
  have hB0 : B0.length = n := by have := HB.out.1; rw [List.length_map] at this; omega
  obtain ⟨bi, hbi⟩ : ∃ bi, B0[i]? = some bi := ⟨B0[i]'(by omega), List.getElem?_eq_getElem _⟩
  have HBI := Lib.hid hbi
  obtain ⟨sb, so, rfl, hsb, hsc⟩ := HB.out.at_ hi
  have hs0 := hsc i (.bool bi) (by rw [List.getElem?_map, hbi]; rfl)
  have HS0 := Lib.hid hs0
  clear hbi hsc hs0 hB0
  conv => arg 2; arg 1; whnf
  go_loopw [9] (fun kv wr => ∃ (k : Nat) (L : List Bool), k ≤ m ∧ kv = .int .i64 k ∧ Hid (SpR w wr ob oc n L) ∧ Hid (OvR l B0 (ch : Int) L i k)) (fun kv _ => m - (intOf kv).toNat)
  case atStart => exact ⟨0, L, Nat.zero_le _, rfl, HR0, HP0⟩
  case round =>
    clear HR0 HP0
    obtain ⟨k, L, hk, rfl, HR, HP⟩ := hrel
    have HW := Lib.hid (HS.out.keep (HR.out.bel.mono hB) (Nat.le_refl _))
    obtain ⟨b, off, rfl, hb, hcell⟩ := HW.out.at_ (by omega)
    obtain ⟨_, k1, _⟩ := hcell i x HX.out
    rw [HM.out] at k1
    have hbs := HR.out.bel.size
    have hbw : b < wr.heap.size := by omega
    have hsw : sb < wr.heap.size := by omega
    have s0 := (HR.out.bel.cell (p := ⟨sb, so + i, none⟩) hsb).trans HS0.out
    have hLn := HR.out.len
    have hoc := HR.out.cap
    obtain ⟨_, how, _⟩ := own_blk HR.out.own
    have hi2 : (i : Int) < (n : Int) := by omega
    clear hcell
    cases bi
    · have HPN : Hid (OvR l B0 (ch : Int) L (i + 1) 0) := HP.out.next fun s hs hb => (by have h1 := HBI.out; rw [h1] at hb; cases hb)
      go_wp2_with fail
      exact hexit L wr _ _ _ _ _ _ _ _ _ _ _ _ _ _ _ _ _ _ _ _ _ _ _ _ _ _ _ _ _ _ _ _ _ _ _ _ _ _ _ _ HR HPN
    · by_cases hkm : k < m
      · have hkm2 : (k : Int) < (m : Int) := by omega
        have q0 : decide ((k : Int) < (m : Int)) = true := decide_eq_true hkm2
        have q01 : decide (k < m) = true := decide_eq_true hkm
        obtain ⟨fb, fo, hF, hfb, hfc⟩ := (HW.out.arcs HXM.out).at_ (by rw [HM.out]; omega)
        obtain ⟨⟨lo, hi', tt⟩, hz⟩ : ∃ z, x.d.arcs[k]? = some z := ⟨x.d.arcs[k]'(by rw [HM.out]; exact hkm), List.getElem?_eq_getElem _⟩
        obtain ⟨f0, f1, f2⟩ := hfc k _ hz
        simp only at f0 f1 f2
        have hzb := HG.out.arc x.d (List.mem_of_getElem? HXL.out) _ (List.mem_of_getElem? hz)
        rw [HLL.out] at hzb
        simp only at hzb
        obtain ⟨z1, z2, z3, z4, z5⟩ := hzb
        obtain ⟨t, rfl⟩ := Int.eq_ofNat_of_zero_le z4
        have ht : t < n := by omega
        have hfw : fb < wr.heap.size := by omega
        rw [hF] at k1
        have HZ := Lib.hid hz
        have hBA := bnew (brefl wr) (.cells #[.int .i64 lo, .int .i64 hi', .int .i64 (t : Int)] 63)
        have HR2 := Lib.hid (HR.out.keep hBA)
        have hq1 : (wr.alloc (.cells #[.int .i64 lo, .int .i64 hi', .int .i64 (t : Int)] 63)).heap[wr.heap.size]? = some (.cells #[.int .i64 lo, .int .i64 hi', .int .i64 (t : Int)] 63 (0, 0)) := heap_alloc_new wr _
        have hsz9 : (wr.alloc (.cells #[.int .i64 lo, .int .i64 hi', .int .i64 (t : Int)] 63)).heap.size = wr.heap.size + 1 := by simp
        clear hfc hz z4
        by_cases h1 : lo ≤ (ch : Int)
        · have q1 : decide (lo ≤ (ch : Int)) = true := decide_eq_true h1
          by_cases h2 : (ch : Int) ≤ hi'
          · have q2 : decide ((ch : Int) ≤ hi') = true := decide_eq_true h2
            have HPN : Hid (OvR l B0 (ch : Int) (L.set t true) i (k + 1)) := HP.out.take HXL.out HBI.out HZ.out ⟨h1, h2⟩ rfl (by rw [HLL.out]; exact ht)
            obtain ⟨bt, hbt⟩ : ∃ bi, L[t]? = some bi := ⟨L[t]'(by omega), List.getElem?_eq_getElem _⟩
            have o1 := HR.out.get hbt
            have HS1 := Lib.hid (HR.out.set t true)
            have hfz := HS1.out.2.1
            have how2 := HS1.out.2.2
            have HRN := Lib.hid (HS1.out.1.keep (bnew (brefl _) (.cells #[.int .i64 lo, .int .i64 hi', .int .i64 (t : Int)] 63)))
            clear HS1 HR HP hbt HR2 h1 h2
            go_wp2_with fail
            go_roundw
            case rel => exact ⟨k + 1, L.set t true, by omega, by go_num, HRN, HPN⟩
            case measure => simp [intOf]; omega
          · have q2 : decide ((ch : Int) ≤ hi') = false := decide_eq_false h2
            have HPN : Hid (OvR l B0 (ch : Int) L i (k + 1)) := HP.out.skip HXL.out HBI.out HZ.out (fun h => h2 h.2)
            clear HP HR
            go_wp2_with fail
            go_roundw
            case rel => exact ⟨k + 1, L, by omega, by go_num, HR2, HPN⟩
            case measure => simp [intOf]; omega
        · have q1 : decide (lo ≤ (ch : Int)) = false := decide_eq_false h1
          have HPN : Hid (OvR l B0 (ch : Int) L i (k + 1)) := HP.out.skip HXL.out HBI.out HZ.out (fun h => h1 h.1)
          clear HP HR
          go_wp2_with fail
          go_roundw
          case rel => exact ⟨k + 1, L, by omega, by go_num, HR2, HPN⟩
          case measure => simp [intOf]; omega
      · obtain rfl : k = m := by omega
        have q0 : decide ((k : Int) < (k : Int)) = false := decide_eq_false (by omega)
        have HPN : Hid (OvR l B0 (ch : Int) L (i + 1) 0) := HP.out.next fun s hs _ => (by
          have h1 := HXL.out
          rw [hs] at h1
          injection h1 with h1
          rw [h1, HM.out]
          exact Nat.le_refl _)
        go_wp2_with fail
        exact hexit L wr _ _ _ _ _ _ _ _ _ _ _ _ _ _ _ _ _ _ _ _ _ _ _ _ _ _ _ _ _ _ _ _ _ _ _ _ _ _ _ _ HR HPN
end Go.Proofs.YtclahhkcbkpofaaDoor
