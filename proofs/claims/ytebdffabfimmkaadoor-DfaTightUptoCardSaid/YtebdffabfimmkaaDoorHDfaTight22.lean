/- Where a byte leads from a set, in the making (plain Lean). -/
import Derived.Test.YtebdffabfimmkaaDoorHDfaTight14
import Derived.Test.YtebdffabfimmkaaDoorHDfaTight21
import Derived.Test.YtebdffabfimmkaaDoorHDfaTight12
import Derived.Test.YtebdffabfimmkaaDoorHDfaTight17
import Derived.Test.YtebdffabfimmkaaDoorHDfaTight13
namespace Go.Proofs.YtebdffabfimmkaaDoor
/-- Where a byte leads by the states ahead of the i-th and the first k arcs of that. -/
def OvT (l : List Lst) (B : List Bool) (c : Int) (i k x : Nat) : Prop := ∃ (z : Nat) (s : Lst), B[z]? = some true ∧ l[z]? = some s ∧ ((z < i ∧ ∃ a ∈ s.arcs, a.1 ≤ c ∧ c ≤ a.2.1 ∧ a.2.2 = (x : Int)) ∨ (z = i ∧ ∃ a ∈ s.arcs.take k, a.1 ≤ c ∧ c ≤ a.2.1 ∧ a.2.2 = (x : Int)))
structure OvR (l : List Lst) (B : List Bool) (c : Int) (L : List Bool) (i k : Nat) : Prop where
  len : L.length = l.length
  iff : ∀ x : Nat, L[x]? = some true ↔ OvT l B c i k x
theorem OvR.start (l : List Lst) (B : List Bool) (c : Int) : OvR l B c (List.replicate l.length false) 0 0 := by
  refine ⟨List.length_replicate, fun x => ⟨fun h => ?_, fun h => ?_⟩⟩
  · rw [List.getElem?_replicate] at h
    split at h <;> cases h
  · obtain ⟨z, s, _, _, h1 | ⟨_, a, ha, _⟩⟩ := h
    · omega
    · simp at ha
section
variable {l : List Lst} {B L : List Bool} {c : Int} {i k : Nat} {s : Lst} {a : Arc3}
theorem OvT.one (hs : l[i]? = some s) (hb : B[i]? = some true) (ha : s.arcs[k]? = some a) (x : Nat) : OvT l B c i (k + 1) x ↔ OvT l B c i k x ∨ (a.1 ≤ c ∧ c ≤ a.2.1 ∧ a.2.2 = (x : Int)) := by
  have ht : s.arcs.take (k + 1) = s.arcs.take k ++ [a] := by rw [List.take_add_one, ha]; rfl
  constructor
  · rintro ⟨z, s', h1, h2, h3 | ⟨rfl, b, hb', h4⟩⟩
    · exact .inl ⟨z, s', h1, h2, .inl h3⟩
    · rw [hs] at h2
      injection h2 with h2
      subst h2
      rw [ht] at hb'
      rcases List.mem_append.1 hb' with hb' | hb'
      · exact .inl ⟨z, s, h1, hs, .inr ⟨rfl, b, hb', h4⟩⟩
      · rw [List.mem_singleton.1 hb'] at h4
        exact .inr h4
  · rintro (⟨z, s', h1, h2, h3 | ⟨rfl, b, hb', h4⟩⟩ | h4)
    · exact ⟨z, s', h1, h2, .inl h3⟩
    · rw [hs] at h2
      injection h2 with h2
      subst h2
      exact ⟨z, s, h1, hs, .inr ⟨rfl, b, by rw [ht]; exact List.mem_append_left _ hb', h4⟩⟩
    · exact ⟨i, s, hb, hs, .inr ⟨rfl, a, by rw [ht]; exact List.mem_append_right _ (List.mem_singleton.2 rfl), h4⟩⟩
theorem OvR.skip (h : OvR l B c L i k) (hs : l[i]? = some s) (hb : B[i]? = some true) (ha : s.arcs[k]? = some a) (hn : ¬ (a.1 ≤ c ∧ c ≤ a.2.1)) : OvR l B c L i (k + 1) := by
  refine ⟨h.len, fun x => ?_⟩
  rw [OvT.one hs hb ha, h.iff]
  exact ⟨.inl, fun h => h.elim id fun h => absurd ⟨h.1, h.2.1⟩ hn⟩
theorem OvR.take {t : Nat} (h : OvR l B c L i k) (hs : l[i]? = some s) (hb : B[i]? = some true) (ha : s.arcs[k]? = some a) (hn : a.1 ≤ c ∧ c ≤ a.2.1) (ht : a.2.2 = (t : Int)) (htl : t < l.length) : OvR l B c (L.set t true) i (k + 1) := by
  refine ⟨by rw [List.length_set]; exact h.len, fun x => ?_⟩
  rw [OvT.one hs hb ha, ← h.iff, List.getElem?_set]
  by_cases e : t = x
  · subst e
    rw [if_pos rfl, if_pos (by rw [h.len]; exact htl)]
    exact ⟨fun _ => .inr ⟨hn.1, hn.2, ht⟩, fun _ => rfl⟩
  · rw [if_neg e]
    exact ⟨.inl, fun h => h.elim id fun h => absurd (by have := h.2.2; omega) e⟩
theorem OvR.next (h : OvR l B c L i k) (he : ∀ s, l[i]? = some s → B[i]? = some true → s.arcs.length ≤ k) : OvR l B c L (i + 1) 0 := by
  refine ⟨h.len, fun x => ?_⟩
  rw [h.iff]
  constructor
  · rintro ⟨z, s, h1, h2, ⟨h3, h4⟩ | ⟨rfl, b, hb, h4⟩⟩
    · exact ⟨z, s, h1, h2, .inl ⟨by omega, h4⟩⟩
    · exact ⟨z, s, h1, h2, .inl ⟨by omega, b, List.mem_of_mem_take hb, h4⟩⟩
  · rintro ⟨z, s, h1, h2, ⟨h3, h4⟩ | ⟨_, b, hb, _⟩⟩
    · by_cases e : z < i
      · exact ⟨z, s, h1, h2, .inl ⟨e, h4⟩⟩
      · obtain rfl : z = i := by omega
        obtain ⟨a, ha, h5⟩ := h4
        exact ⟨z, s, h1, h2, .inr ⟨rfl, a, by rw [List.take_of_length_le (he s h2 h1)]; exact ha, h5⟩⟩
    · simp at hb
end
theorem OvR.done {l : List Lst} {B L : List Bool} {c : Nat} (h : OvR l B (c : Int) L l.length 0) : (fun y : Nat => L[y]? = some true) = ovP l (fun y => B[y]? = some true) c := by
  funext x
  apply propext
  show L[x]? = some true ↔ _
  rw [h.iff]
  constructor
  · rintro ⟨z, s, h1, h2, ⟨h3, h4⟩ | ⟨_, b, hb, _⟩⟩
    · exact ⟨z, s, h1, h2, h4⟩
    · simp at hb
  · rintro ⟨z, s, h1, h2, h4⟩
    exact ⟨z, s, h1, h2, .inl ⟨(List.getElem?_eq_some_iff.1 h2).1, h4⟩⟩
end Go.Proofs.YtebdffabfimmkaaDoor
/- The reference's Over. -/
namespace Go.Proofs.YtebdffabfimmkaaDoor
open Go.RowKit Go.Maps

set_option linter.unusedVariables false in
set_option maxRecDepth 100000 in
set_option maxHeartbeats 8000000 in
theorem over_k (w W0 : World) (B : Nat) (hB : B ≤ w.heap.size) (A : Option Addr) (n c : Nat) (H : List Lsh) (HS : Hid (LoIn w B A n c H)) (l : List Lst) (HL : Hid (H.map (·.d) = l)) (HG : Hid (LGood l)) (hlen : H.length = n) (hcm : n ≤ 1048576) (i : Nat) (hi : i < n) (x : Lsh) (HX : Hid (H[i]? = some x))
    (As : Option Addr) (cs : Nat) (B0 : List Bool) (HB : Hid (Sl w w.heap.size 1 As n (B0.map .bool))) (hcs : n ≤ cs) (ch : Nat) (ob oc : Nat) (L : List Bool) (HR0 : Hid (SpR w W0 ob oc n L)) (HP0 : Hid (OvR l B0 (ch : Int) L i 0))
    (c3 c4 c5 c6 c11 c12 c13 c14 c15 c16 c17 c18 c19 c58 c59 c60 u10 u20 u21 u22 u23 u24 u25 u26 u27 u28 u29 u30 u31 u32 u33 u34 u35 u36 u37 u38 u39 u40 u41 u42 u43 u44 u45 u46 u47 u48 u49 u50 u51 u52 u53 u54 u55 u56 u57 : Value) (Q0 : Exit → Act → World → Prop) (hQ0 : ∀ c (a a' : Act) w, a.defers = a'.defers → Q0 (.panic c) a w → Q0 (.panic c) a' w)
    (hexit : ∀ (L : List Bool) (W : World) (x9 u10 u20 u21 u22 u23 u24 u25 u26 u27 u28 u29 u30 u31 u32 u33 u34 u35 u36 u37 u38 u39 u40 u41 u42 u43 u44 u45 u46 u47 u48 u49 u50 u51 u52 u53 u54 u55 u56 u57 : Value), Hid (SpR w W ob oc n L) → Hid (OvR l B0 (ch : Int) L (i + 1) 0) → Q0 (.exit 2) ⟨List.toArray (.slice A n c :: .slice As n cs :: .int .i64 (ch : Int) :: c3 :: c4 :: c5 :: c6 :: .slice (some ⟨ob, 0, none⟩) n oc :: .int .i64 (i : Int) :: x9 :: u10 :: c11 :: c12 :: c13 :: c14 :: c15 :: c16 :: c17 :: c18 :: c19 :: u20 :: u21 :: u22 :: u23 :: u24 :: u25 :: u26 :: u27 :: u28 :: u29 :: u30 :: u31 :: u32 :: u33 :: u34 :: u35 :: u36 :: u37 :: u38 :: u39 :: u40 :: u41 :: u42 :: u43 :: u44 :: u45 :: u46 :: u47 :: u48 :: u49 :: u50 :: u51 :: u52 :: u53 :: u54 :: u55 :: u56 :: u57 :: c58 :: c59 :: c60 :: []), []⟩ W) :
    Code.wp Tryd.prog (.loop (loopOf Tryd.f34 1)) Q0 ⟨List.toArray (.slice A n c :: .slice As n cs :: .int .i64 (ch : Int) :: c3 :: c4 :: c5 :: c6 :: .slice (some ⟨ob, 0, none⟩) n oc :: .int .i64 (i : Int) :: .int .i64 (0 : Int) :: u10 :: c11 :: c12 :: c13 :: c14 :: c15 :: c16 :: c17 :: c18 :: c19 :: u20 :: u21 :: u22 :: u23 :: u24 :: u25 :: u26 :: u27 :: u28 :: u29 :: u30 :: u31 :: u32 :: u33 :: u34 :: u35 :: u36 :: u37 :: u38 :: u39 :: u40 :: u41 :: u42 :: u43 :: u44 :: u45 :: u46 :: u47 :: u48 :: u49 :: u50 :: u51 :: u52 :: u53 :: u54 :: u55 :: u56 :: u57 :: c58 :: c59 :: c60 :: []), []⟩ W0 := by
  obtain ⟨m, hm⟩ : ∃ m, x.d.arcs.length = m := ⟨_, rfl⟩
  have HM := Lib.hid hm
  have HXM := Lib.hid (List.mem_of_getElem? HX.out)
  have hmf := (HS.out.ar x HXM.out).2
  rw [hm] at hmf
  obtain ⟨hqc, hq20⟩ := hmf
  have HXL : Hid (l[i]? = some x.d) := by show _ = _; rw [← HL.out, List.getElem?_map, HX.out]; rfl
  have hll : l.length = n := by rw [← HL.out, List.length_map]; exact hlen
  have HLL := Lib.hid hll
  clear hm hll
  have hB0 : B0.length = n := by have := HB.out.1; rw [List.length_map] at this; omega
  obtain ⟨bi, hbi⟩ : ∃ bi, B0[i]? = some bi := ⟨B0[i]'(by omega), List.getElem?_eq_getElem _⟩
  have HBI := Lib.hid hbi
  obtain ⟨sb, so, rfl, hsb, hsc⟩ := HB.out.at_ hi
  have hs0 := hsc i (.bool bi) (by rw [List.getElem?_map, hbi]; rfl)
  have HS0 := Lib.hid hs0
  clear hbi hsc hs0 hB0
  conv => arg 2; arg 1; whnf
  go_loopw [9] (fun kv wr => ∃ (k : Nat) (L : List Bool), k ≤ m ∧ kv = .int .i64 k ∧ Hid (SpR w wr ob oc n L) ∧ Hid (OvR l B0 (ch : Int) L i k)) (fun kv _ => m - (intOf kv).toNat)
  case atStart => exact ⟨0, L, Nat.zero_le _, rfl, HR0, HP0⟩
  case round =>
    clear HR0 HP0
    obtain ⟨k, L, hk, rfl, HR, HP⟩ := hrel
    have HW := Lib.hid (HS.out.keep (HR.out.bel.mono hB) (Nat.le_refl _))
    obtain ⟨b, off, rfl, hb, hcell⟩ := HW.out.at_ (by omega)
    obtain ⟨_, k1, _⟩ := hcell i x HX.out
    rw [HM.out] at k1
    have hbs := HR.out.bel.size
    have hbw : b < wr.heap.size := by omega
    have hsw : sb < wr.heap.size := by omega
    have s0 := (HR.out.bel.cell (p := ⟨sb, so + i, none⟩) hsb).trans HS0.out
    have hLn := HR.out.len
    have hoc := HR.out.cap
    obtain ⟨_, how, _⟩ := own_blk HR.out.own
    have hi2 : (i : Int) < (n : Int) := by omega
    clear hcell
    cases bi
    · have HPN : Hid (OvR l B0 (ch : Int) L (i + 1) 0) := HP.out.next fun s hs hb => (by have h1 := HBI.out; rw [h1] at hb; cases hb)
      go_wp2_with fail
      exact hexit L wr _ _ _ _ _ _ _ _ _ _ _ _ _ _ _ _ _ _ _ _ _ _ _ _ _ _ _ _ _ _ _ _ _ _ _ _ _ _ _ _ HR HPN
    · by_cases hkm : k < m
      · have hkm2 : (k : Int) < (m : Int) := by omega
        have q0 : decide ((k : Int) < (m : Int)) = true := decide_eq_true hkm2
        have q01 : decide (k < m) = true := decide_eq_true hkm
        obtain ⟨fb, fo, hF, hfb, hfc⟩ := (HW.out.arcs HXM.out).at_ (by rw [HM.out]; omega)
        obtain ⟨⟨lo, hi', tt⟩, hz⟩ : ∃ z, x.d.arcs[k]? = some z := ⟨x.d.arcs[k]'(by rw [HM.out]; exact hkm), List.getElem?_eq_getElem _⟩
        obtain ⟨f0, f1, f2⟩ := hfc k _ hz
        simp only at f0 f1 f2
        have hzb := HG.out.arc x.d (List.mem_of_getElem? HXL.out) _ (List.mem_of_getElem? hz)
        rw [HLL.out] at hzb
        simp only at hzb
        obtain ⟨z1, z2, z3, z4, z5⟩ := hzb
        obtain ⟨t, rfl⟩ := Int.eq_ofNat_of_zero_le z4
        have ht : t < n := by omega
        have hfw : fb < wr.heap.size := by omega
        rw [hF] at k1
        have HZ := Lib.hid hz
        have hBA := bnew (brefl wr) (.cells #[.int .i64 lo, .int .i64 hi', .int .i64 (t : Int)] 41)
        have HR2 := Lib.hid (HR.out.keep hBA)
        have hq1 : (wr.alloc (.cells #[.int .i64 lo, .int .i64 hi', .int .i64 (t : Int)] 41)).heap[wr.heap.size]? = some (.cells #[.int .i64 lo, .int .i64 hi', .int .i64 (t : Int)] 41 (0, 0)) := heap_alloc_new wr _
        have hsz9 : (wr.alloc (.cells #[.int .i64 lo, .int .i64 hi', .int .i64 (t : Int)] 41)).heap.size = wr.heap.size + 1 := by simp
        clear hfc hz z4
        by_cases h1 : lo ≤ (ch : Int)
        · have q1 : decide (lo ≤ (ch : Int)) = true := decide_eq_true h1
          by_cases h2 : (ch : Int) ≤ hi'
          · have q2 : decide ((ch : Int) ≤ hi') = true := decide_eq_true h2
            have HPN : Hid (OvR l B0 (ch : Int) (L.set t true) i (k + 1)) := HP.out.take HXL.out HBI.out HZ.out ⟨h1, h2⟩ rfl (by rw [HLL.out]; exact ht)
            obtain ⟨bt, hbt⟩ : ∃ bi, L[t]? = some bi := ⟨L[t]'(by omega), List.getElem?_eq_getElem _⟩
            have o1 := HR.out.get hbt
            have HS1 := Lib.hid (HR.out.set t true)
            have hfz := HS1.out.2.1
            have how2 := HS1.out.2.2
            have HRN := Lib.hid (HS1.out.1.keep (bnew (brefl _) (.cells #[.int .i64 lo, .int .i64 hi', .int .i64 (t : Int)] 41)))
            clear HS1 HR HP hbt HR2 h1 h2
            go_wp2_with fail
            go_roundw
            case rel => exact ⟨k + 1, L.set t true, by omega, by go_num, HRN, HPN⟩
            case measure => simp [intOf]; omega
          · have q2 : decide ((ch : Int) ≤ hi') = false := decide_eq_false h2
            have HPN : Hid (OvR l B0 (ch : Int) L i (k + 1)) := HP.out.skip HXL.out HBI.out HZ.out (fun h => h2 h.2)
            clear HP HR
            go_wp2_with fail
            go_roundw
            case rel => exact ⟨k + 1, L, by omega, by go_num, HR2, HPN⟩
            case measure => simp [intOf]; omega
        · have q1 : decide (lo ≤ (ch : Int)) = false := decide_eq_false h1
          have HPN : Hid (OvR l B0 (ch : Int) L i (k + 1)) := HP.out.skip HXL.out HBI.out HZ.out (fun h => h1 h.1)
          clear HP HR
          go_wp2_with fail
          go_roundw
          case rel => exact ⟨k + 1, L, by omega, by go_num, HR2, HPN⟩
          case measure => simp [intOf]; omega
      · obtain rfl : k = m := by omega
        have q0 : decide ((k : Int) < (k : Int)) = false := decide_eq_false (by omega)
        have HPN : Hid (OvR l B0 (ch : Int) L (i + 1) 0) := HP.out.next fun s hs _ => (by
          have h1 := HXL.out
          rw [hs] at h1
          injection h1 with h1
          rw [h1, HM.out]
          exact Nat.le_refl _)
        go_wp2_with fail
        exact hexit L wr _ _ _ _ _ _ _ _ _ _ _ _ _ _ _ _ _ _ _ _ _ _ _ _ _ _ _ _ _ _ _ _ _ _ _ _ _ _ _ _ HR HPN
end Go.Proofs.YtebdffabfimmkaaDoor
/- The reference's Over, ends. -/
namespace Go.Proofs.YtebdffabfimmkaaDoor
open Go.RowKit Go.Maps

set_option maxRecDepth 100000 in
set_option maxHeartbeats 8000000 in
theorem over_any (w : World) (B : Nat) (hB : B ≤ w.heap.size) (A : Option Addr) (n c : Nat) (H : List Lsh) (h : LoIn w B A n c H) (hg : LGood (H.map (·.d))) (As : Option Addr) (cs : Nat) (B0 : List Bool) (hs : Sl w w.heap.size 1 As n (B0.map .bool)) (hcs : n ≤ cs) (ch : Nat) :
    Calls Tryd.prog 34 #[.slice A n c, .slice As n cs, .int .i64 (ch : Int)] w fun e w' => ∃ A' c', e = .returned (.slice A' n c') ∧ w'.ownsRow w.heap.size 4 1 (.slice A' n c') n ((charL n (Clo (H.map (·.d)) (ovP (H.map (·.d)) (fun y => B0[y]? = some true) ch))).map .bool) ∧ n ≤ c' ∧ Below w.heap.size w w' := by
  have HS := Lib.hid h
  have HG := Lib.hid hg
  have HB := Lib.hid hs
  have hlen := h.len
  have hcm := h.cm
  have hmk := make_bool n (by omega)
  obtain ⟨l, hl⟩ : ∃ l, H.map (·.d) = l := ⟨_, rfl⟩
  have HL := Lib.hid hl
  have hll : l.length = n := by rw [← hl, List.length_map]; exact hlen
  have HLL := Lib.hid hll
  have hnp : 0 < n := by rw [← hll, ← hl]; exact List.length_pos_iff.2 hg.ne
  rw [hl]
  rw [hl] at HG
  have HR1 : Hid (SpR w (w.alloc (.cells (madeCells #[.bool false] n) 4)) w.heap.size n n (List.replicate n false)) := ⟨by
    have h1 := own_made w (.bool false) n (by omega) 4 rfl (Nat.le_refl w.heap.size)
    rw [List.map_replicate]
    exact h1, bnew (brefl w) _⟩
  have HP1 : Hid (OvR l B0 (ch : Int) (List.replicate n false) 0 0) := by
    have h1 := OvR.start l B0 (ch : Int)
    rw [hll] at h1
    exact h1
  clear h hg hs hl hll
  go_enter Tryd.func34, Tryd.ntmps34
  go_wp2_with fail
  generalize w.alloc (.cells (madeCells #[.bool false] n) 4) = w1 at *
  obtain ⟨ob, hob⟩ : ∃ k, w.heap.size = k := ⟨_, rfl⟩
  have HR2 : Hid (SpR w w1 ob n n (List.replicate n false)) := by rw [← hob]; exact HR1.out
  rw [hob]
  clear HR1
  go_loopw [8] (fun iv wr => ∃ (i : Nat) (L : List Bool), i ≤ n ∧ iv = .int .i64 i ∧ Hid (SpR w wr ob n n L) ∧ Hid (OvR l B0 (ch : Int) L i 0)) (fun iv _ => n - (intOf iv).toNat)
  case atStart => exact ⟨0, _, Nat.zero_le _, rfl, HR2, HP1⟩
  case round =>
    clear HR2 HP1
    obtain ⟨i, L, hi, rfl, HR, HP⟩ := hrel
    by_cases hin : i < n
    · obtain ⟨x, hx⟩ : ∃ x, H[i]? = some x := ⟨H[i]'(by omega), List.getElem?_eq_getElem _⟩
      have HX := Lib.hid hx
      clear hx hob hmk
      go_wp2_with fail
      refine over_k w wr B hB A n c H HS l HL HG hlen hcm i hin x HX As cs B0 HB hcs ch ob n L HR HP _ _ _ _ _ _ _ _ _ _ _ _ _ _ _ _ _ _ _ _ _ _ _ _ _ _ _ _ _ _ _ _ _ _ _ _ _ _ _ _ _ _ _ _ _ _ _ _ _ _ _ _ _ _ _ _ (fun c a a' w hd h => by cases a; cases a'; cases hd; exact h) ?_
      intro L W x9 u10 u20 u21 u22 u23 u24 u25 u26 u27 u28 u29 u30 u31 u32 u33 u34 u35 u36 u37 u38 u39 u40 u41 u42 u43 u44 u45 u46 u47 u48 u49 u50 u51 u52 u53 u54 u55 u56 u57 HR HP
      go_wp2_with fail
      go_roundw
      case rel => exact ⟨i + 1, L, by omega, by go_num, HR, HP⟩
      case measure => simp [intOf]; omega
    · obtain rfl : i = n := by omega
      have HE : Hid ((fun y : Nat => L[y]? = some true) = ovP l (fun y => B0[y]? = some true) ch) := by
        have h1 := HP.out
        rw [← HLL.out] at h1
        exact h1.done
      clear HP hob hmk
      go_wp2_with fail
      refine (spread_any wr B (Nat.le_trans hB HR.out.bel.size) A i c H (HS.out.keep (HR.out.bel.mono hB) (Nat.le_refl _)) (by rw [HL.out]; exact HG.out) (some ⟨ob, 0, none⟩) i L (Sl.of_own HR.out.own) (fun h => by cases h)).mono ?_
      rintro e w2 ⟨A2, c2, rfl, hown2, hb2⟩
      rw [HL.out, HE.out] at hown2
      have HO2 := Lib.hid (own_lower hown2 HR.out.bel.size)
      have HB2 := Lib.hid (bcall HR.out.bel hb2)
      have hc2 : i ≤ c2 := by
        obtain ⟨A3, c3, e3, hc3⟩ := own_shape hown2
        injection e3 with _ _ e3
        omega
      clear hown2 hb2 HR
      go_wp2_with fail
      go_ret
      exact ⟨A2, c2, rfl, HO2.out, hc2, HB2.out⟩
open Classical in
set_option maxRecDepth 100000 in
set_option maxHeartbeats 8000000 in
theorem ends_any (w : World) (B : Nat) (hB : B ≤ w.heap.size) (A : Option Addr) (n c : Nat) (H : List Lsh) (h : LoIn w B A n c H) (As : Option Addr) (cs : Nat) (B0 : List Bool) (hs : Sl w w.heap.size 1 As n (B0.map .bool)) (hcs : n ≤ cs) :
    Calls Tryd.prog 33 #[.slice A n c, .slice As n cs] w fun e w' => e = .returned (.bool (endB (H.map (·.d)) fun y => B0[y]? = some true)) ∧ Below w.heap.size w w' := by
  have HS := Lib.hid h
  have HB := Lib.hid hs
  have hlen := h.len
  have hcm := h.cm
  clear h hs
  go_enter Tryd.func33, Tryd.ntmps33
  go_wp2_with fail
  go_loopw [5] (fun iv wr => ∃ i : Nat, i ≤ n ∧ iv = .int .i64 i ∧ Hid (∀ (z : Nat) x, z < i → H[z]? = some x → x.d.fin = true → B0[z]? ≠ some true) ∧ Hid (Below w.heap.size w wr)) (fun iv _ => n - (intOf iv).toNat)
  case atStart => exact ⟨0, Nat.zero_le _, rfl, fun z x h => absurd h (by omega), brefl w⟩
  case round =>
    obtain ⟨i, hi, rfl, HN, HBW⟩ := hrel
    by_cases hin : i < n
    · have hi2 : (i : Int) < (n : Int) := by omega
      obtain ⟨b, off, rfl, hb, hcell⟩ := (HS.out.keep (HBW.out.mono hB) (Nat.le_refl _)).at_ (by omega)
      obtain ⟨x, hx⟩ : ∃ x, H[i]? = some x := ⟨H[i]'(by omega), List.getElem?_eq_getElem _⟩
      obtain ⟨k0, _, _⟩ := hcell i x hx
      have hB0 : B0.length = n := by have := HB.out.1; rw [List.length_map] at this; omega
      obtain ⟨bi, hbi⟩ : ∃ bi, B0[i]? = some bi := ⟨B0[i]'(by omega), List.getElem?_eq_getElem _⟩
      obtain ⟨sb, so, rfl, hsb, hsc⟩ := HB.out.at_ hin
      have s0 := (HBW.out.cell (p := ⟨sb, so + i, none⟩) hsb).trans (hsc i (.bool bi) (by rw [List.getElem?_map, hbi]; rfl))
      have hbs := HBW.out.size
      have hbw : b < wr.heap.size := by omega
      have hsw : sb < wr.heap.size := by omega
      have HX := Lib.hid hx
      have HBI := Lib.hid hbi
      have HNX : Hid ((bi && x.d.fin) = false → ∀ (z : Nat) y, z < i + 1 → H[z]? = some y → y.d.fin = true → B0[z]? ≠ some true) := fun hf z y hz hy hfy hbz => by
        by_cases e : z < i
        · exact HN.out z y e hy hfy hbz
        · obtain rfl : z = i := by omega
          rw [HX.out] at hy
          injection hy with hy
          rw [HBI.out] at hbz
          injection hbz with hbz
          rw [hbz, hy, hfy] at hf
          cases hf
      have HYE : Hid (bi = true → x.d.fin = true → endB (H.map (·.d)) (fun y => B0[y]? = some true) = true) := fun h1 h2 => by
        unfold endB
        exact decide_eq_true ⟨i, x.d, by rw [List.getElem?_map, HX.out]; rfl, h2, by show B0[i]? = some true; rw [HBI.out, h1]⟩
      obtain ⟨fi, hfi⟩ : ∃ f, x.d.fin = f := ⟨_, rfl⟩
      rw [hfi] at k0 HNX HYE
      clear hcell hx hbi hsc hfi HN
      cases bi
      · go_wp2_with fail
        go_roundw
        case rel => exact ⟨i + 1, by omega, by go_num, HNX.out rfl, HBW⟩
        case measure => simp [intOf]; omega
      · cases fi
        · go_wp2_with fail
          go_roundw
          case rel => exact ⟨i + 1, by omega, by go_num, HNX.out rfl, HBW⟩
          case measure => simp [intOf]; omega
        · have HE := Lib.hid (HYE.out rfl rfl)
          clear HYE HNX
          go_wp2_with fail
          go_ret
          exact ⟨by rw [HE.out]; rfl, HBW.out⟩
    · obtain rfl : i = n := by omega
      have HE : Hid (endB (H.map (·.d)) (fun y => B0[y]? = some true) = false) := by
        show _ = _
        unfold endB
        refine decide_eq_false ?_
        rintro ⟨z, s, h1, h2, h3⟩
        rw [List.getElem?_map] at h1
        obtain ⟨x, hx, rfl⟩ := Option.map_eq_some_iff.1 h1
        exact HN.out z x (by have := (List.getElem?_eq_some_iff.1 hx).1; omega) hx h2 h3
      clear HN
      go_wp2_with fail
      go_ret
      exact ⟨by rw [HE.out]; rfl, HBW.out⟩
end Go.Proofs.YtebdffabfimmkaaDoor
/- The reference's apart in memory: rows of rows of bools of the call's own. -/
namespace Go.Proofs.YtebdffabfimmkaaDoor
open Go.RowKit Go.Maps

structure ApR (w W : World) (ob oc n : Nat) (R : List Br) : Prop where
  out : W.ownsRow w.heap.size 68 1 (.slice (some ⟨ob, 0, none⟩) n oc) n (R.map Br.val)
  fam : GFam W w.heap.size 4 1 (R.map Br.row)
  bel : Below w.heap.size w W
section
variable {w W W' : World} {ob oc n : Nat} {R : List Br}
theorem ApR.keep (h : ApR w W ob oc n R) (hb : Below W.heap.size W W') : ApR w W' ob oc n R := ⟨own_kept h.out hb, h.fam.below hb, bcall h.bel hb⟩
theorem ApR.len (h : ApR w W ob oc n R) : R.length = n := by
  have := h.out.1
  rw [List.length_map] at this
  omega
theorem ApR.own (h : ApR w W ob oc n R) {x : Br} (hx : x ∈ R) : W.ownsRow w.heap.size 4 1 (.slice x.A x.l.length x.c) x.l.length (x.l.map .bool) := h.fam.own x.row (List.mem_map.2 ⟨x, hx, rfl⟩)
theorem ApR.mat (h : ApR w W ob oc n R) (hl : ∀ x ∈ R, x.l.length = n) : Mat W W.heap.size (some ⟨ob, 0, none⟩) n R :=
  ⟨h.len, Sl.of_own h.out, fun x hx => ⟨Sl.of_own (h.own hx), hl x hx⟩⟩
theorem ApR.row (h : ApR w W ob oc n R) {i : Nat} {x : Br} (hx : R[i]? = some x) : W.cell? ⟨ob, i, none⟩ = some (.slice x.A x.l.length x.c) ∧ W.frozen? ⟨ob, i, none⟩ = false ∧ ob < W.heap.size := by
  obtain ⟨_, q2, cs, q3⟩ := own_blk h.out
  exact ⟨own_cell h.out (by rw [List.getElem?_map, hx]; rfl), free_at q3 _, q2⟩
theorem ApR.get (h : ApR w W ob oc n R) {i k : Nat} {x : Br} {b : Bool} (hx : R[i]? = some x) (hk : x.l[k]? = some b) : ∃ g, x.A = some ⟨g, 0, none⟩ ∧ g < W.heap.size ∧ W.cell? ⟨g, k, none⟩ = some (.bool b) ∧ W.frozen? ⟨g, k, none⟩ = false := by
  have ho := h.own (List.mem_of_getElem? hx)
  have hl := (List.getElem?_eq_some_iff.1 hk).1
  obtain ⟨g, hA, _, _⟩ := own_head ho (by omega)
  rw [hA] at ho
  obtain ⟨q1, q2, cs, q3⟩ := own_blk ho
  exact ⟨g, hA, q2, own_cell ho (by rw [List.getElem?_map, hk]; rfl), free_at q3 _⟩
/-- A bool is set. -/
theorem ApR.put (h : ApR w W ob oc n R) {i : Nat} {x : Br} {g : Nat} (hx : R[i]? = some x) (hA : x.A = some ⟨g, 0, none⟩) (k : Nat) (b : Bool) : ApR w (W.setCell ⟨g, k, none⟩ (.bool b)) ob oc n (R.set i ⟨x.A, x.c, x.l.set k b⟩) := by
  have ho := h.own (List.mem_of_getElem? hx)
  rw [hA] at ho
  obtain ⟨q1, q2, cs, q3⟩ := own_blk ho
  refine ⟨?_, ?_, below_set h.bel q1 (Nat.le_refl _)⟩
  · have h1 := own_other (j := k) (u := .bool b) h.out q3 (by decide)
    have e : (R.set i ⟨x.A, x.c, x.l.set k b⟩).map Br.val = R.map Br.val := by
      rw [List.map_set]
      have e2 : (⟨x.A, x.c, x.l.set k b⟩ : Br).val = x.val := by unfold Br.val; simp
      rw [e2]
      apply List.ext_getElem?
      intro j
      by_cases hj : i = j
      · subst hj
        rw [List.getElem?_set_self (by rw [List.length_map]; exact (List.getElem?_eq_some_iff.1 hx).1), List.getElem?_map, hx]
        rfl
      · rw [List.getElem?_set_ne hj]
    rw [e]
    exact h1
  · rw [List.map_set]
    have hxr : (R.map Br.row)[i]? = some x.row := by rw [List.getElem?_map, hx]; rfl
    have h1 := h.fam
    rw [set_split hxr]
    rw [split_at hxr] at h1
    have hv : x.row.v.ownBlock = some g := by show (Value.slice x.A _ _).ownBlock = _; rw [hA]; rfl
    refine h1.grow (W2 := W.setCell ⟨g, k, none⟩ (.bool b)) (by rw [hv]; exact set_grown _ _ _) ?_ (.inl (by show (Value.slice x.A _ _).ownBlock = _; rw [hA, hv]; rfl))
    have h2 := own_put (j := k) (u := .bool b) ho
    show (W.setCell _ _).ownsRow _ _ 1 (Value.slice x.A (x.l.set k b).length x.c) (x.l.set k b).length ((x.l.set k b).map .bool)
    rw [hA, List.length_set, List.map_set]
    exact h2
/-- A row is made. -/
theorem ApR.make (h : ApR w W ob oc n R) {i : Nat} {x : Br} (hx : R[i]? = some x) (hxA : x.A = none) (hn : n ≤ 1099511627776) {o : Obj} (ho : Obj.cells (madeCells #[.bool false] n) 4 = o) : ApR w ((W.setCell ⟨ob, i, none⟩ (.slice (some ⟨W.heap.size, 0, none⟩) n n)).alloc o) ob oc n (R.set i ⟨some ⟨W.heap.size, 0, none⟩, n, List.replicate n false⟩) := by
  subst ho
  obtain ⟨q1, q2, cs, q3⟩ := own_blk h.out
  have hb1 := below_set (k := ob) (j := i) (u := .slice (some ⟨W.heap.size, 0, none⟩) n n) h.bel q1 (Nat.le_refl _)
  have hsz : (W.setCell ⟨ob, i, none⟩ (.slice (some ⟨W.heap.size, 0, none⟩) n n)).heap.size = W.heap.size := by simp [World.setCell]
  have hf1 := h.fam.kept (set_grown W ⟨ob, i, none⟩ (.slice (some ⟨W.heap.size, 0, none⟩) n n)) fun z hz => own_types h.out (h.fam.own z hz) (by decide)
  have ho1 := own_put (j := i) (u := .slice (some ⟨W.heap.size, 0, none⟩) n n) h.out
  generalize W.setCell ⟨ob, i, none⟩ (.slice (some ⟨W.heap.size, 0, none⟩) n n) = W1 at *
  have hba := bnew (brefl W1) (.cells (madeCells #[.bool false] n) 4)
  have hr := own_made W1 (.bool false) n hn 4 rfl (Nat.le_refl W1.heap.size)
  refine ⟨?_, ?_, bcall hb1 hba⟩
  · rw [List.map_set]
    have e2 : (⟨some ⟨W.heap.size, 0, none⟩, n, List.replicate n false⟩ : Br).val = .slice (some ⟨W.heap.size, 0, none⟩) n n := by unfold Br.val; simp
    rw [e2]
    exact own_kept ho1 hba
  · rw [List.map_set]
    have hxr : (R.map Br.row)[i]? = some x.row := by rw [List.getElem?_map, hx]; rfl
    have hv : x.row.v.ownBlock = none := by show (Value.slice x.A _ _).ownBlock = _; rw [hxA]; rfl
    rw [split_at hxr] at hf1
    have h2 := hf1.grow (W2 := W1.alloc (.cells (madeCells #[.bool false] n) 4)) (y := (⟨some ⟨W.heap.size, 0, none⟩, n, List.replicate n false⟩ : Br).row) (by rw [hv]; exact World.grownBy_alloc W1 _ _) (by
      show (W1.alloc _).ownsRow _ _ 1 (Value.slice (some ⟨W.heap.size, 0, none⟩) (List.replicate n false).length n) (List.replicate n false).length ((List.replicate n false).map .bool)
      rw [List.length_replicate, List.map_replicate, ← hsz]
      exact own_lower hr hb1.size) (.inr ⟨W.heap.size, rfl, by rw [hsz]; exact Nat.le_refl _⟩)
    rw [← set_split hxr] at h2
    exact h2
end
end Go.Proofs.YtebdffabfimmkaaDoor
