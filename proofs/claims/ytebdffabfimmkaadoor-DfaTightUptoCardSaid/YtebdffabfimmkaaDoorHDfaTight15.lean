/- The inner loop of the reference's dead. -/
import Derived.Test.YtebdffabfimmkaaDoorHDfaTight8
import Derived.Test.YtebdffabfimmkaaDoorHDfaTight14
import Derived.Test.YtebdffabfimmkaaDoorHDfaTight6
import Derived.Test.YtebdffabfimmkaaDoorHDfaTight9
import Derived.Test.YtebdffabfimmkaaDoorHDfaTight12
namespace Go.Proofs.YtebdffabfimmkaaDoor
open Go.RowKit Go.Maps

def ons (L : List Bool) : Nat := (L.filter id).length
theorem ons_set {L : List Bool} {i : Nat} (h : L[i]? = some true) : ons (L.set i false) + 1 = ons L := by
  unfold ons
  induction L generalizing i with
  | nil => simp at h
  | cons b r ih =>
    cases i with
    | zero =>
      simp at h
      subst h
      simp
    | succ i =>
      simp at h
      have := ih h
      simp only [List.set_cons_succ]
      cases b <;> simp <;> omega
set_option linter.unusedVariables false in
set_option maxRecDepth 100000 in
set_option maxHeartbeats 8000000 in
theorem dead_k (w W0 : World) (B : Nat) (hB : B ≤ w.heap.size) (A : Option Addr) (n c : Nat) (H : List Sh) (HS : Hid (StsIn w B A n c H)) (d : List St) (HD : Hid (H.map (·.d) = d)) (HG : Hid (Good d)) (hlen : H.length = n) (hcm : n ≤ 20000) (i : Nat) (hi : i < n) (x : Sh) (HX : Hid (H[i]? = some x))
    (ob oc gk : Nat) (L : List Bool) (more : Bool) (HR0 : Hid (SpR w W0 ob oc n L)) (HP0 : Hid (DdP d L ∧ (more = false → DdTo d L i 0) ∧ 2 * ons L + (if more then 1 else 0) + 1 ≤ gk))
    (c1 c2 c4 c8 c9 c10 c11 c12 c13 c14 c15 c16 c17 c18 c19 c20 c21 c22 c23 c24 c25 c26 c27 c28 c29 c30 c31 c32 c65 u33 u34 u35 u36 u37 u38 u39 u40 u41 u42 u43 u44 u45 u46 u47 u48 u49 u50 u51 u52 u53 u54 u55 u56 u57 u58 u59 u60 u61 u62 u63 u64 : Value) (Q0 : Exit → Act → World → Prop) (hQ0 : ∀ c (a a' : Act) w, a.defers = a'.defers → Q0 (.panic c) a w → Q0 (.panic c) a' w)
    (hexit : ∀ (L : List Bool) (more : Bool) (W : World) (x7 u33 u34 u35 u36 u37 u38 u39 u40 u41 u42 u43 u44 u45 u46 u47 u48 u49 u50 u51 u52 u53 u54 u55 u56 u57 u58 u59 u60 u61 u62 u63 u64 : Value), Hid (SpR w W ob oc n L) → Hid (DdP d L ∧ (more = false → DdTo d L (i + 1) 0) ∧ 2 * ons L + (if more then 1 else 0) + 1 ≤ gk) → Q0 (.exit 6) ⟨List.toArray (.slice A n c :: c1 :: c2 :: .slice (some ⟨ob, 0, none⟩) n oc :: c4 :: .bool more :: .int .i64 (i : Int) :: x7 :: c8 :: c9 :: c10 :: c11 :: c12 :: c13 :: c14 :: c15 :: c16 :: c17 :: c18 :: c19 :: c20 :: c21 :: c22 :: c23 :: c24 :: c25 :: c26 :: c27 :: c28 :: c29 :: c30 :: c31 :: c32 :: u33 :: u34 :: u35 :: u36 :: u37 :: u38 :: u39 :: u40 :: u41 :: u42 :: u43 :: u44 :: u45 :: u46 :: u47 :: u48 :: u49 :: u50 :: u51 :: u52 :: u53 :: u54 :: u55 :: u56 :: u57 :: u58 :: u59 :: u60 :: u61 :: u62 :: u63 :: u64 :: c65 :: []), []⟩ W) :
    Code.wp Tryd.prog (.loop (loopOf Tryd.f38 3)) Q0 ⟨List.toArray (.slice A n c :: c1 :: c2 :: .slice (some ⟨ob, 0, none⟩) n oc :: c4 :: .bool more :: .int .i64 (i : Int) :: .int .i64 (0 : Int) :: c8 :: c9 :: c10 :: c11 :: c12 :: c13 :: c14 :: c15 :: c16 :: c17 :: c18 :: c19 :: c20 :: c21 :: c22 :: c23 :: c24 :: c25 :: c26 :: c27 :: c28 :: c29 :: c30 :: c31 :: c32 :: u33 :: u34 :: u35 :: u36 :: u37 :: u38 :: u39 :: u40 :: u41 :: u42 :: u43 :: u44 :: u45 :: u46 :: u47 :: u48 :: u49 :: u50 :: u51 :: u52 :: u53 :: u54 :: u55 :: u56 :: u57 :: u58 :: u59 :: u60 :: u61 :: u62 :: u63 :: u64 :: c65 :: []), []⟩ W0 := by
  obtain ⟨m, hm⟩ : ∃ m, x.d.2.length = m := ⟨_, rfl⟩
  have HM := Lib.hid hm
  have HXM := Lib.hid (List.mem_of_getElem? HX.out)
  have hmf := (HS.out.ar x HXM.out).2
  rw [hm] at hmf
  obtain ⟨hqc, hq20⟩ := hmf
  have HXL : Hid (d[i]? = some x.d) := by show _ = _; rw [← HD.out, List.getElem?_map, HX.out]; rfl
  have hll : d.length = n := by rw [← HD.out, List.length_map]; exact hlen
  have HLL := Lib.hid hll
  clear hm hll
  conv => arg 2; arg 1; whnf
  go_loopw [5, 7] (fun mv kv wr => ∃ (k : Nat) (L : List Bool) (more : Bool), k ≤ m ∧ mv = .bool more ∧ kv = .int .i64 k ∧ Hid (SpR w wr ob oc n L) ∧ Hid (DdP d L ∧ (more = false → DdTo d L i k) ∧ 2 * ons L + (if more then 1 else 0) + 1 ≤ gk)) (fun _ kv _ => m - (intOf kv).toNat)
  case atStart => exact ⟨0, L, more, Nat.zero_le _, rfl, rfl, HR0, HP0⟩
  case round =>
    clear HR0 HP0
    obtain ⟨k, L, more, hk, rfl, rfl, HR, HP⟩ := hrel
    have HW := Lib.hid (HS.out.keep (HR.out.bel.mono hB) (Nat.le_refl _))
    obtain ⟨b, off, rfl, hb, hcell⟩ := HW.out.at_ (by omega)
    obtain ⟨_, k1⟩ := hcell i x HX.out
    rw [HM.out] at k1
    have hbs := HR.out.bel.size
    have hbw : b < wr.heap.size := by omega
    have hLn := HR.out.len
    obtain ⟨bi, hbi⟩ : ∃ bi, L[i]? = some bi := ⟨L[i]'(by omega), List.getElem?_eq_getElem _⟩
    have o0 := HR.out.get hbi
    have hoc := HR.out.cap
    obtain ⟨_, how, _⟩ := own_blk HR.out.own
    have HBI := Lib.hid hbi
    have hi2 : (i : Int) < (n : Int) := by omega
    clear hcell hbi
    cases bi
    · have HPN : Hid (DdP d L ∧ (more = false → DdTo d L (i + 1) 0) ∧ 2 * ons L + (if more then 1 else 0) + 1 ≤ gk) := ⟨HP.out.1, fun h => (HP.out.2.1 h).next fun s hs hb => (by have h1 := HBI.out; rw [h1] at hb; cases hb), HP.out.2.2⟩
      go_wp2_with fail
      exact hexit L more wr _ _ _ _ _ _ _ _ _ _ _ _ _ _ _ _ _ _ _ _ _ _ _ _ _ _ _ _ _ _ _ _ _ HR HPN
    · by_cases hkm : k < m
      · have hkm2 : (k : Int) < (m : Int) := by omega
        have q0 : decide ((k : Int) < (m : Int)) = true := decide_eq_true hkm2
        have q01 : decide (k < m) = true := decide_eq_true hkm
        obtain ⟨fb, fo, hF, hfb, hfc⟩ := HW.out.arc HXM.out (by rw [HM.out]; omega)
        obtain ⟨⟨lo, hi', tt⟩, hz⟩ : ∃ z, x.d.2[k]? = some z := ⟨x.d.2[k]'(by rw [HM.out]; exact hkm), List.getElem?_eq_getElem _⟩
        obtain ⟨f0, f1, f2⟩ := hfc k _ hz
        simp only at f0 f1 f2
        have hzb := HG.out.to_ x.d (List.mem_of_getElem? HXL.out) _ (List.mem_of_getElem? hz)
        rw [HLL.out] at hzb
        simp only at hzb
        obtain ⟨t, rfl⟩ := Int.eq_ofNat_of_zero_le hzb.1
        have ht : t < n := by omega
        have ht2 : (t : Int) < (n : Int) := by omega
        have hfw : fb < wr.heap.size := by omega
        obtain ⟨bt, hbt⟩ : ∃ bi, L[t]? = some bi := ⟨L[t]'(by omega), List.getElem?_eq_getElem _⟩
        have o1 := HR.out.get hbt
        rw [hF] at k1
        have HZ := Lib.hid hz
        have HBT := Lib.hid hbt
        clear hfc hz hbt hzb
        cases bt
        · have HS1 := Lib.hid (HR.out.set i false)
          have hfz := HS1.out.2.1
          have HPN : Hid (DdP d (L.set i false) ∧ (true = false → DdTo d (L.set i false) i (k + 1)) ∧ 2 * ons (L.set i false) + (if true then 1 else 0) + 1 ≤ gk) := ⟨HP.out.1.set HG.out HXL.out (List.mem_of_getElem? HZ.out) (by rw [show ((lo, hi', (t : Int)) : Arc3).2.2 = (t : Int) from rfl, Int.toNat_natCast]; exact HBT.out), (fun h => by cases h), by
            have h1 := ons_set HBI.out
            have h2 := HP.out.2.2
            rw [if_pos rfl]
            omega⟩
          have HRN := Lib.hid HS1.out.1
          clear HS1 HR HP
          go_wp2_with fail
          go_roundw
          case rel => exact ⟨k + 1, L.set i false, true, by omega, rfl, by go_num, HRN, HPN⟩
          case measure => simp [intOf]; omega
        · have HPN : Hid (DdP d L ∧ (more = false → DdTo d L i (k + 1)) ∧ 2 * ons L + (if more then 1 else 0) + 1 ≤ gk) := ⟨HP.out.1, fun h => (HP.out.2.1 h).one HXL.out HZ.out (by rw [show ((lo, hi', (t : Int)) : Arc3).2.2 = (t : Int) from rfl, Int.toNat_natCast]; exact HBT.out), HP.out.2.2⟩
          clear HP
          go_wp2_with fail
          go_roundw
          case rel => exact ⟨k + 1, L, more, by omega, rfl, by go_num, HR, HPN⟩
          case measure => simp [intOf]; omega
      · obtain rfl : k = m := by omega
        have q0 : decide ((k : Int) < (k : Int)) = false := decide_eq_false (by omega)
        have HPN : Hid (DdP d L ∧ (more = false → DdTo d L (i + 1) 0) ∧ 2 * ons L + (if more then 1 else 0) + 1 ≤ gk) := ⟨HP.out.1, fun h => (HP.out.2.1 h).next fun s hs _ => (by
          have h1 := HXL.out
          rw [hs] at h1
          injection h1 with h1
          rw [h1, HM.out]
          exact Nat.le_refl _), HP.out.2.2⟩
        go_wp2_with fail
        exact hexit L more wr _ _ _ _ _ _ _ _ _ _ _ _ _ _ _ _ _ _ _ _ _ _ _ _ _ _ _ _ _ _ _ _ _ HR HPN
end Go.Proofs.YtebdffabfimmkaaDoor
/- The least automaton takes what its state takes, and is an automaton (plain Lean). -/
namespace Go.Proofs.YtebdffabfimmkaaDoor

/-- States that take nothing need not be entered. -/
theorem acc_live {σ : Type} (M : Au σ) : ∀ (s : List Nat) (x : σ), (⟨M.fin, M.stepL⟩ : Au σ).acc x s = M.acc x s
  | [], x => rfl
  | c :: r, x => by
    rw [Au.acc, Au.acc]
    by_cases hc : c < 256
    · rw [if_pos hc, if_pos hc]
      show (match M.stepL x c with | some y => _ | none => _) = _
      unfold Au.stepL
      cases hx : M.step x c with
      | none => rfl
      | some y =>
        simp only
        by_cases hl : M.live y
        · rw [if_pos hl]
          exact acc_live M r y
        · rw [if_neg hl]
          simp only
          cases ha : M.acc y r with
          | false => rfl
          | true => exact absurd ⟨r, ha⟩ hl
    · rw [if_neg hc, if_neg hc]
open Classical in
theorem LeastIs.leq {σ : Type} {M : Au σ} {x : σ} {out : List St} (h : LeastIs M x out) : Leq (auOf out) 0 M x := by
  rcases h with ⟨hl, r, hr, f, hf, rfl⟩ | ⟨hl, rfl⟩
  · intro s
    have hrefl : ∀ y, (leastW M r).eqv ((leastW M r).rep y) y = true := fun y => decide_eq_true (hr y)
    have hh := run_head (leastW M r) x f
    have := out_leq (leastW M r) M.fin (met := (leastW M r).run f 0 [x]) (fun z y hzy => fun s => by
      have hzy : Leq M z M y := of_decide_eq_true hzy
      exact (acc_live M s z).trans ((hzy s).trans (acc_live M s y).symm)) (fun y hy => by
      obtain ⟨j, hj⟩ := List.mem_iff_getElem?.1 hy
      have h1 := (List.getElem?_eq_some_iff.1 hj).1
      have h2 := List.getElem?_eq_none_iff.1 hf
      exact Bfs.run_met _ hrefl x f j y (by omega) hj) s 0 x hh
    exact this.trans (acc_live M s x)
  · intro s
    have : M.acc x s = false := by
      cases ha : M.acc x s with
      | false => rfl
      | true => exact absurd ⟨s, ha⟩ hl
    rw [this]
    cases s with
    | nil => rfl
    | cons c r =>
      rw [Au.acc]
      split
      · rfl
      · rfl
theorem LeastIs.ne {σ : Type} {M : Au σ} {x : σ} {out : List St} (h : LeastIs M x out) : 0 < out.length := by
  rcases h with ⟨hl, r, hr, f, hf, rfl⟩ | ⟨hl, rfl⟩
  · have hh := (List.getElem?_eq_some_iff.1 (run_head (leastW M r) x f)).1
    unfold leastOf Bfs.out
    rw [List.length_map]
    exact hh
  · exact Nat.zero_lt_one
theorem LeastIs.good {σ : Type} {M : Au σ} {x : σ} {out : List St} (h : LeastIs M x out) (hl : out.length ≤ 20000) : Good out := by
  have hn := h.ne
  rcases h with ⟨_, r, hr, f, hf, rfl⟩ | ⟨_, rfl⟩
  · have hh := (List.getElem?_eq_some_iff.1 (run_head (leastW M r) x f)).1
    refine out_good _ _ (fun e => ?_) (by unfold leastOf Bfs.out at hl; rwa [List.length_map] at hl)
    rw [e] at hh
    cases hh
  · exact (good_iff _).1 (by decide)
end Go.Proofs.YtebdffabfimmkaaDoor
/- Which states are told apart, in the making (plain Lean). -/
namespace Go.Proofs.YtebdffabfimmkaaDoor

/-- Where a byte leads, without what is marked. -/
def toG (d : List St) (L : List Bool) (i c : Nat) : Option Nat := match (auOf d).step i c with
  | some y => if L[y]? = some true then none else some y
  | none => none
/-- The marks are right: marked just if nothing is taken. -/
def Gone (d : List St) (L : List Bool) : Prop := L.length = d.length ∧ ∀ i : Nat, i < d.length → (L[i]? = some true ↔ ¬ (auOf d).live i)
theorem toG_stepL {d : List St} (hg : Good d) {L : List Bool} (h : Gone d L) {i : Nat} (hi : i < d.length) (c : Nat) : toG d L i c = (auOf d).stepL i c := by
  unfold toG Au.stepL
  cases hs : (auOf d).step i c with
  | none => rfl
  | some y =>
    have hy := hg.within i hi c y hs
    simp only
    by_cases hl : (auOf d).live y
    · rw [if_pos hl, if_neg fun e => (h.2 y hy).1 e hl]
    · rw [if_neg hl, if_pos ((h.2 y hy).2 hl)]
def cellF (F : List (List Bool)) (i k : Nat) : Option Bool := (F[i]?).bind fun r => r[k]?
/-- Does a byte lead two states to such as are apart? -/
def unl (d : List St) (L : List Bool) (F : List (List Bool)) (i k c : Nat) : Bool := match toG d L i c, toG d L k c with
  | none, none => false
  | some x, some y => (cellF F x y).getD true
  | _, _ => true
def unlB (d : List St) (L : List Bool) (F : List (List Bool)) (i k : Nat) : Bool := (List.range 256).any (unl d L F i k)
structure ApP (d : List St) (F : List (List Bool)) : Prop where
  len : F.length = d.length
  row : ∀ r ∈ F, r.length = d.length
  sound : ∀ i k, cellF F i k = some true → ∃ t, (auOf d).acc i t ≠ (auOf d).acc k t
  base : ∀ i k, i < d.length → k < d.length → (auOf d).fin i ≠ (auOf d).fin k → cellF F i k = some true
theorem cell_some {d : List St} {F : List (List Bool)} (h : ApP d F) {i k : Nat} (hi : i < d.length) (hk : k < d.length) : ∃ b, cellF F i k = some b := by
  unfold cellF
  have h1 : i < F.length := by rw [h.len]; exact hi
  rw [List.getElem?_eq_getElem h1]
  have h2 := h.row F[i] (List.getElem_mem h1)
  exact ⟨F[i][k]'(by omega), List.getElem?_eq_getElem _⟩
theorem cell_set {F : List (List Bool)} {i k x y : Nat} {r : List Bool} (hr : F[i]? = some r) (hk : k < r.length) : cellF (F.set i (r.set k true)) x y = if x = i ∧ y = k then some true else cellF F x y := by
  unfold cellF
  have hi := (List.getElem?_eq_some_iff.1 hr).1
  rw [List.getElem?_set]
  by_cases e : i = x
  · subst e
    rw [if_pos rfl, if_pos hi, hr]
    show (r.set k true)[y]? = if _ then _ else r[y]?
    rw [List.getElem?_set]
    by_cases e2 : k = y
    · subst e2
      rw [if_pos rfl, if_pos hk, if_pos ⟨rfl, rfl⟩]
    · rw [if_neg e2, if_neg fun h => e2 h.2.symm]
  · rw [if_neg e, if_neg fun h => e h.1.symm]
/-- What is unlike is told apart. -/
theorem unl_sound {d : List St} (hg : Good d) {L : List Bool} (hL : Gone d L) {F : List (List Bool)} (h : ApP d F) {i k : Nat} (hi : i < d.length) (hk : k < d.length) (hu : unlB d L F i k = true) : ∃ t, (auOf d).acc i t ≠ (auOf d).acc k t := by
  unfold unlB at hu
  obtain ⟨c, hc, hu⟩ := List.any_eq_true.1 hu
  have hc := List.mem_range.1 hc
  unfold unl at hu
  rw [toG_stepL hg hL hi, toG_stepL hg hL hk] at hu
  have key : ∀ (j : Nat) (t : List Nat), (auOf d).acc j (c :: t) = match (auOf d).stepL j c with | some y => (auOf d).acc y t | none => false := fun j t => by
    rw [← acc_live (auOf d) (c :: t) j, Au.acc, if_pos hc]
    rw [show (⟨(auOf d).fin, (auOf d).stepL⟩ : Au Nat).step j c = (auOf d).stepL j c from rfl]
    cases (auOf d).stepL j c with
    | none => rfl
    | some y => exact acc_live (auOf d) t y
  have live : ∀ (j y : Nat), (auOf d).stepL j c = some y → (auOf d).live y := fun j y hy => by
    unfold Au.stepL at hy
    split at hy
    · split at hy
      · rename_i hl
        injection hy with hy
        rw [← hy]
        exact hl
      · cases hy
    · cases hy
  have lt : ∀ (j y : Nat), j < d.length → (auOf d).stepL j c = some y → y < d.length := fun j y hj hy => by
    unfold Au.stepL at hy
    split at hy
    · rename_i z hz
      split at hy
      · injection hy with hy
        rw [← hy]
        exact hg.within j hj c z hz
      · cases hy
    · cases hy
  cases hx : (auOf d).stepL i c with
  | none =>
    cases hy : (auOf d).stepL k c with
    | none => rw [hx, hy] at hu; cases hu
    | some y =>
      obtain ⟨t, ht⟩ := live k y hy
      refine ⟨c :: t, ?_⟩
      rw [key, key, hx, hy]
      simp [ht]
  | some x =>
    cases hy : (auOf d).stepL k c with
    | none =>
      obtain ⟨t, ht⟩ := live i x hx
      refine ⟨c :: t, ?_⟩
      rw [key, key, hx, hy]
      simp [ht]
    | some y =>
      rw [hx, hy] at hu
      obtain ⟨b, hb⟩ := cell_some h (lt i x hi hx) (lt k y hk hy)
      simp only [hb, Option.getD_some] at hu
      subst hu
      obtain ⟨t, ht⟩ := h.sound x y hb
      refine ⟨c :: t, ?_⟩
      rw [key, key, hx, hy]
      exact ht
/-- At the end what is not told apart takes the same. -/
theorem ApP.done {d : List St} (hg : Good d) {L : List Bool} (hL : Gone d L) {F : List (List Bool)} (h : ApP d F) (hc : ∀ i k, i < d.length → k < d.length → cellF F i k = some false → unlB d L F i k = false) : ∀ (t : List Nat) (i k : Nat), i < d.length → k < d.length → cellF F i k = some false → (auOf d).acc i t = (auOf d).acc k t
  | [], i, k, hi, hk, hf => by
    show (auOf d).fin i = (auOf d).fin k
    by_cases e : (auOf d).fin i = (auOf d).fin k
    · exact e
    · have := h.base i k hi hk e
      rw [hf] at this
      cases this
  | c :: t, i, k, hi, hk, hf => by
    rw [← acc_live (auOf d) (c :: t) i, ← acc_live (auOf d) (c :: t) k, Au.acc, Au.acc]
    by_cases hc256 : c < 256
    · rw [if_pos hc256, if_pos hc256]
      have hu := hc i k hi hk hf
      unfold unlB at hu
      have hu := List.any_eq_false.1 hu c (List.mem_range.2 hc256)
      unfold unl at hu
      rw [toG_stepL hg hL hi, toG_stepL hg hL hk] at hu
      have lt : ∀ (j y : Nat), j < d.length → (auOf d).stepL j c = some y → y < d.length := fun j y hj hy => by
        unfold Au.stepL at hy
        split at hy
        · rename_i z hz
          split at hy
          · injection hy with hy
            rw [← hy]
            exact hg.within j hj c z hz
          · cases hy
        · cases hy
      rw [show (⟨(auOf d).fin, (auOf d).stepL⟩ : Au Nat).step i c = (auOf d).stepL i c from rfl, show (⟨(auOf d).fin, (auOf d).stepL⟩ : Au Nat).step k c = (auOf d).stepL k c from rfl]
      cases hx : (auOf d).stepL i c with
      | none =>
        cases hy : (auOf d).stepL k c with
        | none => rfl
        | some y => rw [hx, hy] at hu; exact absurd rfl hu
      | some x =>
        cases hy : (auOf d).stepL k c with
        | none => rw [hx, hy] at hu; exact absurd rfl hu
        | some y =>
          rw [hx, hy] at hu
          obtain ⟨b, hb⟩ := cell_some h (lt i x hi hx) (lt k y hk hy)
          simp only [hb, Option.getD_some] at hu
          have hb2 : cellF F x y = some false := by rw [hb]; cases b with | false => rfl | true => exact absurd rfl hu
          have h3 := h.done hg hL hc t x y (lt i x hi hx) (lt k y hk hy) hb2
          show (⟨(auOf d).fin, (auOf d).stepL⟩ : Au Nat).acc x t = (⟨(auOf d).fin, (auOf d).stepL⟩ : Au Nat).acc y t
          rw [acc_live, acc_live]
          exact h3
    · rw [if_neg hc256, if_neg hc256]
end Go.Proofs.YtebdffabfimmkaaDoor
/- The reference's dead. -/
namespace Go.Proofs.YtebdffabfimmkaaDoor
open Go.RowKit Go.Maps

theorem ddp_start {d : List St} : DdP d (d.map fun s => !s.1) := by
  refine ⟨List.length_map .., fun i hi => ⟨[], ?_⟩, fun i s hs hf => ?_⟩
  · rw [List.getElem?_map] at hi
    obtain ⟨s, hs, hf⟩ := Option.map_eq_some_iff.1 hi
    show ((d[i]?).map (·.1)).getD false = true
    rw [hs]
    show s.1 = true
    simpa using hf
  · rw [List.getElem?_map, hs]
    show some (!s.1) = _
    rw [hf]
    rfl
theorem ddp_gone {d : List St} {L : List Bool} (h : DdP d L) (hc : DdTo d L d.length 0) : Gone d L := by
  refine ⟨h.len, fun i hi => ⟨fun h1 ⟨t, ht⟩ => ?_, fun h1 => ?_⟩⟩
  · rw [h.done hc t i h1] at ht
    cases ht
  · obtain ⟨b, hb⟩ : ∃ b, L[i]? = some b := ⟨L[i]'(by rw [h.len]; exact hi), List.getElem?_eq_getElem _⟩
    cases b with
    | true => exact hb
    | false => exact absurd (h.live i hb) h1
set_option maxRecDepth 100000 in
set_option maxHeartbeats 8000000 in
theorem dead_any (w : World) (B : Nat) (hB : B ≤ w.heap.size) (A : Option Addr) (n c : Nat) (H : List Sh) (h : StsIn w B A n c H) (hg : Good (H.map (·.d))) :
    Calls Tryd.prog 38 #[.slice A n c] w fun e w' => ∃ ob oc L, e = .returned (.slice (some ⟨ob, 0, none⟩) n oc) ∧ SpR w w' ob oc n L ∧ Gone (H.map (·.d)) L := by
  have HS := Lib.hid h
  have hlen := h.len
  obtain ⟨d, hd⟩ : ∃ d, H.map (·.d) = d := ⟨_, rfl⟩
  have HD := Lib.hid hd
  have hll : d.length = n := by rw [← hd, List.length_map]; exact hlen
  have HLL := Lib.hid hll
  have hnp : 0 < n := by rw [← hll, ← hd]; exact List.length_pos_iff.2 hg.ne
  rw [hd] at hg ⊢
  have HG := Lib.hid hg
  have hcm : n ≤ 20000 := by rw [← hll]; exact hg.few
  have hmk := make_bool n (by omega)
  have HR1 : Hid (SpR w (w.alloc (.cells (madeCells #[.bool false] n) 4)) w.heap.size n n (List.replicate n false)) := ⟨by
    have h1 := own_made w (.bool false) n (by omega) 4 rfl (Nat.le_refl w.heap.size)
    rw [List.map_replicate]
    exact h1, bnew (brefl w) _⟩
  clear h hg hd hll
  go_enter Tryd.func38, Tryd.ntmps38
  go_wp2_with fail
  generalize w.alloc (.cells (madeCells #[.bool false] n) 4) = w1 at *
  obtain ⟨ob, hob⟩ : ∃ k, w.heap.size = k := ⟨_, rfl⟩
  have HR2 : Hid (SpR w w1 ob n n ((d.take 0).map (fun s => !s.1) ++ List.replicate (n - 0) false)) := by rw [← hob]; exact HR1.out
  rw [hob]
  clear HR1 hmk hob
  go_loopw [4] (fun iv wr => ∃ i : Nat, i ≤ n ∧ iv = .int .i64 i ∧ Hid (SpR w wr ob n n ((d.take i).map (fun s => !s.1) ++ List.replicate (n - i) false))) (fun iv _ => n - (intOf iv).toNat)
  case atStart => exact ⟨0, Nat.zero_le _, rfl, HR2⟩
  case round =>
    clear HR2
    obtain ⟨i, hi, rfl, HR⟩ := hrel
    by_cases hin : i < n
    · obtain ⟨x, hx⟩ : ∃ x, H[i]? = some x := ⟨H[i]'(by omega), List.getElem?_eq_getElem _⟩
      obtain ⟨b, off, rfl, hb, hcell⟩ := (HS.out.keep (HR.out.bel.mono hB) (Nat.le_refl _)).at_ (by omega)
      obtain ⟨k0, _⟩ := hcell i x hx
      have hbs := HR.out.bel.size
      have hbw : b < wr.heap.size := by omega
      have hi2 : (i : Int) < (n : Int) := by omega
      have hdx : d[i]? = some x.d := by rw [← HD.out, List.getElem?_map, hx]; rfl
      have htl : ((d.take i).map (fun s => !s.1)).length = i := by rw [List.length_map, List.length_take, HLL.out]; omega
      have o0 := HR.out.get (t := i) (b := false) (by
        rw [List.getElem?_append_right (by omega), htl, Nat.sub_self, List.getElem?_replicate, if_pos (by omega)])
      have HS1 := Lib.hid (HR.out.set i (!x.d.1))
      have hfz := HS1.out.2.1
      have how := HS1.out.2.2
      have HRN : Hid (SpR w (wr.setCell ⟨ob, i, none⟩ (.bool (!x.d.1))) ob n n ((d.take (i + 1)).map (fun s => !s.1) ++ List.replicate (n - (i + 1)) false)) := by
        have h1 := HS1.out.1
        have h2 : ((d.take i).map (fun s => !s.1) ++ List.replicate (n - i) false).set i (!x.d.1) = (d.take (i + 1)).map (fun s => !s.1) ++ List.replicate (n - (i + 1)) false := by
          rw [List.set_append_right _ _ (by omega), htl, Nat.sub_self, List.take_add_one, hdx, show n - i = (n - (i + 1)) + 1 by omega, List.replicate_succ]
          simp
        rw [h2] at h1
        exact h1
      obtain ⟨fx, hfx⟩ : ∃ f, x.d.1 = f := ⟨_, rfl⟩
      rw [hfx] at k0 HRN
      clear hcell hx hdx htl HS1 HR hfx
      cases fx
      all_goals
        go_wp2_with fail
        go_roundw
        case rel => exact ⟨i + 1, by omega, by go_num, HRN⟩
        case measure => simp [intOf]; omega
    · obtain rfl : i = n := by omega
      have HR1 : Hid (SpR w wr ob i i (d.map fun s => !s.1)) := by
        have h1 := HR.out
        rw [← HLL.out, Nat.sub_self, List.take_length, List.replicate_zero, List.append_nil] at h1
        rw [← HLL.out]
        exact h1
      have HP1 : Hid (DdP d (d.map fun s => !s.1) ∧ (true = false → DdTo d (d.map fun s => !s.1) d.length 0)) := ⟨ddp_start, fun h => by cases h⟩
      clear HR
      generalize hL0 : (d.map fun s => !s.1) = L0 at HR1 HP1
      clear hL0
      go_wp2_with fail
      go_loopg [5] (2 * ons L0 + 1) (fun gk mv wr => ∃ (L : List Bool) (more : Bool), mv = .bool more ∧ Hid (SpR w wr ob i i L) ∧ Hid (DdP d L ∧ (more = false → DdTo d L d.length 0)) ∧ Hid (2 * ons L + (if more then 1 else 0) ≤ gk))
      case atStart => exact ⟨L0, true, rfl, HR1, ⟨HP1.out.1, fun h => by cases h⟩, Nat.le_refl _⟩
      case round =>
        clear HR1 HP1
        obtain ⟨L, more, rfl, HR, HP, HK⟩ := hrel
        cases more
        · have HE := Lib.hid (ddp_gone HP.out.1 (HP.out.2 rfl))
          clear HP HK
          go_wp2_with fail
          go_ret
          exact ⟨_, _, L, rfl, HR.out, HE.out⟩
        · have HP2 : Hid (DdP d L ∧ DdTo d L 0 0 ∧ 2 * ons L + 0 + 1 ≤ gk) := ⟨HP.out.1, .zero _ _, HK.out⟩
          clear HP HK
          go_wp2_with fail
          go_loopw [5, 6] (fun mv iv wr => ∃ (q : Nat) (L : List Bool) (more : Bool), q ≤ i ∧ mv = .bool more ∧ iv = .int .i64 q ∧ Hid (SpR w wr ob i i L) ∧ Hid (DdP d L ∧ (more = false → DdTo d L q 0) ∧ 2 * ons L + (if more then 1 else 0) + 1 ≤ gk)) (fun _ iv _ => i - (intOf iv).toNat)
          case atStart => exact ⟨0, L, false, Nat.zero_le _, rfl, rfl, HR, Lib.hid ⟨HP2.out.1, fun _ => HP2.out.2.1, HP2.out.2.2⟩⟩
          case round =>
            clear HR HP2
            obtain ⟨q, L, more, hq, rfl, rfl, HR, HP⟩ := hrel
            by_cases hqn : q < i
            · obtain ⟨x, hx⟩ : ∃ x, H[q]? = some x := ⟨H[q]'(by omega), List.getElem?_eq_getElem _⟩
              have HX := Lib.hid hx
              clear hx
              go_wp2_with fail
              refine dead_k w wr B hB A i c H HS d HD HG hlen hcm q hqn x HX ob i gk L more HR HP _ _ _ _ _ _ _ _ _ _ _ _ _ _ _ _ _ _ _ _ _ _ _ _ _ _ _ _ _ _ _ _ _ _ _ _ _ _ _ _ _ _ _ _ _ _ _ _ _ _ _ _ _ _ _ _ _ _ _ _ _ _ (fun c a a' w hd h => by cases a; cases a'; cases hd; exact h) ?_
              intro L more W x7 u33 u34 u35 u36 u37 u38 u39 u40 u41 u42 u43 u44 u45 u46 u47 u48 u49 u50 u51 u52 u53 u54 u55 u56 u57 u58 u59 u60 u61 u62 u63 u64 HR HP
              go_wp2_with fail
              go_roundw
              case rel => exact ⟨q + 1, L, more, by omega, rfl, by go_num, HR, HP⟩
              case measure => simp [intOf]; omega
            · obtain rfl : q = i := by omega
              have HPZ : Hid (DdP d L ∧ (more = false → DdTo d L d.length 0)) := ⟨HP.out.1, by rw [HLL.out]; exact HP.out.2.1⟩
              have HKZ : Hid (2 * ons L + (if more then 1 else 0) + 1 ≤ gk) := HP.out.2.2
              clear HP
              go_wp2_with fail
              go_roundg (gk - 1)
              case measure => have := HKZ.out; omega
              case rel => exact ⟨L, more, rfl, HR, HPZ, by have := HKZ.out; show _ ≤ _; omega⟩
end Go.Proofs.YtebdffabfimmkaaDoor
