/- fst.Open in plain Lean: the nodes out of bytes, how many terms they have. -/
import Derived.Test.YtheickndnniomaaDoorRead
import Derived.Test.YtheickndnniomaaDoorAllw
import Derived.Test.YtheickndnniomaaDoorBuild
namespace Go.Proofs.YtheickndnniomaaDoor
open Go.RowKit Go.Maps

def WayN (n : Nat) (x : Int × Int × Int) : Prop := (0 ≤ x.1 ∧ x.1 ≤ 255) ∧ pos63 x.2.1 ∧ 0 ≤ x.2.2 ∧ x.2.2 < (n : Int)
theorem readCnt_less (t : List UInt8) (h : (readCnt t).2.1 = 0) : (readCnt t).2.2.length < t.length := by
  unfold readCnt at h ⊢
  split
  · rename_i hc; rw [if_pos hc] at h; cases h
  · rename_i hc
    rw [if_neg hc] at h
    unfold readNum at h ⊢
    split
    · rename_i he
      obtain ⟨k, hk, k1, k2⟩ := numR_k t he
      show (t.drop (numR t).2.1.toNat).length < _
      rw [hk, Int.toNat_natCast, List.length_drop]
      omega
    · rename_i he
      rw [if_neg he] at h
      exact absurd h he
theorem rdN_in : ∀ (k : Nat) (acc : List Int) (t : List UInt8), (rdN k acc t).1 = 0 → ∃ more, (rdN k acc t).2.1 = acc ++ more ∧ more.length = k ∧ (∀ z ∈ more, pos63 z) ∧ (rdN k acc t).2.2.length + k ≤ t.length
  | 0, acc, t, _ => ⟨[], by simp [rdN], rfl, by simp, by simp [rdN]⟩
  | k + 1, acc, t, h => by
    by_cases h0 : (readCnt t).2.1 = 0
    · rw [rdN_ok _ _ h0] at h ⊢
      obtain ⟨more, h1, h2, h3, h4⟩ := rdN_in k _ _ h
      have hl := readCnt_less t h0
      refine ⟨(readCnt t).1 :: more, by rw [h1, List.append_assoc]; rfl, by rw [List.length_cons, h2], ?_, by omega⟩
      intro z hz
      rcases List.mem_cons.1 hz with rfl | hz
      · exact readCnt_in t h0
      · exact h3 z hz
    · rw [rdN_err _ _ h0] at h
      exact absurd h h0
def sizeOf (sz : List Int) (x : Int × Int × Int) : Int := sz.getD x.2.2.toNat 0
theorem getD_in {sz : List Int} {lo hi : Int} (h : ∀ x ∈ sz, lo ≤ x ∧ x ≤ hi) (h0 : lo ≤ 0 ∧ 0 ≤ hi) (i : Nat) : lo ≤ sz.getD i 0 ∧ sz.getD i 0 ≤ hi := by
  rw [List.getD_eq_getElem?_getD]
  cases hx : sz[i]? with
  | none => exact h0
  | some x => exact h x (List.mem_of_getElem? hx)
theorem rdW_in {n : Nat} {sz dp : List Int} (hs : ∀ x ∈ sz, 0 ≤ x ∧ x ≤ 65536) (hd : ∀ x ∈ dp, 0 ≤ x ∧ x ≤ 64) : ∀ (k : Nat) (ws : Ways) (s d : Int) (t : List UInt8), (rdW n sz dp k ws s d t).1 = 0 → 0 ≤ d → ∃ more, (rdW n sz dp k ws s d t).2.1 = ws ++ more ∧ more.length = k ∧ (∀ x ∈ more, WayN n x) ∧ (rdW n sz dp k ws s d t).2.2.1 = s + (more.map (sizeOf sz)).sum ∧ d ≤ (rdW n sz dp k ws s d t).2.2.2.1 ∧ (rdW n sz dp k ws s d t).2.2.2.2.length ≤ t.length
  | 0, ws, s, d, t, _, _ => ⟨[], by simp [rdW], rfl, by simp, by simp [rdW], by simp [rdW], by simp [rdW]⟩
  | k + 1, ws, s, d, t, h, h0 => by
    obtain ⟨⟨e, vs, u⟩, hr⟩ : ∃ r, rdN 3 [] t = r := ⟨_, rfl⟩
    by_cases he : e = 0
    · subst he
      obtain ⟨more, h1, h2, h3, h4⟩ := rdN_in 3 [] t (by rw [hr])
      rw [hr, List.nil_append] at h1
      rw [hr] at h4
      simp only at h1 h4
      subst h1
      obtain ⟨a, b, c, rfl⟩ : ∃ a b c, vs = [a, b, c] := by
        match vs, h2 with
        | [a, b, c], _ => exact ⟨a, b, c, rfl⟩
      have ha := h3 a (by simp)
      have hb := h3 b (by simp)
      have hc := h3 c (by simp)
      by_cases hbad : 255 < a ∨ (n : Int) ≤ c
      · rw [rdW_bad hr hbad] at h
        exact absurd h (by simp)
      · obtain ⟨q, rfl⟩ := Int.eq_ofNat_of_zero_le hc.1
        have hq : q < n := by omega
        have ha2 : a ≤ 255 := by omega
        rw [rdW_go hr ha2 hq] at h ⊢
        have hdd : d ≤ (if 0 < sz.getD q 0 then max d (dp.getD q 0 + 1) else d) := by split <;> omega
        obtain ⟨more, g1, g2, g3, g4, g5, g6⟩ := rdW_in hs hd k _ _ _ _ h (by omega)
        refine ⟨(a, b, (q : Int)) :: more, by rw [g1, List.append_assoc]; rfl, by rw [List.length_cons, g2], ?_, ?_, by omega, by omega⟩
        · intro x hx
          rcases List.mem_cons.1 hx with rfl | hx
          · exact ⟨⟨ha.1, ha2⟩, hb, by show (0 : Int) ≤ (q : Int); omega, by show (q : Int) < (n : Int); omega⟩
          · exact g3 x hx
        · rw [g4, List.map_cons, List.sum_cons]
          have : sizeOf sz (a, b, (q : Int)) = sz.getD q 0 := rfl
          omega
    · rw [rdW_err hr he] at h
      exact absurd h he
def finN (b : Bool) : Int := if b then 1 else 0
theorem rdFin_in {fin : Bool} {out : Int} {w : Int × Ways × Int × Int × List UInt8} {d : Nd} {s h : Int} {u : List UInt8} (hr : rdFin fin out w = (0, d, s, h, u)) : w = (0, d.ways, s, h, u) ∧ d.fin = fin ∧ d.out = out ∧ s ≤ 65536 ∧ h ≤ 64 := by
  obtain ⟨e, ws, s', h', u'⟩ := w
  unfold rdFin at hr
  simp only at hr
  split at hr
  · rename_i he
    injection hr with h1 _
    exact absurd h1 he
  split at hr
  · injection hr with h1 _
    cases h1
  rename_i he hb
  have he : e = 0 := by simpa using he
  subst he
  injection hr with _ hr
  injection hr with h1 hr
  injection hr with h2 hr
  injection hr with h3 h4
  subst h1 h2 h3 h4
  exact ⟨rfl, rfl, rfl, by omega, by omega⟩
theorem rdNode_in {n : Nat} {sz dp : List Int} (hs : ∀ x ∈ sz, 0 ≤ x ∧ x ≤ 65536) (hd : ∀ x ∈ dp, 0 ≤ x ∧ x ≤ 64) {t : List UInt8} {d : Nd} {s h : Int} {u : List UInt8} (hr : rdNode n sz dp t = (0, d, s, h, u)) :
    pos63 d.out ∧ (∀ x ∈ d.ways, WayN n x) ∧ d.ways.length ≤ 256 ∧ s ≤ 65536 ∧ 0 ≤ s ∧ 0 ≤ h ∧ h ≤ 64 ∧ s = finN d.fin + (d.ways.map (sizeOf sz)).sum ∧ u.length < t.length := by
  have hpos : ∀ l : Ways, 0 ≤ (l.map (sizeOf sz)).sum := by
    intro l
    induction l with
    | nil => simp
    | cons x r ih =>
      rw [List.map_cons, List.sum_cons]
      have := (getD_in hs ⟨by omega, by omega⟩ x.2.2.toNat).1
      unfold sizeOf at ih ⊢
      omega
  by_cases h1 : (readCnt t).2.1 ≠ 0
  · rw [rdNode_1 h1] at hr
    injection hr with e _
    exact absurd e h1
  have h1 : (readCnt t).2.1 = 0 := by simpa using h1
  have hl1 := readCnt_less t h1
  have hp1 := readCnt_in t h1
  by_cases h2 : 513 < (readCnt t).1
  · rw [rdNode_2 h1 h2] at hr
    injection hr with e _
    cases e
  by_cases h3 : (readCnt t).1 % 2 = 1
  · by_cases h4 : (readCnt (readCnt t).2.2).2.1 = 0
    · rw [rdNode_4 h1 (by omega) h3 h4] at hr
      obtain ⟨e1, e2, e3, e4, e5⟩ := rdFin_in hr
      obtain ⟨more, g1, g2, g3, g4, g5, g6⟩ := rdW_in hs hd _ _ _ _ _ (by rw [e1]) (Int.le_refl 0)
      rw [e1] at g1 g4 g5 g6
      simp only [List.nil_append] at g1 g4 g5 g6
      subst g1
      have hl4 := readCnt_len (readCnt t).2.2
      have := hpos d.ways
      refine ⟨by rw [e3]; exact readCnt_in _ h4, g3, by have := hp1.1; omega, e4, by omega, g5, e5, ?_, by omega⟩
      rw [g4, e2]
      rfl
    · rw [rdNode_3 h1 (by omega) h3 h4] at hr
      injection hr with e _
      exact absurd e h4
  · rw [rdNode_5 h1 (by omega) h3] at hr
    obtain ⟨e1, e2, e3, e4, e5⟩ := rdFin_in hr
    obtain ⟨more, g1, g2, g3, g4, g5, g6⟩ := rdW_in hs hd _ _ _ _ _ (by rw [e1]) (Int.le_refl 0)
    rw [e1] at g1 g4 g5 g6
    simp only [List.nil_append] at g1 g4 g5 g6
    subst g1
    have := hpos d.ways
    refine ⟨by rw [e3]; exact ⟨by omega, by omega⟩, g3, by have := hp1.1; omega, e4, by omega, g5, e5, ?_, by omega⟩
    rw [g4, e2]
    rfl
/-- What the nodes so far keep. -/
structure RdInv (ds : List Nd) (sz dp : List Int) : Prop where
  lenS : sz.length = ds.length
  lenD : dp.length = ds.length
  szb : ∀ x ∈ sz, 0 ≤ x ∧ x ≤ 65536
  dpb : ∀ x ∈ dp, 0 ≤ x ∧ x ≤ 64
  fine : Fine ds
  few : ∀ d ∈ ds, d.ways.length ≤ 256
  sum : ∀ (i : Nat) d, ds[i]? = some d → sz.getD i 0 = finN d.fin + (d.ways.map (sizeOf sz)).sum
theorem RdInv.nil : RdInv [] [] [] := ⟨rfl, rfl, by simp, by simp, fun i d h => by simp at h, by simp, fun i d h => by simp at h⟩
theorem RdInv.snoc {ds : List Nd} {sz dp : List Int} (h : RdInv ds sz dp) {t : List UInt8} {d : Nd} {s k : Int} {u : List UInt8} (hr : rdNode ds.length sz dp t = (0, d, s, k, u)) : RdInv (ds ++ [d]) (sz ++ [s]) (dp ++ [k]) := by
  obtain ⟨p1, p2, p3, p4, p5, p6, p7, p8, _⟩ := rdNode_in h.szb h.dpb hr
  have hget : ∀ x : Int × Int × Int, 0 ≤ x.2.2 → x.2.2 < (ds.length : Int) → sizeOf (sz ++ [s]) x = sizeOf sz x := by
    intro x h0 h1
    unfold sizeOf
    rw [List.getD_eq_getElem?_getD, List.getD_eq_getElem?_getD, List.getElem?_append_left (by rw [h.lenS]; omega)]
  have hmap : ∀ ws : Ways, (∀ x ∈ ws, 0 ≤ x.2.2 ∧ x.2.2 < (ds.length : Int)) → ws.map (sizeOf (sz ++ [s])) = ws.map (sizeOf sz) := by
    intro ws hw
    apply List.map_congr_left
    intro x hx
    exact hget x (hw x hx).1 (hw x hx).2
  have hcase : ∀ (i : Nat) e, (ds ++ [d])[i]? = some e → ds[i]? = some e ∧ i < ds.length ∨ (i = ds.length ∧ e = d) := by
    intro i e he
    rcases Nat.lt_trichotomy i ds.length with hi | hi | hi
    · rw [List.getElem?_append_left hi] at he
      exact .inl ⟨he, hi⟩
    · subst hi
      rw [List.getElem?_append_right (Nat.le_refl _)] at he
      simp at he
      exact .inr ⟨rfl, he.symm⟩
    · rw [List.getElem?_eq_none (by simp; omega)] at he
      cases he
  refine ⟨by simp [h.lenS], by simp [h.lenD], ?_, ?_, ?_, ?_, ?_⟩
  · intro x hx
    rcases List.mem_append.1 hx with hx | hx
    · exact h.szb x hx
    · rw [List.mem_singleton.1 hx]; exact ⟨p5, p4⟩
  · intro x hx
    rcases List.mem_append.1 hx with hx | hx
    · exact h.dpb x hx
    · rw [List.mem_singleton.1 hx]; exact ⟨p6, p7⟩
  · intro i e he
    rcases hcase i e he with ⟨he, _⟩ | ⟨rfl, rfl⟩
    · exact h.fine i e he
    · exact ⟨p1, p2⟩
  · intro e he
    rcases List.mem_append.1 he with he | he
    · exact h.few e he
    · rw [List.mem_singleton.1 he]; exact p3
  · intro i e he
    rcases hcase i e he with ⟨he, hi⟩ | ⟨rfl, rfl⟩
    · have hf := (h.fine i e he).2
      rw [hmap e.ways (fun x hx => ⟨(hf x hx).2.2.1, by have := (hf x hx).2.2.2; omega⟩), ← h.sum i e he]
      rw [List.getD_eq_getElem?_getD, List.getD_eq_getElem?_getD, List.getElem?_append_left (by rw [h.lenS]; omega)]
    · rw [hmap e.ways (fun x hx => ⟨(p2 x hx).2.2.1, (p2 x hx).2.2.2⟩), ← p8]
      rw [List.getD_eq_getElem?_getD, List.getElem?_append_right (by rw [h.lenS]; omega), h.lenS]
      simp
/-- So many terms are gathered. -/
theorem gath_len {ds : List Nd} {sz dp : List Int} (h : RdInv ds sz dp) : ∀ (f i : Nat), i < f → i < ds.length → ∀ (t : List UInt8) (z : Int), ((gath ds f i t z).length : Int) = sz.getD i 0
  | 0, i, hi, _, _, _ => absurd hi (by omega)
  | f + 1, i, hi, hn, t, z => by
    obtain ⟨d, hd⟩ : ∃ d, ds[i]? = some d := ⟨ds[i]'hn, List.getElem?_eq_getElem _⟩
    rw [gath_s hd, h.sum i d hd, List.length_append, Int.natCast_add]
    have hf := (h.fine i d hd).2
    have h1 : (((if d.fin then [(t, IntKind.i64.wrap (z + d.out))] else []) : List Ent).length : Int) = finN d.fin := by
      unfold finN
      split <;> rfl
    rw [h1]
    congr 1
    generalize d.ways = ws at *
    induction ws with
    | nil => simp
    | cons x r ih =>
      have hx := hf x (List.mem_cons_self ..)
      rw [List.flatMap_cons, List.length_append, Int.natCast_add, List.map_cons, List.sum_cons, ih (fun y hy => hf y (List.mem_cons_of_mem _ hy)), gath_len h f _ (by omega) (by omega)]
      rfl
theorem allE_len {ds : List Nd} {sz dp : List Int} (h : RdInv ds sz dp) (base : Int) (hds : ds ≠ []) : ((gath ds ds.length (ds.length - 1) [] base).length : Int) = sz.getD (ds.length - 1) 0 := by
  have := List.length_pos_iff.2 hds
  exact gath_len h _ _ (by omega) (by omega) _ _
/-- Numbers that are gathered fit. -/
theorem gath_fits {ds : List Nd} : ∀ (f i : Nat) (t : List UInt8) (z : Int), ∀ e ∈ gath ds f i t z, fits64 e.2
  | 0, _, _, _, e, he => by cases he
  | f + 1, i, t, z, e, he => by
    cases hd : ds[i]? with
    | none => rw [gath, hd] at he; cases he
    | some d =>
      rw [gath_s hd] at he
      rcases List.mem_append.1 he with he | he
      · split at he
        · rw [List.mem_singleton.1 he]
          show fits64 (IntKind.i64.wrap _)
          rw [IntKind.wrap_i64]
          exact ⟨by omega, by omega⟩
        · cases he
      · obtain ⟨x, _, hx⟩ := List.mem_flatMap.1 he
        exact gath_fits f _ _ _ e hx
/-- All nodes. -/
def rdAll : Nat → List Nd → List Int → List Int → List UInt8 → Int × List Nd × List Int × List UInt8
  | 0, ds, sz, _, t => (0, ds, sz, t)
  | k + 1, ds, sz, dp, t => if (rdNode ds.length sz dp t).1 ≠ 0 then ((rdNode ds.length sz dp t).1, [], [], []) else
    rdAll k (ds ++ [(rdNode ds.length sz dp t).2.1]) (sz ++ [(rdNode ds.length sz dp t).2.2.1]) (dp ++ [(rdNode ds.length sz dp t).2.2.2.1]) (rdNode ds.length sz dp t).2.2.2.2
theorem rdAll_err {k : Nat} {ds : List Nd} {sz dp : List Int} {t : List UInt8} (h : (rdNode ds.length sz dp t).1 ≠ 0) : rdAll (k + 1) ds sz dp t = ((rdNode ds.length sz dp t).1, [], [], []) := if_pos h
theorem rdAll_go {k : Nat} {ds : List Nd} {sz dp : List Int} {t u : List UInt8} {d : Nd} {s q : Int} (h : rdNode ds.length sz dp t = (0, d, s, q, u)) : rdAll (k + 1) ds sz dp t = rdAll k (ds ++ [d]) (sz ++ [s]) (dp ++ [q]) u := by
  rw [rdAll, h]
  exact if_neg (by simp)
theorem rdAll_in : ∀ (k : Nat) (ds : List Nd) (sz dp : List Int) (t : List UInt8), RdInv ds sz dp → (rdAll k ds sz dp t).1 = 0 → ∃ dp', RdInv (rdAll k ds sz dp t).2.1 (rdAll k ds sz dp t).2.2.1 dp' ∧ (rdAll k ds sz dp t).2.1.length = ds.length + k ∧ (rdAll k ds sz dp t).2.2.2.length + k ≤ t.length
  | 0, ds, sz, dp, t, h, _ => ⟨dp, h, rfl, Nat.le_refl _⟩
  | k + 1, ds, sz, dp, t, h, h0 => by
    obtain ⟨⟨e, d, s, q, u⟩, hr⟩ : ∃ r, rdNode ds.length sz dp t = r := ⟨_, rfl⟩
    by_cases he : e = 0
    · subst he
      rw [rdAll_go hr] at h0 ⊢
      obtain ⟨dp', g1, g2, g3⟩ := rdAll_in k _ _ _ _ (h.snoc hr) h0
      have hl := (rdNode_in h.szb h.dpb hr).2.2.2.2.2.2.2.2
      exact ⟨dp', g1, by rw [g2, List.length_append, List.length_singleton]; omega, by omega⟩
    · rw [rdAll_err (by rw [hr]; exact he), hr] at h0
      exact absurd h0 he
/-- What is made of all nodes. -/
def openG (t : List UInt8) (v base : Int) (r : Int × List Nd × List Int × List UInt8) : Int × List Nd × Int × Int :=
  if r.1 ≠ 0 then (r.1, [], 0, 0) else
  if r.2.2.2 ≠ [] then (5, [], 0, 0) else
  if rightE (allE r.2.1 base) ≠ 0 ∨ buildS (allE r.2.1 base) ≠ ⟨t.toArray⟩ then (3, [], 0, 0) else
  (0, r.2.1, base, if 0 < v then r.2.2.1.getD (v.toNat - 1) 0 else 0)
/-- What Open answers: the error; the nodes, the least number, how many terms. -/
def openF (t : List UInt8) : Int × List Nd × Int × Int :=
  if (readCnt t).2.1 ≠ 0 then ((readCnt t).2.1, [], 0, 0) else
  if (readCnt (readCnt t).2.2).2.1 ≠ 0 then ((readCnt (readCnt t).2.2).2.1, [], 0, 0) else
  openG t (readCnt t).1 (readCnt (readCnt t).2.2).1 (rdAll (readCnt t).1.toNat [] [] [] (readCnt (readCnt t).2.2).2.2)
theorem openG_1 {t : List UInt8} {v base e : Int} {r : List Nd × List Int × List UInt8} (h : e ≠ 0) : openG t v base (e, r) = (e, [], 0, 0) := if_pos h
theorem openG_2 {t : List UInt8} {v base : Int} {ds : List Nd} {sz : List Int} {u : List UInt8} (h : u ≠ []) : openG t v base (0, ds, sz, u) = (5, [], 0, 0) := if_pos h
theorem openG_3 {t : List UInt8} {v base : Int} {ds : List Nd} {sz : List Int} (h : rightE (allE ds base) ≠ 0 ∨ buildS (allE ds base) ≠ ⟨t.toArray⟩) : openG t v base (0, ds, sz, []) = (3, [], 0, 0) := if_pos h
theorem openG_4 {t : List UInt8} {v base : Int} {ds : List Nd} {sz : List Int} (h : ¬ (rightE (allE ds base) ≠ 0 ∨ buildS (allE ds base) ≠ ⟨t.toArray⟩)) : openG t v base (0, ds, sz, []) = (0, ds, base, if 0 < v then sz.getD (v.toNat - 1) 0 else 0) := if_neg h
theorem openF_1 {t t2 : List UInt8} {v e : Int} (h : readCnt t = (v, e, t2)) (he : e ≠ 0) : openF t = (e, [], 0, 0) := by
  unfold openF
  rw [h]
  exact if_pos he
theorem openF_2 {t t2 t3 : List UInt8} {v v3 e : Int} (h : readCnt t = (v, 0, t2)) (h3 : readCnt t2 = (v3, e, t3)) (he : e ≠ 0) : openF t = (e, [], 0, 0) := by
  unfold openF
  rw [h]
  simp only
  rw [if_neg (by simp), h3]
  exact if_pos he
theorem openF_3 {t t2 t3 : List UInt8} {v v3 : Int} (h : readCnt t = (v, 0, t2)) (h3 : readCnt t2 = (v3, 0, t3)) : openF t = openG t v v3 (rdAll v.toNat [] [] [] t3) := by
  unfold openF
  rw [h]
  simp only
  rw [if_neg (by simp), h3]
  exact if_neg (by simp)
end Go.Proofs.YtheickndnniomaaDoor
