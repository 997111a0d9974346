/- The reference's Open in plain Lean: its lists of terms and the program's nodes. -/
import Derived.Test.YtheickndnniomaaDoorRnums
import Derived.Test.YtheickndnniomaaDoorRound
namespace Go.Proofs.YtheickndnniomaaDoor
open Go.RowKit Go.Maps

def wrapE (e : Ent) : Ent := (e.1, IntKind.i64.wrap e.2)
/-- The terms behind a node, as the reference has them. -/
def leftR (ds : List Nd) (i : Nat) : List Ent := (left ds i).map wrapE
def preR (x : Int × Int × Int) (e : Ent) : Ent := (UInt8.ofNat x.1.toNat :: e.1, IntKind.i64.wrap (e.2 + x.2.1))
def bodyR (ds : List Nd) (fin : Bool) (out : Int) (ws : Ways) : List Ent := (if fin then [([], out)] else []) ++ ws.flatMap fun x => (leftR ds x.2.2.toNat).map (preR x)
theorem bodyR_snoc (ds : List Nd) (fin : Bool) (out : Int) (ws : Ways) (x : Int × Int × Int) : bodyR ds fin out (ws ++ [x]) = bodyR ds fin out ws ++ (leftR ds x.2.2.toNat).map (preR x) := by
  unfold bodyR
  rw [List.flatMap_append, List.append_assoc]
  simp
theorem wrapE_pre (x : Int × Int × Int) (e : Ent) : wrapE (preE x e) = preR x (wrapE e) := by
  show (_, IntKind.i64.wrap (x.2.1 + e.2)) = (_, IntKind.i64.wrap (IntKind.i64.wrap e.2 + x.2.1))
  rw [wrap_wrap, Int.add_comm]
  rfl
theorem bodyR_left {ds : List Nd} {d : Nd} (hf : Fine (ds ++ [d])) (hf0 : Fine ds) (ho : pos63 d.out) : leftR (ds ++ [d]) ds.length = bodyR ds d.fin d.out d.ways := by
  have hd : (ds ++ [d])[ds.length]? = some d := by simp
  have hw := (hf _ d hd).2
  unfold leftR bodyR
  rw [left_eq hf hd, ndE_congr (M := left ds) fun x hx => left_app hf0 [d] (by have := (hw x hx).2.2; omega)]
  unfold ndE
  rw [List.map_append, List.map_flatMap]
  congr 1
  · split
    · show [([], IntKind.i64.wrap d.out)] = _
      rw [IntWalk.i64_in _ (by unfold pos63 at ho; omega)]
    · rfl
  · refine flatMap_congr' fun x _ => ?_
    rw [List.map_map]
    show _ = ((left ds x.2.2.toNat).map wrapE).map (preR x)
    rw [List.map_map]
    apply List.map_congr_left
    intro e _
    exact wrapE_pre x e
theorem leftR_len (ds : List Nd) (i : Nat) : (leftR ds i).length = (left ds i).length := List.length_map ..
theorem tlen_map {f : Ent → Ent} (hf : ∀ e, (f e).1.length = e.1.length) : ∀ (l : List Ent) (m : Int), tlen m (l.map f) = tlen m l
  | [], _ => rfl
  | e :: r, m => by
    show tlen (max m ((f e).1.length : Int)) (r.map f) = tlen (max m (e.1.length : Int)) r
    rw [hf, tlen_map hf r]
theorem tlen_leftR (ds : List Nd) (i : Nat) : tlen 0 (leftR ds i) = tlen 0 (left ds i) := tlen_map (f := wrapE) (fun _ => rfl) _ _
theorem tlen_preR (x : Int × Int × Int) (l : List Ent) (m : Int) (h : 0 ≤ m) : tlen m (l.map (preR x)) = if l = [] then m else max m (tlen 0 l + 1) := by
  rw [← tlen_pre x l m h]
  have e : ∀ (l : List Ent) (m : Int), tlen m (l.map (preR x)) = tlen m (l.map (preE x)) := by
    intro l
    induction l with
    | nil => intro m; rfl
    | cons a r ih => intro m; exact ih _
  exact e l m
theorem tlen_mem {l : List Ent} {e : Ent} (h : e ∈ l) : ∀ m, (e.1.length : Int) ≤ tlen m l := by
  have hge : ∀ (l : List Ent) (m : Int), m ≤ tlen m l := by
    intro l
    induction l with
    | nil => intro m; exact Int.le_refl _
    | cons a r ih => intro m; have := ih (max m (a.1.length : Int)); show m ≤ tlen (max m (a.1.length : Int)) r; omega
  induction l with
  | nil => cases h
  | cons a r ih =>
    intro m
    rcases List.mem_cons.1 h with rfl | h
    · have := hge r (max m (e.1.length : Int))
      show _ ≤ tlen (max m (e.1.length : Int)) r
      omega
    · exact ih h _
/-- One more way: how many, how long. -/
theorem body_way {ds : List Nd} (fin : Bool) (out : Int) (ws : Ways) (a b : Int) {c : Nat} (hc : c < ds.length) {s d : Int} (hs : s = ((bodyR ds fin out ws).length : Int)) (hd : d = tlen 0 (bodyR ds fin out ws)) :
    s + (szL ds).getD c 0 = ((bodyR ds fin out (ws ++ [(a, b, (c : Int))])).length : Int) ∧ (if 0 < (szL ds).getD c 0 then max d ((dpL ds).getD c 0 + 1) else d) = tlen 0 (bodyR ds fin out (ws ++ [(a, b, (c : Int))])) := by
  rw [bodyR_snoc, szL_get hc, dpL_get hc, List.length_append, List.length_map]
  simp only [Int.toNat_natCast]
  rw [leftR_len, tlen_append, ← hd, tlen_preR _ _ _ (by rw [hd]; exact tlen_nonneg _ _ (Int.le_refl _)), tlen_leftR]
  refine ⟨by rw [hs]; omega, ?_⟩
  by_cases h0 : leftR ds c = []
  · have h1 : left ds c = [] := by
      unfold leftR at h0
      simpa using h0
    rw [if_pos h0, h1]
    simp
  · have h1 : left ds c ≠ [] := by
      intro e
      unfold leftR at h0
      rw [e] at h0
      exact h0 rfl
    have := List.length_pos_iff.2 h1
    rw [if_neg h0, if_pos (by omega)]
/-- Where a node has too much, the other ways' error tells, or the form's. -/
theorem rd_over {n : Nat} {ds : List Nd} {sz dp : List Int} (h : RdInv ds sz dp) (fin : Bool) (out : Int) (k : Nat) (ws : Ways) (s d : Int) (u : List UInt8) (h0 : 0 ≤ d) (hb : 65536 < s ∨ 64 < d) :
    (rdFin fin out (rdW n sz dp k ws s d u)).1 = if wayErr n k u = 0 then 3 else wayErr n k u := by
  rw [← rdW_wayErr n sz dp k ws s d u]
  obtain ⟨⟨e, ws2, s2, d2, u2⟩, hr⟩ : ∃ r, rdW n sz dp k ws s d u = r := ⟨_, rfl⟩
  rw [hr]
  by_cases he : e = 0
  · subst he
    obtain ⟨more, _, _, _, g4, g5, _⟩ := rdW_in (n := n) h.szb h.dpb k ws s d u (by rw [hr]) h0
    rw [hr] at g4 g5
    simp only at g4 g5
    have hp : 0 ≤ (more.map (sizeOf sz)).sum := by
      have : ∀ l : Ways, 0 ≤ (l.map (sizeOf sz)).sum := by
        intro l
        induction l with
        | nil => simp
        | cons x r ih =>
          rw [List.map_cons, List.sum_cons]
          have := (getD_in h.szb ⟨by omega, by omega⟩ x.2.2.toNat).1
          unfold sizeOf at ih ⊢
          omega
      exact this more
    rw [rdFin_bad (by omega)]
    simp
  · rw [rdFin_err he]
    simp [he]
theorem rdN_one_err {t : List UInt8} {e : Int} {acc : List Int} {u : List UInt8} (h : rdN 1 [] t = (e, acc, u)) (he : e ≠ 0) : (readCnt t).2.1 = e := by
  by_cases h0 : (readCnt t).2.1 = 0
  · rw [rdN_ok _ _ h0, rdN] at h
    injection h with h1 _
    exact absurd h1.symm he
  · rw [rdN_err _ _ h0] at h
    injection h with h1 _
theorem rdN_one {t : List UInt8} {acc : List Int} {u : List UInt8} (h : rdN 1 [] t = (0, acc, u)) : ∃ v, acc = [v] ∧ readCnt t = (v, 0, u) ∧ pos63 v ∧ u.length < t.length := by
  by_cases h0 : (readCnt t).2.1 = 0
  · have hl := readCnt_less t h0
    have hp := readCnt_in t h0
    rw [rdN_ok _ _ h0, rdN] at h
    injection h with _ h
    injection h with h1 h2
    subst h1 h2
    refine ⟨_, rfl, ?_, hp, hl⟩
    rw [← h0]
  · rw [rdN_err _ _ h0] at h
    injection h with h1 _
    exact absurd h1 h0
theorem node_1 {n : Nat} {sz dp : List Int} {t : List UInt8} {e : Int} {acc : List Int} {u : List UInt8} (h : rdN 1 [] t = (e, acc, u)) (he : e ≠ 0) : (rdNode n sz dp t).1 = e := by
  have h1 := rdN_one_err h he
  rw [rdNode_1 (by rw [h1]; exact he)]
  exact h1
theorem node_2 {n : Nat} {sz dp : List Int} {t u : List UInt8} {v : Int} (h : readCnt t = (v, 0, u)) (hv : 513 < v) : (rdNode n sz dp t).1 = 3 := by
  rw [rdNode_2 (by rw [h]) (by rw [h]; exact hv)]
theorem node_3 {n : Nat} {sz dp : List Int} {t u : List UInt8} {v : Int} (h : readCnt t = (v, 0, u)) (hv : v ≤ 513) (hodd : v % 2 = 1) {e : Int} {acc : List Int} {u2 : List UInt8} (h2 : rdN 1 [] u = (e, acc, u2)) (he : e ≠ 0) : (rdNode n sz dp t).1 = e := by
  have h1 := rdN_one_err h2 he
  rw [rdNode_3 (by rw [h]) (by rw [h]; exact hv) (by rw [h]; exact hodd) (by rw [h]; show (readCnt u).2.1 ≠ 0; rw [h1]; exact he), h]
  exact h1
theorem node_4 {n : Nat} {sz dp : List Int} {t u u2 : List UInt8} {v o : Int} (h : readCnt t = (v, 0, u)) (hv : v ≤ 513) (hodd : v % 2 = 1) (h2 : readCnt u = (o, 0, u2)) : rdNode n sz dp t = rdFin true o (rdW n sz dp (v / 2).toNat [] 1 0 u2) := by
  rw [rdNode_4 (by rw [h]) (by rw [h]; exact hv) (by rw [h]; exact hodd) (by rw [h]; show (readCnt u).2.1 = 0; rw [h2]), h]
  simp only
  rw [h2]
theorem node_5 {n : Nat} {sz dp : List Int} {t u : List UInt8} {v : Int} (h : readCnt t = (v, 0, u)) (hv : v ≤ 513) (hodd : ¬ v % 2 = 1) : rdNode n sz dp t = rdFin false 0 (rdW n sz dp (v / 2).toNat [] 0 0 u) := by
  rw [rdNode_5 (by rw [h]) (by rw [h]; exact hv) (by rw [h]; exact hodd), h]
theorem open_1 {t : List UInt8} {e : Int} {acc : List Int} {u : List UInt8} (h : rdN 2 [] t = (e, acc, u)) (he : e ≠ 0) : openF t = (e, [], 0, 0) := by
  obtain ⟨⟨v, e1, t2⟩, hr⟩ : ∃ r, readCnt t = r := ⟨_, rfl⟩
  by_cases h1 : e1 = 0
  · subst h1
    rw [rdN_ok _ _ (by rw [hr]), hr] at h
    simp only [List.nil_append] at h
    obtain ⟨⟨v3, e3, t3⟩, hr3⟩ : ∃ r, readCnt t2 = r := ⟨_, rfl⟩
    by_cases h3 : e3 = 0
    · subst h3
      rw [rdN_ok _ _ (by rw [hr3]), rdN] at h
      injection h with h _
      exact absurd h.symm he
    · rw [rdN_err _ _ (by rw [hr3]; exact h3), hr3] at h
      injection h with h _
      simp only at h
      subst h
      exact openF_2 hr hr3 h3
  · rw [rdN_err _ _ (by rw [hr]; exact h1), hr] at h
    injection h with h _
    simp only at h
    subst h
    exact openF_1 hr h1
theorem open_2 {t : List UInt8} {acc : List Int} {u : List UInt8} (h : rdN 2 [] t = (0, acc, u)) : ∃ v v3, acc = [v, v3] ∧ pos63 v ∧ pos63 v3 ∧ u.length + 2 ≤ t.length ∧ openF t = openG t v v3 (rdAll v.toNat [] [] [] u) := by
  obtain ⟨more, h1, h2, h3, h4⟩ := rdN_in 2 [] t (by rw [h])
  obtain ⟨⟨v, e1, t2⟩, hr⟩ : ∃ r, readCnt t = r := ⟨_, rfl⟩
  by_cases he : e1 = 0
  · subst he
    rw [rdN_ok _ _ (by rw [hr]), hr] at h
    simp only [List.nil_append] at h
    obtain ⟨⟨v3, e3, t3⟩, hr3⟩ : ∃ r, readCnt t2 = r := ⟨_, rfl⟩
    by_cases he3 : e3 = 0
    · subst he3
      have p1 := readCnt_in t (by rw [hr])
      have p3 := readCnt_in t2 (by rw [hr3])
      have l1 := readCnt_less t (by rw [hr])
      have l3 := readCnt_less t2 (by rw [hr3])
      rw [hr] at p1 l1
      rw [hr3] at p3 l3
      rw [rdN_ok _ _ (by rw [hr3]), hr3, rdN] at h
      simp only at h l1 l3
      injection h with _ h
      injection h with h5 h6
      subst h5 h6
      exact ⟨v, v3, rfl, p1, p3, by omega, openF_3 hr hr3⟩
    · rw [rdN_err _ _ (by rw [hr3]; exact he3), hr3] at h
      injection h with h _
      exact absurd h he3
  · rw [rdN_err _ _ (by rw [hr]; exact he), hr] at h
    injection h with h _
    exact absurd h he
theorem allE_R {ds : List Nd} (hf : Fine ds) (base : Int) (hne : ds ≠ []) : allE ds base = (leftR ds (ds.length - 1)).map fun e => (e.1, IntKind.i64.wrap (e.2 + base)) := by
  have := List.length_pos_iff.2 hne
  unfold allE leftR
  rw [if_neg hne, gath_left hf _ _ _ _ (by omega), List.map_map]
  apply List.map_congr_left
  intro e _
  show ([] ++ e.1, IntKind.i64.wrap (base + e.2)) = (e.1, IntKind.i64.wrap (IntKind.i64.wrap e.2 + base))
  rw [wrap_wrap, Int.add_comm]
  rfl
def leftsR (ds : List Nd) : List (List Ent) := (List.range ds.length).map (leftR ds)
theorem leftsR_snoc {ds : List Nd} (hf : Fine ds) (d : Nd) : leftsR (ds ++ [d]) = leftsR ds ++ [leftR (ds ++ [d]) ds.length] := by
  unfold leftsR
  rw [List.length_append, List.length_singleton]
  rw [List.range_succ, List.map_append]
  congr 1
  apply List.map_congr_left
  intro i hi
  unfold leftR
  rw [left_app hf [d] (List.mem_range.1 hi)]
theorem leftsR_get {ds : List Nd} {i : Nat} (h : i < ds.length) : (leftsR ds)[i]? = some (leftR ds i) := by
  unfold leftsR
  rw [List.getElem?_map, List.getElem?_range h]
  rfl
end Go.Proofs.YtheickndnniomaaDoor
