/- States told apart, round by round, till no round tells more apart (plain Lean). -/
import Derived.Test.YtclahhkcbkpofaaDoorHFz7
import Derived.Test.YtclahhkcbkpofaaDoorHFz1
namespace Go.Proofs.YtclahhkcbkpofaaDoor
/-! ### Arcs that are led on -/
/-- Arcs, each led on to what f says; those that lead nowhere are left out. -/
def ledA (f : Int → Option Nat) (l : List Arc3) : List Arc3 := l.foldl (fun acc a => match f a.2.2 with
  | some k => joinA acc (a.1, a.2.1, (k : Int))
  | none => acc) []
theorem ledA_snoc (f : Int → Option Nat) (l : List Arc3) (a : Arc3) : ledA f (l ++ [a]) = match f a.2.2 with
    | some k => joinA (ledA f l) (a.1, a.2.1, (k : Int))
    | none => ledA f l := by
  unfold ledA
  rw [List.foldl_append]
  rfl
theorem rev_ind {α : Type} {p : List α → Prop} (h0 : p []) (h1 : ∀ l a, p l → p (l ++ [a])) (l : List α) : p l := by
  have : ∀ n, ∀ l : List α, l.length = n → p l := by
    intro n
    induction n with
    | zero => intro l hl; rw [List.eq_nil_of_length_eq_zero hl]; exact h0
    | succ n ih =>
      intro l hl
      have hne : l ≠ [] := fun e => by rw [e] at hl; cases hl
      rw [← List.dropLast_concat_getLast hne]
      exact h1 _ _ (ih _ (by rw [List.length_dropLast, hl]; rfl))
  exact this _ l rfl
theorem ledA_runs (f : Int → Option Nat) (l : List Arc3) : ∀ n : Nat, Asc l n → ledA f l = runs (fun c => (lookA l c).bind f) n := by
  induction l using rev_ind with
  | h0 =>
    intro n _
    have : ∀ n, runs (fun c : Nat => (lookA [] c).bind f) n = [] := by
      intro n
      induction n with
      | zero => rfl
      | succ n ih => rw [runs]; exact ih
    exact (this n).symm
  | h1 l a ih =>
    intro n h
    have hm := h.pre
    have hao := h.ok a (by simp)
    have hlt : ∀ b ∈ l, b.2.1 < a.1 := fun b hb => (List.pairwise_append.1 h.lt).2.2 b hb a (by simp)
    obtain ⟨lo, hlo⟩ := Int.eq_ofNat_of_zero_le hao.1
    obtain ⟨w, hw⟩ : ∃ w : Nat, a.2.1 = ((lo + w : Nat) : Int) := ⟨(a.2.1 - lo).toNat, by omega⟩
    have hn : lo + (w + 1) ≤ n := by omega
    have hl : Asc l lo := ⟨hm.lt, fun b hb => ⟨(hm.ok b hb).1, (hm.ok b hb).2.1, by rw [← hlo]; exact hlt b hb⟩⟩
    have hih := ih lo hl
    have e1 : runs (fun c : Nat => (lookA (l ++ [a]) c).bind f) lo = ledA f l := by
      rw [hih]
      refine runs_congr lo fun c hc => ?_
      rw [lookA_append, lookA_one, if_neg (by omega)]
      cases lookA l c <;> rfl
    have hin : ∀ c : Nat, lo ≤ c → c < lo + (w + 1) → (lookA (l ++ [a]) c).bind f = f a.2.2 := by
      intro c h1 h2
      rw [lookA_append, lookA_one, lookA_none fun b hb => by have := hlt b hb; omega, if_pos (by omega)]
      rfl
    have htop : runs (fun c : Nat => (lookA (l ++ [a]) c).bind f) n = runs (fun c : Nat => (lookA (l ++ [a]) c).bind f) (lo + (w + 1)) := by
      obtain ⟨k, hk⟩ : ∃ k, n = lo + (w + 1) + k := ⟨n - (lo + (w + 1)), by omega⟩
      rw [hk]
      refine runs_none _ _ _ fun c h1 h2 => ?_
      rw [lookA_none]
      · rfl
      · intro b hb
        rcases List.mem_append.1 hb with hb | hb
        · have := hlt b hb; omega
        · rw [List.mem_singleton.1 hb]; omega
    rw [htop, ledA_snoc]
    cases hf : f a.2.2 with
    | none =>
      have := runs_none (fun c : Nat => (lookA (l ++ [a]) c).bind f) lo (w + 1) fun c h1 h2 => by rw [hin c h1 h2, hf]
      rw [this, e1]
    | some k =>
      have := runs_const (fun c : Nat => (lookA (l ++ [a]) c).bind f) lo k w fun c h1 h2 => by rw [hin c h1 h2, hf]
      rw [this, e1]
      simp only
      rw [hlo, hw]
/-- What stands in runs. -/
theorem runs_mem (g : Nat → Option Nat) : ∀ n, ∀ a ∈ runs g n, ∃ c k, c < n ∧ g c = some k ∧ a.2.2 = (k : Int)
  | 0, a, h => by cases h
  | n + 1, a, h => by
    rw [runs] at h
    cases hg : g n with
    | none =>
      rw [hg] at h
      obtain ⟨c, k, h1, h2, h3⟩ := runs_mem g n a h
      exact ⟨c, k, by omega, h2, h3⟩
    | some k =>
      rw [hg] at h
      simp only at h
      have hnew : ∀ m : List Arc3, (∀ b ∈ m, b ∈ runs g n) → ∀ lo : Int, a ∈ m ++ [(lo, (n : Int), (k : Int))] → ∃ c k, c < n + 1 ∧ g c = some k ∧ a.2.2 = (k : Int) := by
        intro m hm lo ha
        rcases List.mem_append.1 ha with ha | ha
        · obtain ⟨c, k, h1, h2, h3⟩ := runs_mem g n a (hm a ha)
          exact ⟨c, k, by omega, h2, h3⟩
        · rw [List.mem_singleton.1 ha]
          exact ⟨n, k, by omega, hg, rfl⟩
      unfold growA at h
      split at h
      · split at h
        · exact hnew _ (fun b hb => List.dropLast_subset _ hb) _ h
        · exact hnew _ (fun b hb => hb) _ h
      · exact hnew [] (fun b hb => by cases hb) _ h
/-- Runs of numbers that are told apart likewise. -/
theorem runs_map (g : Nat → Option Nat) (h : Nat → Nat) : ∀ n, (∀ c, c < n → ∀ c', c' < n → ∀ k k', g c = some k → g c' = some k' → h k = h k' → k = k') → runs (fun c => (g c).map h) n = (runs g n).map fun a => (a.1, a.2.1, (h a.2.2.toNat : Int))
  | 0, _ => rfl
  | n + 1, hi => by
    have ih := runs_map g h n fun c hc c' hc' => hi c (by omega) c' (by omega)
    rw [runs, runs, ih]
    cases hg : g n with
    | none => rfl
    | some k =>
      simp only [Option.map_some]
      unfold growA
      rw [List.getLast?_map]
      cases hl : (runs g n).getLast? with
      | none => simp
      | some a =>
        simp only [Option.map_some]
        obtain ⟨c, k', hc, hg', ha⟩ := runs_mem g n a (List.mem_of_getLast? hl)
        have hk : (h a.2.2.toNat : Int) = (h k : Int) ↔ a.2.2 = (k : Int) := by
          rw [ha, Int.toNat_natCast]
          constructor
          · intro e
            rw [hi c (by omega) n (by omega) k' k hg' hg (by omega)]
          · intro e
            have : k' = k := by omega
            rw [this]
        by_cases hj : a.2.1 + 1 = (n : Int) ∧ a.2.2 = (k : Int)
        · rw [if_pos hj, if_pos ⟨hj.1, hk.2 hj.2⟩, List.map_append, List.map_dropLast]
          simp
        · rw [if_neg hj, if_neg fun e => hj ⟨e.1, hk.1 e.2⟩, List.map_append]
          simp
theorem runs_inj {g g' : Nat → Option Nat} {n : Nat} (h : runs g n = runs g' n) : ∀ c, c < n → g c = g' c := by
  intro c hc
  have h1 := (runs_asc g n).2 c
  have h2 := (runs_asc g' n).2 c
  rw [h, h2, if_pos hc, if_pos hc] at h1
  cases hg : g c with
  | none =>
    cases hg' : g' c with
    | none => rfl
    | some k => rw [hg, hg'] at h1; cases h1
  | some k =>
    cases hg' : g' c with
    | none => rw [hg, hg'] at h1; cases h1
    | some k' =>
      rw [hg, hg'] at h1
      simp only [Option.map_some] at h1
      injection h1 with h1
      have : k' = k := by omega
      rw [this]
/-! ### Classes -/
section
variable {M : Au Nat} {n : Nat} {cls cls' : Nat → Nat}
open Classical in
/-- What a state is told apart by. -/
noncomputable def keyOf (M : Au Nat) (cls : Nat → Nat) (x : Nat) : Option (Nat × Bool × List Arc3) :=
  if M.live x then some (cls x, M.fin x, runs (fun c => (M.stepL x c).map cls) 256) else none
/-- States are within the first n. -/
def Within (M : Au Nat) (n : Nat) : Prop := ∀ x, x < n → ∀ c y, M.step x c = some y → y < n
theorem stepL_in (hW : Within M n) {x c y : Nat} (hx : x < n) (h : M.stepL x c = some y) : y < n ∧ M.live y ∧ M.step x c = some y := by
  unfold Au.stepL at h
  cases hs : M.step x c with
  | none => rw [hs] at h; cases h
  | some z =>
    rw [hs] at h
    simp only at h
    split at h
    · rename_i hl
      injection h with h
      subst h
      exact ⟨hW x hx c _ hs, hl, rfl⟩
    · cases h
/-- Classes never part what takes the same. -/
def Coarse (M : Au Nat) (n : Nat) (cls : Nat → Nat) : Prop := ∀ x, x < n → ∀ y, y < n → Leq M x M y → cls x = cls y
theorem key_leq (hW : Within M n) (hC : Coarse M n cls) {x y : Nat} (hx : x < n) (hy : y < n) (h : Leq M x M y) : keyOf M cls x = keyOf M cls y := by
  unfold keyOf
  by_cases hl : M.live x
  · rw [if_pos hl, if_pos (h.live.1 hl), hC x hx y hy h, h.fin]
    congr 3
    refine runs_congr 256 fun c hc => ?_
    have hs := h.step hc
    cases hu : M.stepL x c with
    | none =>
      cases hv : M.stepL y c with
      | none => rfl
      | some v => rw [hu, hv] at hs; exact hs.elim
    | some u =>
      cases hv : M.stepL y c with
      | none => rw [hu, hv] at hs; exact hs.elim
      | some v =>
        rw [hu, hv] at hs
        show some (cls u) = some (cls v)
        rw [hC u (stepL_in hW hx hu).1 v (stepL_in hW hy hv).1 hs]
  · rw [if_neg hl, if_neg fun h' => hl (h.live.2 h')]
theorem dead_acc {σ : Type} {M : Au σ} {x : σ} (h : ¬ M.live x) (s : List Nat) : M.acc x s = false := by
  cases hs : M.acc x s with
  | false => rfl
  | true => exact absurd ⟨s, hs⟩ h
theorem acc_stepL {σ : Type} (M : Au σ) (x : σ) (c : Nat) (r : List Nat) : M.acc x (c :: r) = if c < 256 then match M.stepL x c with
    | some y => M.acc y r
    | none => false else false := by
  rw [Au.acc]
  split
  · unfold Au.stepL
    cases hs : M.step x c with
    | none => rfl
    | some y =>
      simp only
      by_cases hl : M.live y
      · rw [if_pos hl]
      · rw [if_neg hl]
        exact dead_acc hl r
  · rfl
/-- Where a round tells no more apart, classes are what takes the same. -/
theorem stable_leq (hW : Within M n) (hs : ∀ x, x < n → ∀ y, y < n → cls x = cls y → keyOf M cls x = keyOf M cls y) : ∀ (s : List Nat) (x y : Nat), x < n → y < n → cls x = cls y → M.acc x s = M.acc y s := by
  intro s
  induction s with
  | nil =>
    intro x y hx hy h
    have hk := hs x hx y hy h
    unfold keyOf at hk
    by_cases hl : M.live x
    · by_cases hl' : M.live y
      · rw [if_pos hl, if_pos hl'] at hk
        injection hk with hk
        injection hk with _ hk
        injection hk with hk _
      · rw [if_pos hl, if_neg hl'] at hk
        cases hk
    · by_cases hl' : M.live y
      · rw [if_neg hl, if_pos hl'] at hk
        cases hk
      · rw [dead_acc hl, dead_acc hl']
  | cons c r ih =>
    intro x y hx hy h
    have hk := hs x hx y hy h
    unfold keyOf at hk
    by_cases hl : M.live x
    · by_cases hl' : M.live y
      · rw [if_pos hl, if_pos hl'] at hk
        injection hk with hk
        injection hk with _ hk
        injection hk with _ hk
        rw [acc_stepL, acc_stepL]
        by_cases hc : c < 256
        · rw [if_pos hc, if_pos hc]
          have hg := runs_inj hk c hc
          cases hu : M.stepL x c with
          | none =>
            cases hv : M.stepL y c with
            | none => rfl
            | some v => rw [hu, hv] at hg; cases hg
          | some u =>
            cases hv : M.stepL y c with
            | none => rw [hu, hv] at hg; cases hg
            | some v =>
              rw [hu, hv] at hg
              injection hg with hg
              exact ih u v (stepL_in hW hx hu).1 (stepL_in hW hy hv).1 hg
        · rw [if_neg hc, if_neg hc]
      · rw [if_pos hl, if_neg hl'] at hk
        cases hk
    · by_cases hl' : M.live y
      · rw [if_neg hl, if_pos hl'] at hk
        cases hk
      · rw [dead_acc hl, dead_acc hl']
/-- So many classes. -/
def Onto (n : Nat) (cls : Nat → Nat) (count : Nat) : Prop := (∀ x, x < n → cls x < count) ∧ ∀ k, k < count → ∃ x, x < n ∧ cls x = k
theorem all_len : ∀ (m : Nat) (l : List Nat), (∀ k, k < m → k ∈ l) → m ≤ l.length
  | 0, _, _ => Nat.zero_le _
  | m + 1, l, h => by
    have hm := h m (by omega)
    have := all_len m (l.erase m) fun k hk => (List.mem_erase_of_ne (by omega)).2 (h k (by omega))
    rw [List.length_erase_of_mem hm] at this
    have := List.length_pos_of_mem hm
    omega
/-- As many classes as before: the same classes. -/
theorem same_count {count : Nat} (ho : Onto n cls count) (ho' : Onto n cls' count) (hr : ∀ x, x < n → ∀ y, y < n → cls' x = cls' y → cls x = cls y) {x y : Nat} (hx : x < n) (hy : y < n) (h : cls x = cls y) : cls' x = cls' y := by
  apply Classical.byContradiction
  intro hne
  have hf : ∀ k : Nat, ∃ z, k < count → z < n ∧ cls' z = k := fun k => by
    by_cases hk : k < count
    · obtain ⟨z, h1, h2⟩ := ho'.2 k hk
      exact ⟨z, fun _ => ⟨h1, h2⟩⟩
    · exact ⟨0, fun h => absurd h hk⟩
  let f : Nat → Nat := fun k => cls (Classical.choose (hf k))
  have hfz : ∀ z, z < n → f (cls' z) = cls z := fun z hz => by
    have := Classical.choose_spec (hf (cls' z)) (ho'.1 z hz)
    exact hr _ this.1 z hz this.2
  have hy' := ho'.1 y hy
  have hall := all_len count (((List.range count).erase (cls' y)).map f) fun k hk => by
    obtain ⟨z, hz, hzk⟩ := ho.2 k hk
    rw [List.mem_map]
    by_cases hzy : cls' z = cls' y
    · refine ⟨cls' x, (List.mem_erase_of_ne hne).2 (List.mem_range.2 (ho'.1 x hx)), ?_⟩
      rw [hfz x hx, h, ← hr z hz y hy hzy, hzk]
    · exact ⟨cls' z, (List.mem_erase_of_ne hzy).2 (List.mem_range.2 (ho'.1 z hz)), by rw [hfz z hz, hzk]⟩
  rw [List.length_map, List.length_erase_of_mem (List.mem_range.2 hy'), List.length_range] at hall
  omega
/-- One round: the classes are those of the keys. -/
structure Round (M : Au Nat) (n : Nat) (cls cls' : Nat → Nat) (count' : Nat) : Prop where
  onto : Onto n cls' count'
  iff : ∀ x, x < n → ∀ y, y < n → (cls' x = cls' y ↔ keyOf M cls x = keyOf M cls y)
theorem Round.coarse {c : Nat} (h : Round M n cls cls' c) (hW : Within M n) (hC : Coarse M n cls) : Coarse M n cls' := fun x hx y hy hxy => (h.iff x hx y hy).2 (key_leq hW hC hx hy hxy)
theorem Round.finer {c : Nat} (h : Round M n cls cls' c) (hC : Coarse M n cls) {x y : Nat} (hx : x < n) (hy : y < n) (he : cls' x = cls' y) : cls x = cls y := by
  have hk := (h.iff x hx y hy).1 he
  unfold keyOf at hk
  by_cases hl : M.live x
  · by_cases hl' : M.live y
    · rw [if_pos hl, if_pos hl'] at hk
      injection hk with hk
      injection hk with hk _
    · rw [if_pos hl, if_neg hl'] at hk
      cases hk
  · by_cases hl' : M.live y
    · rw [if_neg hl, if_pos hl'] at hk
      cases hk
    · exact hC x hx y hy fun s => by rw [dead_acc hl, dead_acc hl']
/-- The last round: classes are what takes the same. -/
theorem Round.last {c : Nat} (h : Round M n cls cls' c) (hW : Within M n) (hC : Coarse M n cls) (ho : Onto n cls c) {x y : Nat} (hx : x < n) (hy : y < n) : cls' x = cls' y ↔ Leq M x M y := by
  have hfin : ∀ x, x < n → ∀ y, y < n → cls' x = cls' y → cls x = cls y := fun x hx y hy he => h.finer hC hx hy he
  constructor
  · intro he s
    exact stable_leq hW (fun x hx y hy e => (h.iff x hx y hy).1 (same_count ho h.onto hfin hx hy e)) s x y hx hy (hfin x hx y hy he)
  · exact h.coarse hW hC x hx y hy
theorem onto_le {count : Nat} (h : Onto n cls count) : count ≤ n := by
  have := all_len count ((List.range n).map cls) fun k hk => by
    obtain ⟨x, hx, he⟩ := h.2 k hk
    exact List.mem_map.2 ⟨x, List.mem_range.2 hx, he⟩
  rwa [List.length_map, List.length_range] at this
/-- A round has no fewer classes. -/
theorem Round.more {c c' : Nat} (h : Round M n cls cls' c') (hC : Coarse M n cls) (ho : Onto n cls c) : c ≤ c' := by
  have hf : ∀ k : Nat, ∃ z, k < c' → z < n ∧ cls' z = k := fun k => by
    by_cases hk : k < c'
    · obtain ⟨z, h1, h2⟩ := h.onto.2 k hk
      exact ⟨z, fun _ => ⟨h1, h2⟩⟩
    · exact ⟨0, fun h => absurd h hk⟩
  have := all_len c ((List.range c').map fun k => cls (Classical.choose (hf k))) fun k hk => by
    obtain ⟨z, hz, hzk⟩ := ho.2 k hk
    refine List.mem_map.2 ⟨cls' z, List.mem_range.2 (h.onto.1 z hz), ?_⟩
    have := Classical.choose_spec (hf (cls' z)) (h.onto.1 z hz)
    rw [← hzk]
    exact h.finer hC this.1 hz this.2
  rwa [List.length_map, List.length_range] at this
end
end Go.Proofs.YtclahhkcbkpofaaDoor
/- Automata in memory: arcs, states. -/
namespace Go.Proofs.YtclahhkcbkpofaaDoor
open Go.RowKit
def arcC (a : Arc3) : List Value := [.int .i64 a.1, .int .i64 a.2.1, .int .i64 a.2.2]
def arcsC (l : List Arc3) : List Value := l.flatMap arcC
theorem arcsC_len (l : List Arc3) : (arcsC l).length = l.length * 3 := by
  induction l with
  | nil => rfl
  | cons x r ih => show (arcC x ++ arcsC r).length = _; rw [List.length_append, ih, List.length_cons]; show 3 + _ = _; omega
theorem arcsC_app (a b : List Arc3) : arcsC (a ++ b) = arcsC a ++ arcsC b := List.flatMap_append
/-- A state, and where its arcs lie. -/
structure Sh where
  d : St
  A : Option Addr
  c : Nat
def Sh.hdr (x : Sh) : List Value := [.bool x.d.1, .slice x.A x.d.2.length x.c]
/-- States that are read. -/
structure StsIn (w : World) (B : Nat) (A : Option Addr) (n c : Nat) (H : List Sh) : Prop where
  len : H.length = n
  sl : Sl w B 2 A n (H.flatMap Sh.hdr)
  nc : n ≤ c
  cm : n ≤ 140737488355328
  ar : ∀ x ∈ H, Sl w B 3 x.A x.d.2.length (arcsC x.d.2) ∧ x.d.2.length ≤ x.c ∧ x.d.2.length ≤ 140737488355328
section
variable {w w' : World} {B B' : Nat} {A : Option Addr} {n c : Nat} {H : List Sh}
theorem StsIn.keep (h : StsIn w B A n c H) (hb : Below B w w') (hB : B ≤ B') : StsIn w' B' A n c H :=
  ⟨h.len, (h.sl.below hb).more hB, h.nc, h.cm, fun x hx => ⟨((h.ar x hx).1.below hb).more hB, (h.ar x hx).2⟩⟩
theorem StsIn.at_ (h : StsIn w B A n c H) (hn : 0 < n) : ∃ b off, A = some ⟨b, off, none⟩ ∧ b < B ∧ ∀ k x, H[k]? = some x → w.cell? ⟨b, off + k * 2, none⟩ = some (.bool x.d.1) ∧ w.cell? ⟨b, off + k * 2 + 1, none⟩ = some (.slice x.A x.d.2.length x.c) := by
  obtain ⟨b, off, hA, hb, hc⟩ := h.sl.at_ hn
  refine ⟨b, off, hA, hb, fun k e he => ?_⟩
  have g : ∀ j u, e.hdr[j]? = some u → j < 2 → w.cell? ⟨b, off + (k * 2 + j), none⟩ = some u := fun j u hu hj =>
    hc _ _ (by rw [flat_at Sh.hdr 2 (fun _ => rfl) H k j e he hj]; exact hu)
  exact ⟨g 0 _ rfl (by omega), by have := g 1 _ rfl (by omega); rwa [← Nat.add_assoc] at this⟩
theorem StsIn.arc (h : StsIn w B A n c H) {x : Sh} (hx : x ∈ H) (hn : 0 < x.d.2.length) : ∃ b off, x.A = some ⟨b, off, none⟩ ∧ b < B ∧ ∀ k a, x.d.2[k]? = some a → w.cell? ⟨b, off + k * 3, none⟩ = some (.int .i64 a.1) ∧ w.cell? ⟨b, off + k * 3 + 1, none⟩ = some (.int .i64 a.2.1) ∧ w.cell? ⟨b, off + k * 3 + 2, none⟩ = some (.int .i64 a.2.2) := by
  obtain ⟨b, off, hA, hb, hc⟩ := (h.ar x hx).1.at_ hn
  refine ⟨b, off, hA, hb, fun k e he => ?_⟩
  have g : ∀ j u, (arcC e)[j]? = some u → j < 3 → w.cell? ⟨b, off + (k * 3 + j), none⟩ = some u := fun j u hu hj =>
    hc _ _ (by unfold arcsC; rw [flat_at arcC 3 (fun _ => rfl) x.d.2 k j e he hj]; exact hu)
  exact ⟨g 0 _ rfl (by omega), by have := g 1 _ rfl (by omega); rwa [← Nat.add_assoc] at this, by have := g 2 _ rfl (by omega); rwa [← Nat.add_assoc] at this⟩
end
/-- Arcs in order, from a byte on. -/
def okA (n : Nat) : Int → List Arc3 → Bool
  | _, [] => true
  | last, a :: r => decide (last < a.1 ∧ a.1 ≤ a.2.1 ∧ a.2.1 ≤ 255 ∧ 0 ≤ a.2.2 ∧ a.2.2 < (n : Int)) && okA n a.2.1 r
/-- What Check says. -/
def checkE (d : List St) : Int := if d = [] then 1 else if 20000 < d.length then 8 else if d.all (fun s => okA d.length (-1) s.2) then 0 else 3
end Go.Proofs.YtclahhkcbkpofaaDoor
