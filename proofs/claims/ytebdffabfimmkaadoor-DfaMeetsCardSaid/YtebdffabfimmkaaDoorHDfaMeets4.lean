/- States told apart, round by round, till no round tells more apart (plain Lean). -/
import Derived.Test.YtebdffabfimmkaaDoorHDfaMeets3
import Derived.Test.YtebdffabfimmkaaDoorHDfaMeets1
namespace Go.Proofs.YtebdffabfimmkaaDoor

/-! ### Arcs that are led on -/
/-- Arcs, each led on to what f says; those that lead nowhere are left out. -/
def ledA (f : Int → Option Nat) (l : List Arc3) : List Arc3 := l.foldl (fun acc a => match f a.2.2 with
  | some k => joinA acc (a.1, a.2.1, (k : Int))
  | none => acc) []
theorem ledA_snoc (f : Int → Option Nat) (l : List Arc3) (a : Arc3) : ledA f (l ++ [a]) = match f a.2.2 with
    | some k => joinA (ledA f l) (a.1, a.2.1, (k : Int))
    | none => ledA f l := by
  unfold ledA
  rw [List.foldl_append]
  rfl
theorem rev_ind {α : Type} {p : List α → Prop} (h0 : p []) (h1 : ∀ l a, p l → p (l ++ [a])) (l : List α) : p l := by
  have : ∀ n, ∀ l : List α, l.length = n → p l := by
    intro n
    induction n with
    | zero => intro l hl; rw [List.eq_nil_of_length_eq_zero hl]; exact h0
    | succ n ih =>
      intro l hl
      have hne : l ≠ [] := fun e => by rw [e] at hl; cases hl
      rw [← List.dropLast_concat_getLast hne]
      exact h1 _ _ (ih _ (by rw [List.length_dropLast, hl]; rfl))
  exact this _ l rfl
theorem ledA_runs (f : Int → Option Nat) (l : List Arc3) : ∀ n : Nat, Asc l n → ledA f l = runs (fun c => (lookA l c).bind f) n := by
  induction l using rev_ind with
  | h0 =>
    intro n _
    have : ∀ n, runs (fun c : Nat => (lookA [] c).bind f) n = [] := by
      intro n
      induction n with
      | zero => rfl
      | succ n ih => rw [runs]; exact ih
    exact (this n).symm
  | h1 l a ih =>
    intro n h
    have hm := h.pre
    have hao := h.ok a (by simp)
    have hlt : ∀ b ∈ l, b.2.1 < a.1 := fun b hb => (List.pairwise_append.1 h.lt).2.2 b hb a (by simp)
    obtain ⟨lo, hlo⟩ := Int.eq_ofNat_of_zero_le hao.1
    obtain ⟨w, hw⟩ : ∃ w : Nat, a.2.1 = ((lo + w : Nat) : Int) := ⟨(a.2.1 - lo).toNat, by omega⟩
    have hn : lo + (w + 1) ≤ n := by omega
    have hl : Asc l lo := ⟨hm.lt, fun b hb => ⟨(hm.ok b hb).1, (hm.ok b hb).2.1, by rw [← hlo]; exact hlt b hb⟩⟩
    have hih := ih lo hl
    have e1 : runs (fun c : Nat => (lookA (l ++ [a]) c).bind f) lo = ledA f l := by
      rw [hih]
      refine runs_congr lo fun c hc => ?_
      rw [lookA_append, lookA_one, if_neg (by omega)]
      cases lookA l c <;> rfl
    have hin : ∀ c : Nat, lo ≤ c → c < lo + (w + 1) → (lookA (l ++ [a]) c).bind f = f a.2.2 := by
      intro c h1 h2
      rw [lookA_append, lookA_one, lookA_none fun b hb => by have := hlt b hb; omega, if_pos (by omega)]
      rfl
    have htop : runs (fun c : Nat => (lookA (l ++ [a]) c).bind f) n = runs (fun c : Nat => (lookA (l ++ [a]) c).bind f) (lo + (w + 1)) := by
      obtain ⟨k, hk⟩ : ∃ k, n = lo + (w + 1) + k := ⟨n - (lo + (w + 1)), by omega⟩
      rw [hk]
      refine runs_none _ _ _ fun c h1 h2 => ?_
      rw [lookA_none]
      · rfl
      · intro b hb
        rcases List.mem_append.1 hb with hb | hb
        · have := hlt b hb; omega
        · rw [List.mem_singleton.1 hb]; omega
    rw [htop, ledA_snoc]
    cases hf : f a.2.2 with
    | none =>
      have := runs_none (fun c : Nat => (lookA (l ++ [a]) c).bind f) lo (w + 1) fun c h1 h2 => by rw [hin c h1 h2, hf]
      rw [this, e1]
    | some k =>
      have := runs_const (fun c : Nat => (lookA (l ++ [a]) c).bind f) lo k w fun c h1 h2 => by rw [hin c h1 h2, hf]
      rw [this, e1]
      simp only
      rw [hlo, hw]
/-- What stands in runs. -/
theorem runs_mem (g : Nat → Option Nat) : ∀ n, ∀ a ∈ runs g n, ∃ c k, c < n ∧ g c = some k ∧ a.2.2 = (k : Int)
  | 0, a, h => by cases h
  | n + 1, a, h => by
    rw [runs] at h
    cases hg : g n with
    | none =>
      rw [hg] at h
      obtain ⟨c, k, h1, h2, h3⟩ := runs_mem g n a h
      exact ⟨c, k, by omega, h2, h3⟩
    | some k =>
      rw [hg] at h
      simp only at h
      have hnew : ∀ m : List Arc3, (∀ b ∈ m, b ∈ runs g n) → ∀ lo : Int, a ∈ m ++ [(lo, (n : Int), (k : Int))] → ∃ c k, c < n + 1 ∧ g c = some k ∧ a.2.2 = (k : Int) := by
        intro m hm lo ha
        rcases List.mem_append.1 ha with ha | ha
        · obtain ⟨c, k, h1, h2, h3⟩ := runs_mem g n a (hm a ha)
          exact ⟨c, k, by omega, h2, h3⟩
        · rw [List.mem_singleton.1 ha]
          exact ⟨n, k, by omega, hg, rfl⟩
      unfold growA at h
      split at h
      · split at h
        · exact hnew _ (fun b hb => List.dropLast_subset _ hb) _ h
        · exact hnew _ (fun b hb => hb) _ h
      · exact hnew [] (fun b hb => by cases hb) _ h
/-- Runs of numbers that are told apart likewise. -/
theorem runs_map (g : Nat → Option Nat) (h : Nat → Nat) : ∀ n, (∀ c, c < n → ∀ c', c' < n → ∀ k k', g c = some k → g c' = some k' → h k = h k' → k = k') → runs (fun c => (g c).map h) n = (runs g n).map fun a => (a.1, a.2.1, (h a.2.2.toNat : Int))
  | 0, _ => rfl
  | n + 1, hi => by
    have ih := runs_map g h n fun c hc c' hc' => hi c (by omega) c' (by omega)
    rw [runs, runs, ih]
    cases hg : g n with
    | none => rfl
    | some k =>
      simp only [Option.map_some]
      unfold growA
      rw [List.getLast?_map]
      cases hl : (runs g n).getLast? with
      | none => simp
      | some a =>
        simp only [Option.map_some]
        obtain ⟨c, k', hc, hg', ha⟩ := runs_mem g n a (List.mem_of_getLast? hl)
        have hk : (h a.2.2.toNat : Int) = (h k : Int) ↔ a.2.2 = (k : Int) := by
          rw [ha, Int.toNat_natCast]
          constructor
          · intro e
            rw [hi c (by omega) n (by omega) k' k hg' hg (by omega)]
          · intro e
            have : k' = k := by omega
            rw [this]
        by_cases hj : a.2.1 + 1 = (n : Int) ∧ a.2.2 = (k : Int)
        · rw [if_pos hj, if_pos ⟨hj.1, hk.2 hj.2⟩, List.map_append, List.map_dropLast]
          simp
        · rw [if_neg hj, if_neg fun e => hj ⟨e.1, hk.1 e.2⟩, List.map_append]
          simp
theorem runs_inj {g g' : Nat → Option Nat} {n : Nat} (h : runs g n = runs g' n) : ∀ c, c < n → g c = g' c := by
  intro c hc
  have h1 := (runs_asc g n).2 c
  have h2 := (runs_asc g' n).2 c
  rw [h, h2, if_pos hc, if_pos hc] at h1
  cases hg : g c with
  | none =>
    cases hg' : g' c with
    | none => rfl
    | some k => rw [hg, hg'] at h1; cases h1
  | some k =>
    cases hg' : g' c with
    | none => rw [hg, hg'] at h1; cases h1
    | some k' =>
      rw [hg, hg'] at h1
      simp only [Option.map_some] at h1
      injection h1 with h1
      have : k' = k := by omega
      rw [this]
/-! ### Classes -/
section
variable {M : Au Nat} {n : Nat} {cls cls' : Nat → Nat}
open Classical in
/-- What a state is told apart by. -/
noncomputable def keyOf (M : Au Nat) (cls : Nat → Nat) (x : Nat) : Option (Nat × Bool × List Arc3) :=
  if M.live x then some (cls x, M.fin x, runs (fun c => (M.stepL x c).map cls) 256) else none
/-- States are within the first n. -/
def Within (M : Au Nat) (n : Nat) : Prop := ∀ x, x < n → ∀ c y, M.step x c = some y → y < n
theorem stepL_in (hW : Within M n) {x c y : Nat} (hx : x < n) (h : M.stepL x c = some y) : y < n ∧ M.live y ∧ M.step x c = some y := by
  unfold Au.stepL at h
  cases hs : M.step x c with
  | none => rw [hs] at h; cases h
  | some z =>
    rw [hs] at h
    simp only at h
    split at h
    · rename_i hl
      injection h with h
      subst h
      exact ⟨hW x hx c _ hs, hl, rfl⟩
    · cases h
/-- Classes never part what takes the same. -/
def Coarse (M : Au Nat) (n : Nat) (cls : Nat → Nat) : Prop := ∀ x, x < n → ∀ y, y < n → Leq M x M y → cls x = cls y
theorem key_leq (hW : Within M n) (hC : Coarse M n cls) {x y : Nat} (hx : x < n) (hy : y < n) (h : Leq M x M y) : keyOf M cls x = keyOf M cls y := by
  unfold keyOf
  by_cases hl : M.live x
  · rw [if_pos hl, if_pos (h.live.1 hl), hC x hx y hy h, h.fin]
    congr 3
    refine runs_congr 256 fun c hc => ?_
    have hs := h.step hc
    cases hu : M.stepL x c with
    | none =>
      cases hv : M.stepL y c with
      | none => rfl
      | some v => rw [hu, hv] at hs; exact hs.elim
    | some u =>
      cases hv : M.stepL y c with
      | none => rw [hu, hv] at hs; exact hs.elim
      | some v =>
        rw [hu, hv] at hs
        show some (cls u) = some (cls v)
        rw [hC u (stepL_in hW hx hu).1 v (stepL_in hW hy hv).1 hs]
  · rw [if_neg hl, if_neg fun h' => hl (h.live.2 h')]
theorem dead_acc {σ : Type} {M : Au σ} {x : σ} (h : ¬ M.live x) (s : List Nat) : M.acc x s = false := by
  cases hs : M.acc x s with
  | false => rfl
  | true => exact absurd ⟨s, hs⟩ h
theorem acc_stepL {σ : Type} (M : Au σ) (x : σ) (c : Nat) (r : List Nat) : M.acc x (c :: r) = if c < 256 then match M.stepL x c with
    | some y => M.acc y r
    | none => false else false := by
  rw [Au.acc]
  split
  · unfold Au.stepL
    cases hs : M.step x c with
    | none => rfl
    | some y =>
      simp only
      by_cases hl : M.live y
      · rw [if_pos hl]
      · rw [if_neg hl]
        exact dead_acc hl r
  · rfl
/-- Where a round tells no more apart, classes are what takes the same. -/
theorem stable_leq (hW : Within M n) (hs : ∀ x, x < n → ∀ y, y < n → cls x = cls y → keyOf M cls x = keyOf M cls y) : ∀ (s : List Nat) (x y : Nat), x < n → y < n → cls x = cls y → M.acc x s = M.acc y s := by
  intro s
  induction s with
  | nil =>
    intro x y hx hy h
    have hk := hs x hx y hy h
    unfold keyOf at hk
    by_cases hl : M.live x
    · by_cases hl' : M.live y
      · rw [if_pos hl, if_pos hl'] at hk
        injection hk with hk
        injection hk with _ hk
        injection hk with hk _
      · rw [if_pos hl, if_neg hl'] at hk
        cases hk
    · by_cases hl' : M.live y
      · rw [if_neg hl, if_pos hl'] at hk
        cases hk
      · rw [dead_acc hl, dead_acc hl']
  | cons c r ih =>
    intro x y hx hy h
    have hk := hs x hx y hy h
    unfold keyOf at hk
    by_cases hl : M.live x
    · by_cases hl' : M.live y
      · rw [if_pos hl, if_pos hl'] at hk
        injection hk with hk
        injection hk with _ hk
        injection hk with _ hk
        rw [acc_stepL, acc_stepL]
        by_cases hc : c < 256
        · rw [if_pos hc, if_pos hc]
          have hg := runs_inj hk c hc
          cases hu : M.stepL x c with
          | none =>
            cases hv : M.stepL y c with
            | none => rfl
            | some v => rw [hu, hv] at hg; cases hg
          | some u =>
            cases hv : M.stepL y c with
            | none => rw [hu, hv] at hg; cases hg
            | some v =>
              rw [hu, hv] at hg
              injection hg with hg
              exact ih u v (stepL_in hW hx hu).1 (stepL_in hW hy hv).1 hg
        · rw [if_neg hc, if_neg hc]
      · rw [if_pos hl, if_neg hl'] at hk
        cases hk
    · by_cases hl' : M.live y
      · rw [if_neg hl, if_pos hl'] at hk
        cases hk
      · rw [dead_acc hl, dead_acc hl']
/-- So many classes. -/
def Onto (n : Nat) (cls : Nat → Nat) (count : Nat) : Prop := (∀ x, x < n → cls x < count) ∧ ∀ k, k < count → ∃ x, x < n ∧ cls x = k
theorem all_len : ∀ (m : Nat) (l : List Nat), (∀ k, k < m → k ∈ l) → m ≤ l.length
  | 0, _, _ => Nat.zero_le _
  | m + 1, l, h => by
    have hm := h m (by omega)
    have := all_len m (l.erase m) fun k hk => (List.mem_erase_of_ne (by omega)).2 (h k (by omega))
    rw [List.length_erase_of_mem hm] at this
    have := List.length_pos_of_mem hm
    omega
/-- As many classes as before: the same classes. -/
theorem same_count {count : Nat} (ho : Onto n cls count) (ho' : Onto n cls' count) (hr : ∀ x, x < n → ∀ y, y < n → cls' x = cls' y → cls x = cls y) {x y : Nat} (hx : x < n) (hy : y < n) (h : cls x = cls y) : cls' x = cls' y := by
  apply Classical.byContradiction
  intro hne
  have hf : ∀ k : Nat, ∃ z, k < count → z < n ∧ cls' z = k := fun k => by
    by_cases hk : k < count
    · obtain ⟨z, h1, h2⟩ := ho'.2 k hk
      exact ⟨z, fun _ => ⟨h1, h2⟩⟩
    · exact ⟨0, fun h => absurd h hk⟩
  let f : Nat → Nat := fun k => cls (Classical.choose (hf k))
  have hfz : ∀ z, z < n → f (cls' z) = cls z := fun z hz => by
    have := Classical.choose_spec (hf (cls' z)) (ho'.1 z hz)
    exact hr _ this.1 z hz this.2
  have hy' := ho'.1 y hy
  have hall := all_len count (((List.range count).erase (cls' y)).map f) fun k hk => by
    obtain ⟨z, hz, hzk⟩ := ho.2 k hk
    rw [List.mem_map]
    by_cases hzy : cls' z = cls' y
    · refine ⟨cls' x, (List.mem_erase_of_ne hne).2 (List.mem_range.2 (ho'.1 x hx)), ?_⟩
      rw [hfz x hx, h, ← hr z hz y hy hzy, hzk]
    · exact ⟨cls' z, (List.mem_erase_of_ne hzy).2 (List.mem_range.2 (ho'.1 z hz)), by rw [hfz z hz, hzk]⟩
  rw [List.length_map, List.length_erase_of_mem (List.mem_range.2 hy'), List.length_range] at hall
  omega
/-- One round: the classes are those of the keys. -/
structure Round (M : Au Nat) (n : Nat) (cls cls' : Nat → Nat) (count' : Nat) : Prop where
  onto : Onto n cls' count'
  iff : ∀ x, x < n → ∀ y, y < n → (cls' x = cls' y ↔ keyOf M cls x = keyOf M cls y)
theorem Round.coarse {c : Nat} (h : Round M n cls cls' c) (hW : Within M n) (hC : Coarse M n cls) : Coarse M n cls' := fun x hx y hy hxy => (h.iff x hx y hy).2 (key_leq hW hC hx hy hxy)
theorem Round.finer {c : Nat} (h : Round M n cls cls' c) (hC : Coarse M n cls) {x y : Nat} (hx : x < n) (hy : y < n) (he : cls' x = cls' y) : cls x = cls y := by
  have hk := (h.iff x hx y hy).1 he
  unfold keyOf at hk
  by_cases hl : M.live x
  · by_cases hl' : M.live y
    · rw [if_pos hl, if_pos hl'] at hk
      injection hk with hk
      injection hk with hk _
    · rw [if_pos hl, if_neg hl'] at hk
      cases hk
  · by_cases hl' : M.live y
    · rw [if_neg hl, if_pos hl'] at hk
      cases hk
    · exact hC x hx y hy fun s => by rw [dead_acc hl, dead_acc hl']
/-- The last round: classes are what takes the same. -/
theorem Round.last {c : Nat} (h : Round M n cls cls' c) (hW : Within M n) (hC : Coarse M n cls) (ho : Onto n cls c) {x y : Nat} (hx : x < n) (hy : y < n) : cls' x = cls' y ↔ Leq M x M y := by
  have hfin : ∀ x, x < n → ∀ y, y < n → cls' x = cls' y → cls x = cls y := fun x hx y hy he => h.finer hC hx hy he
  constructor
  · intro he s
    exact stable_leq hW (fun x hx y hy e => (h.iff x hx y hy).1 (same_count ho h.onto hfin hx hy e)) s x y hx hy (hfin x hx y hy he)
  · exact h.coarse hW hC x hx y hy
theorem onto_le {count : Nat} (h : Onto n cls count) : count ≤ n := by
  have := all_len count ((List.range n).map cls) fun k hk => by
    obtain ⟨x, hx, he⟩ := h.2 k hk
    exact List.mem_map.2 ⟨x, List.mem_range.2 hx, he⟩
  rwa [List.length_map, List.length_range] at this
/-- A round has no fewer classes. -/
theorem Round.more {c c' : Nat} (h : Round M n cls cls' c') (hC : Coarse M n cls) (ho : Onto n cls c) : c ≤ c' := by
  have hf : ∀ k : Nat, ∃ z, k < c' → z < n ∧ cls' z = k := fun k => by
    by_cases hk : k < c'
    · obtain ⟨z, h1, h2⟩ := h.onto.2 k hk
      exact ⟨z, fun _ => ⟨h1, h2⟩⟩
    · exact ⟨0, fun h => absurd h hk⟩
  have := all_len c ((List.range c').map fun k => cls (Classical.choose (hf k))) fun k hk => by
    obtain ⟨z, hz, hzk⟩ := ho.2 k hk
    refine List.mem_map.2 ⟨cls' z, List.mem_range.2 (h.onto.1 z hz), ?_⟩
    have := Classical.choose_spec (hf (cls' z)) (h.onto.1 z hz)
    rw [← hzk]
    exact h.finer hC this.1 hz this.2
  rwa [List.length_map, List.length_range] at this
end
end Go.Proofs.YtebdffabfimmkaaDoor
/- Automata in memory: arcs, states. -/
namespace Go.Proofs.YtebdffabfimmkaaDoor
open Go.RowKit

def arcC (a : Arc3) : List Value := [.int .i64 a.1, .int .i64 a.2.1, .int .i64 a.2.2]
def arcsC (l : List Arc3) : List Value := l.flatMap arcC
theorem arcsC_len (l : List Arc3) : (arcsC l).length = l.length * 3 := by
  induction l with
  | nil => rfl
  | cons x r ih => show (arcC x ++ arcsC r).length = _; rw [List.length_append, ih, List.length_cons]; show 3 + _ = _; omega
theorem arcsC_app (a b : List Arc3) : arcsC (a ++ b) = arcsC a ++ arcsC b := List.flatMap_append
/-- A state, and where its arcs lie. -/
structure Sh where
  d : St
  A : Option Addr
  c : Nat
def Sh.hdr (x : Sh) : List Value := [.bool x.d.1, .slice x.A x.d.2.length x.c]
/-- States that are read. -/
structure StsIn (w : World) (B : Nat) (A : Option Addr) (n c : Nat) (H : List Sh) : Prop where
  len : H.length = n
  sl : Sl w B 2 A n (H.flatMap Sh.hdr)
  nc : n ≤ c
  cm : n ≤ 140737488355328
  ar : ∀ x ∈ H, Sl w B 3 x.A x.d.2.length (arcsC x.d.2) ∧ x.d.2.length ≤ x.c ∧ x.d.2.length ≤ 140737488355328
section
variable {w w' : World} {B B' : Nat} {A : Option Addr} {n c : Nat} {H : List Sh}
theorem StsIn.keep (h : StsIn w B A n c H) (hb : Below B w w') (hB : B ≤ B') : StsIn w' B' A n c H :=
  ⟨h.len, (h.sl.below hb).more hB, h.nc, h.cm, fun x hx => ⟨((h.ar x hx).1.below hb).more hB, (h.ar x hx).2⟩⟩
theorem StsIn.at_ (h : StsIn w B A n c H) (hn : 0 < n) : ∃ b off, A = some ⟨b, off, none⟩ ∧ b < B ∧ ∀ k x, H[k]? = some x → w.cell? ⟨b, off + k * 2, none⟩ = some (.bool x.d.1) ∧ w.cell? ⟨b, off + k * 2 + 1, none⟩ = some (.slice x.A x.d.2.length x.c) := by
  obtain ⟨b, off, hA, hb, hc⟩ := h.sl.at_ hn
  refine ⟨b, off, hA, hb, fun k e he => ?_⟩
  have g : ∀ j u, e.hdr[j]? = some u → j < 2 → w.cell? ⟨b, off + (k * 2 + j), none⟩ = some u := fun j u hu hj =>
    hc _ _ (by rw [flat_at Sh.hdr 2 (fun _ => rfl) H k j e he hj]; exact hu)
  exact ⟨g 0 _ rfl (by omega), by have := g 1 _ rfl (by omega); rwa [← Nat.add_assoc] at this⟩
theorem StsIn.arc (h : StsIn w B A n c H) {x : Sh} (hx : x ∈ H) (hn : 0 < x.d.2.length) : ∃ b off, x.A = some ⟨b, off, none⟩ ∧ b < B ∧ ∀ k a, x.d.2[k]? = some a → w.cell? ⟨b, off + k * 3, none⟩ = some (.int .i64 a.1) ∧ w.cell? ⟨b, off + k * 3 + 1, none⟩ = some (.int .i64 a.2.1) ∧ w.cell? ⟨b, off + k * 3 + 2, none⟩ = some (.int .i64 a.2.2) := by
  obtain ⟨b, off, hA, hb, hc⟩ := (h.ar x hx).1.at_ hn
  refine ⟨b, off, hA, hb, fun k e he => ?_⟩
  have g : ∀ j u, (arcC e)[j]? = some u → j < 3 → w.cell? ⟨b, off + (k * 3 + j), none⟩ = some u := fun j u hu hj =>
    hc _ _ (by unfold arcsC; rw [flat_at arcC 3 (fun _ => rfl) x.d.2 k j e he hj]; exact hu)
  exact ⟨g 0 _ rfl (by omega), by have := g 1 _ rfl (by omega); rwa [← Nat.add_assoc] at this, by have := g 2 _ rfl (by omega); rwa [← Nat.add_assoc] at this⟩
end
/-- Arcs in order, from a byte on. -/
def okA (n : Nat) : Int → List Arc3 → Bool
  | _, [] => true
  | last, a :: r => decide (last < a.1 ∧ a.1 ≤ a.2.1 ∧ a.2.1 ≤ 255 ∧ 0 ≤ a.2.2 ∧ a.2.2 < (n : Int)) && okA n a.2.1 r
/-- What Check says. -/
def checkE (d : List St) : Int := if d = [] then 1 else if 20000 < d.length then 8 else if d.all (fun s => okA d.length (-1) s.2) then 0 else 3
end Go.Proofs.YtebdffabfimmkaaDoor
/- dfa.Check, Step, Accepts. -/
namespace Go.Proofs.YtebdffabfimmkaaDoor
open Go.RowKit

set_option maxRecDepth 100000 in
set_option maxHeartbeats 8000000 in
theorem dcheck_any (w : World) (B : Nat) (hB : B ≤ w.heap.size) (A : Option Addr) (n c : Nat) (H : List Sh) (h : StsIn w B A n c H) :
    Calls Tryd.prog 9 #[.slice A n c] w fun e w' => e = .returned (.int .i64 (checkE (H.map (·.d)))) ∧ Below w.heap.size w w' := by
  have HS := Lib.hid h
  have hlen := h.len
  have hcm := h.cm
  by_cases h0 : n = 0
  · subst h0
    have hH : H = [] := List.eq_nil_of_length_eq_zero hlen
    have HE : Hid (checkE (H.map (·.d)) = 1) := by rw [hH]; rfl
    clear h hlen hH
    go_enter Tryd.func9, Tryd.ntmps9
    go_wp2_with fail
    go_ret
    exact ⟨by rw [HE.out]; rfl, brefl w⟩
  have q0 : ((n : Int) == 0) = false := by simp; omega
  have q01 : (n == 0) = false := by simp; omega
  by_cases hbig : 20000 < n
  · have q1 : decide ((n : Int) > 20000) = true := decide_eq_true (by omega)
    have q2 : decide (n > 20000) = true := decide_eq_true (by omega)
    have HE : Hid (checkE (H.map (·.d)) = 8) := by
      show _ = _
      unfold checkE
      rw [if_neg (by intro e; rw [List.map_eq_nil_iff] at e; rw [e] at hlen; exact h0 hlen.symm), List.length_map, hlen, if_pos hbig]
    clear h hlen hbig
    go_enter Tryd.func9, Tryd.ntmps9
    go_wp2_with fail
    go_ret
    exact ⟨by rw [HE.out]; rfl, brefl w⟩
  have q1 : decide ((n : Int) > 20000) = false := decide_eq_false (by omega)
  have q2 : decide (n > 20000) = false := decide_eq_false (by omega)
  have HE : Hid (checkE (H.map (·.d)) = if (H.map (·.d)).all (fun s => okA n (-1) s.2) then 0 else 3) := by
    show _ = _
    unfold checkE
    rw [if_neg (by intro e; rw [List.map_eq_nil_iff] at e; rw [e] at hlen; exact h0 hlen.symm), List.length_map, hlen, if_neg hbig]
  clear h hbig
  go_enter Tryd.func9, Tryd.ntmps9
  go_wp2_with fail
  go_loopw [18] (fun iv wr => ∃ k : Nat, k ≤ n ∧ iv = .int .i64 k ∧ Hid (∀ x ∈ H.take k, okA n (-1) x.d.2 = true) ∧ Hid (Below w.heap.size w wr)) (fun iv _ => n - (intOf iv).toNat)
  case atStart => exact ⟨0, Nat.zero_le _, rfl, fun x hx => by simp at hx, brefl w⟩
  case round =>
    obtain ⟨k, hk, rfl, HK, HB⟩ := hrel
    by_cases hlt : k < n
    · have HW := Lib.hid (HS.out.keep (HB.out.mono hB) (Nat.le_refl _))
      obtain ⟨b, off, rfl, hb, hcell⟩ := HW.out.at_ (by omega)
      obtain ⟨x, hx⟩ : ∃ x, H[k]? = some x := ⟨H[k]'(by omega), List.getElem?_eq_getElem _⟩
      obtain ⟨k0, k1⟩ := hcell k x hx
      have hbw : b < wr.heap.size := Nat.lt_of_lt_of_le hb (Nat.le_trans hB HB.out.size)
      have hxm := List.mem_of_getElem? hx
      have hxar := HW.out.ar x hxm
      obtain ⟨m, hm⟩ : ∃ m, x.d.2.length = m := ⟨_, rfl⟩
      have hm47 := hxar.2.2
      rw [hm] at k1 hm47
      have HM := Lib.hid hm
      have HXM := Lib.hid hxm
      have HXK := Lib.hid hx
      clear hcell hx hxm hxar hm
      go_wp2_with fail
      have HB1 := Lib.hid (bnew HB.out (.cells #[.bool x.d.1, .slice x.A m x.c] 39))
      have H0 : Hid (okA n (-1) x.d.2 = okA n (-1) (x.d.2.drop 0)) := rfl
      go_loopw [5, 25] (fun lv jv wj => ∃ (j : Nat) (last : Int), j ≤ m ∧ jv = .int .i64 j ∧ lv = .int .i64 last ∧ Hid (okA n (-1) x.d.2 = okA n last (x.d.2.drop j)) ∧ Hid (Below w.heap.size w wj)) (fun _ jv _ => m - (intOf jv).toNat)
      case atStart => exact ⟨0, -1, Nat.zero_le _, rfl, rfl, H0, HB1⟩
      case round =>
        clear H0 HB1 k0 k1
        obtain ⟨j, last, hj, rfl, rfl, HO, HBJ⟩ := hrel
        by_cases hjm : j < m
        · have HWJ := HS.out.keep (HBJ.out.mono hB) (Nat.le_refl _)
          obtain ⟨ab, aoff, hxA, hab, hac⟩ := HWJ.arc HXM.out (by rw [HM.out]; omega)
          obtain ⟨a, ha⟩ : ∃ a, x.d.2[j]? = some a := ⟨x.d.2[j]'(by rw [HM.out]; exact hjm), List.getElem?_eq_getElem _⟩
          obtain ⟨a0, a1, a2⟩ := hac j a ha
          have habw : ab < wr.heap.size := Nat.lt_of_lt_of_le hab (Nat.le_trans hB HBJ.out.size)
          have hdrop : x.d.2.drop j = a :: x.d.2.drop (j + 1) := by
            obtain ⟨h1, h2⟩ := List.getElem?_eq_some_iff.1 ha
            rw [List.drop_eq_getElem_cons h1, h2]
          rw [hdrop, okA] at HO
          have HBN := Lib.hid (bnew HBJ.out (.cells #[.int .i64 a.1, .int .i64 a.2.1, .int .i64 a.2.2] 41))
          rw [hxA]
          clear hac HWJ ha hdrop
          obtain ⟨lo, hi, tt⟩ := a
          simp only at a0 a1 a2 HO HBN
          have HBAD : Hid (¬ (last < lo ∧ lo ≤ hi ∧ hi ≤ 255 ∧ 0 ≤ tt ∧ tt < (n : Int)) → checkE (H.map (·.d)) = 3) := fun hbad => by
            rw [HE.out, if_neg]
            rw [List.all_eq_true]
            intro h
            have := h x.d (List.mem_map_of_mem HXM.out)
            rw [HO.out, decide_eq_false hbad] at this
            simp at this
          by_cases c1 : lo ≤ last
          · have p1 : decide (lo ≤ last) = true := decide_eq_true c1
            have HB3 := Lib.hid (HBAD.out (by omega))
            go_wp2_with fail
            go_ret
            exact ⟨by rw [HB3.out]; rfl, HBN.out⟩
          have p1 : decide (lo ≤ last) = false := decide_eq_false c1
          by_cases c2 : hi < lo
          · have p2 : decide (hi < lo) = true := decide_eq_true c2
            have HB3 := Lib.hid (HBAD.out (by omega))
            clear c1
            go_wp2_with fail
            go_ret
            exact ⟨by rw [HB3.out]; rfl, HBN.out⟩
          have p2 : decide (hi < lo) = false := decide_eq_false c2
          by_cases c3 : 255 < hi
          · have p3 : decide (hi > 255) = true := decide_eq_true c3
            have HB3 := Lib.hid (HBAD.out (by omega))
            clear c1 c2
            go_wp2_with fail
            go_ret
            exact ⟨by rw [HB3.out]; rfl, HBN.out⟩
          have p3 : decide (hi > 255) = false := decide_eq_false c3
          by_cases c4 : tt < 0
          · have p4 : decide (tt < 0) = true := decide_eq_true c4
            have HB3 := Lib.hid (HBAD.out (by omega))
            clear c1 c2 c3
            go_wp2_with fail
            go_ret
            exact ⟨by rw [HB3.out]; rfl, HBN.out⟩
          have p4 : decide (tt < 0) = false := decide_eq_false c4
          by_cases c5 : (n : Int) ≤ tt
          · have p5 : decide (tt ≥ (n : Int)) = true := decide_eq_true c5
            have HB3 := Lib.hid (HBAD.out (by omega))
            clear c1 c2 c3 c4
            go_wp2_with fail
            go_ret
            exact ⟨by rw [HB3.out]; rfl, HBN.out⟩
          have p5 : decide (tt ≥ (n : Int)) = false := decide_eq_false c5
          have HON : Hid (okA n (-1) x.d.2 = okA n hi (x.d.2.drop (j + 1))) := by
            show _ = _
            rw [HO.out, decide_eq_true (by omega)]
            rfl
          clear c1 c2 c3 c4 c5 HO
          go_wp2_with fail
          go_roundw
          case rel => exact ⟨j + 1, hi, by omega, by go_num, rfl, HON, HBN⟩
          case measure => simp [intOf]; omega
        · obtain rfl : j = m := by omega
          have hok : okA n (-1) x.d.2 = true := by
            rw [HO.out, List.drop_of_length_le (by rw [HM.out]; exact Nat.le_refl _)]
            rfl
          have HKN : Hid (∀ y ∈ H.take (k + 1), okA n (-1) y.d.2 = true) := fun y hy => by
            rw [List.take_add_one, HXK.out] at hy
            rcases List.mem_append.1 hy with hy | hy
            · exact HK.out y hy
            · rw [List.mem_singleton.1 hy]; exact hok
          clear hok
          go_wp2_with fail
          go_roundw
          case rel => exact ⟨k + 1, by omega, by go_num, HKN, HBJ⟩
          case measure => simp [intOf]; omega
    · obtain rfl : k = n := by omega
      have hall : H.take k = H := List.take_of_length_le (by omega)
      rw [hall] at HK
      have HE2 : Hid (checkE (H.map (·.d)) = 0) := by
        show _ = _
        rw [HE.out, if_pos]
        rw [List.all_eq_true]
        intro s hs
        obtain ⟨x, hx, rfl⟩ := List.mem_map.1 hs
        exact HK.out x hx
      go_wp2_with fail
      go_ret
      exact ⟨by rw [HE2.out]; rfl, HB.out⟩
/-- Where a byte leads. -/
def stepI (d : List St) (z c : Int) : Int := if z < 0 ∨ (d.length : Int) ≤ z then -1 else match d[z.toNat]? with
  | some s => (lookA s.2 c).getD (-1)
  | none => -1
theorem lookA_cons (a : Arc3) (r : List Arc3) (c : Int) : lookA (a :: r) c = if a.1 ≤ c ∧ c ≤ a.2.1 then some a.2.2 else lookA r c := by
  unfold lookA
  by_cases h : a.1 ≤ c ∧ c ≤ a.2.1
  · rw [if_pos h, List.find?_cons_of_pos (by simpa using h)]
    rfl
  · rw [if_neg h, List.find?_cons_of_neg (by simpa using h)]
set_option maxRecDepth 100000 in
set_option maxHeartbeats 8000000 in
theorem dstep_any (w : World) (B : Nat) (hB : B ≤ w.heap.size) (A : Option Addr) (n c : Nat) (H : List Sh) (h : StsIn w B A n c H) (z : Int) (ch : Int) (hch : 0 ≤ ch ∧ ch < 256) :
    Calls Tryd.prog 13 #[.slice A n c, .int .i64 z, .int .u8 ch] w fun e w' => e = .returned (.int .i64 (stepI (H.map (·.d)) z ch)) ∧ Below w.heap.size w w' := by
  have HS := Lib.hid h
  have hlen := h.len
  have hcm := h.cm
  obtain ⟨hch0, hch1⟩ := hch
  have hwc : IntKind.i64.wrap ch = ch := IntWalk.i64_in _ (by omega)
  by_cases hz : z < 0
  · have q1 : decide (z < 0) = true := decide_eq_true hz
    have HE : Hid (stepI (H.map (·.d)) z ch = -1) := if_pos (.inl hz)
    clear h hlen hz
    go_enter Tryd.func13, Tryd.ntmps13
    go_wp2_with fail
    go_ret
    exact ⟨by rw [HE.out]; rfl, brefl w⟩
  by_cases hzn : (n : Int) ≤ z
  · have q1 : decide (z < 0) = false := decide_eq_false hz
    have q2 : decide (z ≥ (n : Int)) = true := decide_eq_true hzn
    have HE : Hid (stepI (H.map (·.d)) z ch = -1) := if_pos (.inr (by rw [List.length_map, hlen]; exact hzn))
    clear h hlen hz hzn
    go_enter Tryd.func13, Tryd.ntmps13
    go_wp2_with fail
    go_ret
    exact ⟨by rw [HE.out]; rfl, brefl w⟩
  obtain ⟨k, rfl⟩ := Int.eq_ofNat_of_zero_le (show 0 ≤ z by omega)
  have hkn : k < n := by omega
  obtain ⟨x, hx⟩ : ∃ x, H[k]? = some x := ⟨H[k]'(by omega), List.getElem?_eq_getElem _⟩
  have HE : Hid (stepI (H.map (·.d)) (k : Nat) ch = (lookA x.d.2 ch).getD (-1)) := by
    show _ = _
    unfold stepI
    rw [if_neg (by rw [List.length_map, hlen]; omega), Int.toNat_natCast, List.getElem?_map, hx]
    rfl
  obtain ⟨b, off, rfl, hb, hcell⟩ := h.at_ (by omega)
  obtain ⟨k0, k1⟩ := hcell k x hx
  have hxm := List.mem_of_getElem? hx
  obtain ⟨m, hm⟩ : ∃ m, x.d.2.length = m := ⟨_, rfl⟩
  have hm47 := (h.ar x hxm).2.2
  rw [hm] at k1 hm47
  have HM := Lib.hid hm
  have HXM := Lib.hid hxm
  have q1 : decide ((k : Int) < 0) = false := decide_eq_false (by omega)
  have q2 : decide ((k : Int) ≥ (n : Int)) = false := decide_eq_false (by omega)
  have q3 : decide (k ≥ n) = false := decide_eq_false (by omega)
  clear h hx hcell hxm hm hz hzn
  go_enter Tryd.func13, Tryd.ntmps13
  go_wp2_with fail
  go_loopw [23] (fun jv wj => ∃ j : Nat, j ≤ m ∧ jv = .int .i64 j ∧ Hid (lookA x.d.2 ch = lookA (x.d.2.drop j) ch) ∧ Hid (Below w.heap.size w wj)) (fun jv _ => m - (intOf jv).toNat)
  case atStart => exact ⟨0, Nat.zero_le _, rfl, rfl, brefl w⟩
  case round =>
    clear k0 k1
    obtain ⟨j, hj, rfl, HO, HBJ⟩ := hrel
    by_cases hjm : j < m
    · have HWJ := HS.out.keep (HBJ.out.mono hB) (Nat.le_refl _)
      obtain ⟨ab, aoff, hxA, hab, hac⟩ := HWJ.arc HXM.out (by rw [HM.out]; omega)
      obtain ⟨a, ha⟩ : ∃ a, x.d.2[j]? = some a := ⟨x.d.2[j]'(by rw [HM.out]; exact hjm), List.getElem?_eq_getElem _⟩
      obtain ⟨a0, a1, a2⟩ := hac j a ha
      have habw : ab < wr.heap.size := Nat.lt_of_lt_of_le hab (Nat.le_trans hB HBJ.out.size)
      have hdrop : x.d.2.drop j = a :: x.d.2.drop (j + 1) := by
        obtain ⟨h1, h2⟩ := List.getElem?_eq_some_iff.1 ha
        rw [List.drop_eq_getElem_cons h1, h2]
      rw [hdrop, lookA_cons] at HO
      have HBN := Lib.hid (bnew HBJ.out (.cells #[.int .i64 a.1, .int .i64 a.2.1, .int .i64 a.2.2] 41))
      rw [hxA]
      clear hac HWJ ha hdrop
      obtain ⟨lo, hi, tt⟩ := a
      simp only at a0 a1 a2 HO HBN
      by_cases c1 : lo ≤ ch
      · have p1 : decide (ch ≥ lo) = true := decide_eq_true c1
        by_cases c2 : ch ≤ hi
        · have p2 : decide (ch ≤ hi) = true := decide_eq_true c2
          have HE2 : Hid (stepI (H.map (·.d)) (k : Nat) ch = tt) := by
            show _ = _
            rw [HE.out, HO.out, if_pos ⟨c1, c2⟩]
            rfl
          clear c1 c2
          go_wp2_with fail
          go_ret
          exact ⟨by rw [HE2.out]; rfl, HBN.out⟩
        · have p2 : decide (ch ≤ hi) = false := decide_eq_false c2
          rw [if_neg (by omega)] at HO
          clear c1 c2
          go_wp2_with fail
          go_roundw
          case rel => exact ⟨j + 1, by omega, by go_num, HO, HBN⟩
          case measure => simp [intOf]; omega
      · have p1 : decide (ch ≥ lo) = false := decide_eq_false c1
        rw [if_neg (by omega)] at HO
        clear c1
        go_wp2_with fail
        go_roundw
        case rel => exact ⟨j + 1, by omega, by go_num, HO, HBN⟩
        case measure => simp [intOf]; omega
    · obtain rfl : j = m := by omega
      have HE2 : Hid (stepI (H.map (·.d)) (k : Nat) ch = -1) := by
        show _ = _
        rw [HE.out, HO.out, List.drop_of_length_le (by rw [HM.out]; exact Nat.le_refl _)]
        rfl
      go_wp2_with fail
      go_ret
      exact ⟨by rw [HE2.out]; rfl, HBJ.out⟩
/-! ### What an automaton takes -/
theorem okA_asc {n : Nat} : ∀ {l : List Arc3} {last : Int}, okA n last l = true → -1 ≤ last → (∀ a ∈ l, last < a.1) ∧ Asc l 256 ∧ ∀ a ∈ l, 0 ≤ a.2.2 ∧ a.2.2 < (n : Int)
  | [], _, _, _ => ⟨by simp, ⟨List.Pairwise.nil, by simp⟩, by simp⟩
  | a :: r, last, h, hl => by
    rw [okA, Bool.and_eq_true, decide_eq_true_eq] at h
    obtain ⟨⟨h1, h2, h3, h4, h5⟩, h6⟩ := h
    obtain ⟨i1, i2, i3⟩ := okA_asc h6 (by omega)
    refine ⟨fun b hb => ?_, ⟨List.pairwise_cons.2 ⟨i1, i2.lt⟩, fun b hb => ?_⟩, fun b hb => ?_⟩
    · rcases List.mem_cons.1 hb with rfl | hb
      · exact h1
      · have := i1 b hb; omega
    · rcases List.mem_cons.1 hb with rfl | hb
      · omega
      · exact i2.ok b hb
    · rcases List.mem_cons.1 hb with rfl | hb
      · exact ⟨h4, h5⟩
      · exact i3 b hb
theorem asc_okA {n : Nat} : ∀ {l : List Arc3} {last : Int}, (∀ a ∈ l, last < a.1) → Asc l 256 → (∀ a ∈ l, 0 ≤ a.2.2 ∧ a.2.2 < (n : Int)) → okA n last l = true
  | [], _, _, _, _ => rfl
  | a :: r, last, h1, h2, h3 => by
    have ha := h2.ok a (List.mem_cons_self ..)
    have hb := h3 a (List.mem_cons_self ..)
    obtain ⟨p1, p2⟩ := List.pairwise_cons.1 h2.lt
    rw [okA, decide_eq_true (by have := h1 a (List.mem_cons_self ..); omega), asc_okA (fun b hb => p1 b hb) ⟨p2, fun b hb => h2.ok b (List.mem_cons_of_mem _ hb)⟩ fun b hb => h3 b (List.mem_cons_of_mem _ hb)]
    rfl
/-- States that are an automaton. -/
structure Good (d : List St) : Prop where
  ne : d ≠ []
  few : d.length ≤ 20000
  asc : ∀ s ∈ d, Asc s.2 256
  to_ : ∀ s ∈ d, ∀ a ∈ s.2, 0 ≤ a.2.2 ∧ a.2.2 < (d.length : Int)
theorem good_iff (d : List St) : checkE d = 0 ↔ Good d := by
  unfold checkE
  constructor
  · intro h
    split at h
    · cases h
    split at h
    · cases h
    split at h
    · rename_i h1 h2 h3
      rw [List.all_eq_true] at h3
      exact ⟨h1, by omega, fun s hs => (okA_asc (h3 s hs) (by omega)).2.1, fun s hs => (okA_asc (h3 s hs) (by omega)).2.2⟩
    · cases h
  · intro h
    rw [if_neg h.ne, if_neg (by have := h.few; omega), if_pos]
    rw [List.all_eq_true]
    intro s hs
    exact asc_okA (fun a ha => by have := (h.asc s hs).ok a ha; omega) (h.asc s hs) (h.to_ s hs)
theorem Good.within {d : List St} (h : Good d) : Within (auOf d) d.length := by
  intro x hx c y hy
  obtain ⟨s, hs⟩ : ∃ s, d[x]? = some s := ⟨d[x], List.getElem?_eq_getElem _⟩
  have hy : (d[x]?).bind (fun s => (lookA s.2 c).map Int.toNat) = some y := hy
  rw [hs] at hy
  simp only [Option.bind_some] at hy
  obtain ⟨k, hk, rfl⟩ := Option.map_eq_some_iff.1 hy
  unfold lookA at hk
  obtain ⟨a, ha, rfl⟩ := Option.map_eq_some_iff.1 hk
  have := h.to_ s (List.mem_of_getElem? hs) a (List.mem_of_find?_eq_some ha)
  omega
/-- Where a byte leads, in both words. -/
theorem stepI_au {d : List St} (h : Good d) {x : Nat} (hx : x < d.length) (c : Nat) : (stepI d x c = -1 ∧ (auOf d).step x c = none) ∨ ∃ y : Nat, stepI d x c = (y : Int) ∧ (auOf d).step x c = some y ∧ y < d.length := by
  obtain ⟨s, hs⟩ : ∃ s, d[x]? = some s := ⟨d[x], List.getElem?_eq_getElem _⟩
  have e1 : stepI d x c = (lookA s.2 c).getD (-1) := by
    unfold stepI
    rw [if_neg (by omega), Int.toNat_natCast, hs]
  have e2 : (auOf d).step x c = (lookA s.2 c).map Int.toNat := by
    show (d[x]?).bind (fun s => (lookA s.2 c).map Int.toNat) = _
    rw [hs]
    rfl
  rw [e1, e2]
  cases hl : lookA s.2 c with
  | none => exact .inl ⟨rfl, rfl⟩
  | some k =>
    have hk : 0 ≤ k ∧ k < (d.length : Int) := by
      unfold lookA at hl
      obtain ⟨a, ha, rfl⟩ := Option.map_eq_some_iff.1 hl
      exact h.to_ s (List.mem_of_getElem? hs) a (List.mem_of_find?_eq_some ha)
    exact .inr ⟨k.toNat, by show k = _; omega, rfl, by omega⟩
theorem byte_at (t : List UInt8) (i : Nat) (h : i < (⟨t.toArray⟩ : ByteArray).size) : ((((⟨t.toArray⟩ : ByteArray)[i]'h).toNat : Nat) : Int) = (((t.getD i 0).toNat : Nat) : Int) := by
  have h' : i < t.length := by
    have : (⟨t.toArray⟩ : ByteArray).size = t.length := by show t.toArray.size = _; simp
    rwa [this] at h
  rw [List.getD_eq_getElem?_getD, List.getElem?_eq_getElem h']
  rfl
def bytesN (t : List UInt8) : List Nat := t.map fun b => b.toNat
/-- What Accepts says. -/
def takesB (d : List St) (t : List UInt8) : Bool := decide (checkE d = 0) && (auOf d).acc 0 (bytesN t)
set_option maxRecDepth 100000 in
set_option maxHeartbeats 8000000 in
theorem accepts_any (w : World) (B : Nat) (hB : B ≤ w.heap.size) (A : Option Addr) (n c : Nat) (H : List Sh) (h : StsIn w B A n c H) (t : List UInt8) (ht : t.length ≤ 1125899906842624) :
    Calls Tryd.prog 11 #[.slice A n c, .string ⟨t.toArray⟩] w fun e w' => e = .returned (.bool (takesB (H.map (·.d)) t)) ∧ Below w.heap.size w w' := by
  have HS := Lib.hid h
  have hlen := h.len
  have hcm := h.cm
  have HC := Lib.hid (dcheck_any w B hB A n c H h)
  by_cases hg : checkE (H.map (·.d)) = 0
  rotate_left
  · have HE : Hid (takesB (H.map (·.d)) t = false) := by
      show _ = _
      unfold takesB
      rw [decide_eq_false hg]
      rfl
    obtain ⟨E, hE⟩ : ∃ E, checkE (H.map (·.d)) = E := ⟨_, rfl⟩
    rw [hE] at HC hg
    have q1 : (E != 0) = true := by simpa using hg
    clear h hlen hg hE
    go_enter Tryd.func11, Tryd.ntmps11
    go_wp2_with fail
    refine HC.out.mono ?_
    rintro e w1 ⟨rfl, hb1⟩
    go_wp2_with fail
    go_ret
    exact ⟨by rw [HE.out]; rfl, hb1⟩
  have HG := Lib.hid ((good_iff _).1 hg)
  have HE : Hid (takesB (H.map (·.d)) t = (auOf (H.map (·.d))).acc 0 (bytesN t)) := by
    show _ = _
    unfold takesB
    rw [decide_eq_true hg]
    rfl
  rw [hg] at HC
  have hn0 : 0 < n := by
    have := List.length_pos_iff.2 HG.out.ne
    rw [List.length_map] at this
    omega
  clear h hg
  go_enter Tryd.func11, Tryd.ntmps11
  go_wp2_with fail
  refine HC.out.mono ?_
  rintro e w1 ⟨rfl, hb1⟩
  have HB1 := Lib.hid hb1
  clear hb1 HC
  go_wp2_with fail
  obtain ⟨M, hM⟩ : ∃ M, auOf (H.map (·.d)) = M := ⟨_, rfl⟩
  obtain ⟨R, hR⟩ : ∃ R, M.acc 0 (bytesN t) = R := ⟨_, rfl⟩
  rw [hM, hR] at HE
  have HM := Lib.hid hM
  have H0 : Hid (((0 : Int) = -1 ∧ R = false) ∨ ∃ x : Nat, (0 : Int) = x ∧ x < n ∧ R = M.acc x (bytesN (t.drop 0))) := .inr ⟨0, rfl, hn0, hR.symm⟩
  clear hM hR
  go_loopw [5, 6] (fun zv iv wr => ∃ (i : Nat) (z : Int), i ≤ t.length ∧ iv = .int .i64 i ∧ zv = .int .i64 z ∧ Hid ((z = -1 ∧ R = false) ∨ ∃ x : Nat, z = x ∧ x < n ∧ R = M.acc x (bytesN (t.drop i))) ∧ Hid (Below w.heap.size w wr)) (fun _ iv _ => t.length - (intOf iv).toNat)
  case atStart => exact ⟨0, 0, Nat.zero_le _, rfl, rfl, H0, HB1⟩
  case round =>
    clear H0 HB1
    obtain ⟨i, z, hi, rfl, rfl, HZ, HB⟩ := hrel
    have HW := Lib.hid (HS.out.keep (HB.out.mono hB) (Nat.le_refl _))
    rcases HZ.out with ⟨rfl, hR⟩ | ⟨x, rfl, hxn, hR⟩
    · have HE2 : Hid (takesB (H.map (·.d)) t = false) := HE.out.trans hR
      by_cases hil : i < t.length
      · have g1 : decide ((i : Int) < (t.length : Int)) = true := decide_eq_true (by omega)
        have g2 : decide (i < t.length) = true := decide_eq_true hil
        clear hR
        go_wp2_with fail
        go_ret
        exact ⟨by rw [HE2.out]; rfl, HB.out⟩
      · have g1 : decide ((i : Int) < (t.length : Int)) = false := decide_eq_false (by omega)
        have g2 : decide (i < t.length) = false := decide_eq_false hil
        clear hR
        go_wp2_with fail
        go_ret
        exact ⟨by rw [HE2.out]; rfl, HB.out⟩
    · by_cases hil : i < t.length
      · have g1 : decide ((i : Int) < (t.length : Int)) = true := decide_eq_true (by omega)
        have g2 : decide (i < t.length) = true := decide_eq_true hil
        have g3 : decide ((x : Int) ≥ 0) = true := decide_eq_true (by omega)
        have hz := byte_at t i (by show i < t.toArray.size; simpa using hil)
        obtain ⟨b8, hb8⟩ : ∃ b : Nat, (t.getD i 0).toNat = b := ⟨_, rfl⟩
        have hb256 : b8 < 256 := by rw [← hb8]; exact (t.getD i 0).toNat_lt
        have hdrop : bytesN (t.drop i) = b8 :: bytesN (t.drop (i + 1)) := by
          rw [List.drop_eq_getElem_cons hil, ← hb8, List.getD_eq_getElem?_getD, List.getElem?_eq_getElem hil]
          rfl
        rw [hb8] at hz
        have hst := stepI_au HG.out (x := x) (by rw [List.length_map, hlen]; exact hxn) b8
        rw [HM.out, List.length_map, hlen] at hst
        rw [hdrop, Au.acc, if_pos hb256] at hR
        have HSTEP := Lib.hid (dstep_any wr B (Nat.le_trans hB HB.out.size) A n c H HW.out (x : Nat) (b8 : Nat) ⟨by omega, by omega⟩)
        have i0 : (0 : Int) ≤ (i : Int) := by omega
        have i1 : (i : Int) < (t.length : Int) := by omega
        have HN : Hid ((stepI (H.map (·.d)) (x : Nat) (b8 : Nat) = -1 ∧ R = false) ∨ ∃ y : Nat, stepI (H.map (·.d)) (x : Nat) (b8 : Nat) = y ∧ y < n ∧ R = M.acc y (bytesN (t.drop (i + 1)))) := by
          rcases hst with ⟨h1, h2⟩ | ⟨y, h1, h2, h3⟩
          · rw [h2] at hR
            exact .inl ⟨h1, hR⟩
          · rw [h2] at hR
            exact .inr ⟨y, h1, h3, hR⟩
        generalize stepI (H.map (·.d)) (x : Nat) (b8 : Nat) = z2 at *
        clear hR hdrop hst hb8
        go_wp2_with fail
        refine HSTEP.out.mono ?_
        rintro e w2 ⟨rfl, hb2⟩
        have HB2 := Lib.hid (bcall HB.out hb2)
        clear hb2
        go_wp2_with fail
        go_roundw
        case rel => exact ⟨i + 1, z2, by omega, by go_num, rfl, HN, HB2⟩
        case measure => simp [intOf]; omega
      · obtain rfl : i = t.length := by omega
        obtain ⟨b, off, rfl, hb, hcell⟩ := HW.out.at_ hn0
        obtain ⟨y, hy⟩ : ∃ y, H[x]? = some y := ⟨H[x]'(by omega), List.getElem?_eq_getElem _⟩
        obtain ⟨k0, _⟩ := hcell x y hy
        have hfin : R = y.d.1 := by
          rw [hR, List.drop_of_length_le (Nat.le_refl _)]
          show M.fin x = _
          rw [← HM.out]
          show (((H.map (·.d))[x]?).map (·.1)).getD false = _
          rw [List.getElem?_map, hy]
          rfl
        have HE2 : Hid (takesB (H.map (·.d)) t = y.d.1) := HE.out.trans hfin
        have g1 : decide ((t.length : Int) < (t.length : Int)) = false := decide_eq_false (by omega)
        have g2 : decide (t.length < t.length) = false := decide_eq_false (by omega)
        have g3 : decide ((x : Int) ≥ 0) = true := decide_eq_true (by omega)
        have i0 : (0 : Int) ≤ (x : Int) := by omega
        have i1 : (x : Int) < (n : Int) := by omega
        clear hR hfin hcell hy
        go_wp2_with fail
        go_ret
        exact ⟨by rw [HE2.out]; rfl, HB.out⟩
end Go.Proofs.YtebdffabfimmkaaDoor
