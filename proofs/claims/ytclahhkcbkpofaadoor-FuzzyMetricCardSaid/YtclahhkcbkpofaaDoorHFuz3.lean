/- rows: its walk. -/
import Derived.Test.YtclahhkcbkpofaaDoorHFuz2
import Derived.Lib.SlBytesRow
namespace Go.Proofs.YtclahhkcbkpofaaDoor.Sp
open Go.RowKit

/-- A row of ranges, in memory. -/
structure RR where
  b : Nat
  cap : Nat
  r : List (Int × Int)
def flatR (r : List (Int × Int)) : List Value := r.flatMap fun p => [.int .i64 p.1, .int .i64 p.2]
def RR.val (R : RR) : Value := .slice (some ⟨R.b, 0, none⟩) R.r.length R.cap
structure RowsAt (w : World) (base : Nat) (v : Value) (l : List RR) : Prop where
  own : w.ownsRow base 59 1 v l.length (l.map RR.val)
  inn : ∀ R ∈ l, 0 < R.r.length ∧ w.ownsRow base 61 2 R.val R.r.length (flatR R.r)
  nod : (l.map RR.b).Nodup
def RowsOf (w : World) (rs : List (List (Int × Int))) (e : Ending) (w' : World) : Prop := ∃ v l, e = .returned v ∧ RowsAt w' w.heap.size v l ∧ l.map RR.r = rs ∧ Below w.heap.size w w'

theorem RowsAt.kept {w w' : World} {base : Nat} {v : Value} {l : List RR} (h : RowsAt w base v l) (hb : Below w.heap.size w w') : RowsAt w' base v l :=
  ⟨own_kept h.own hb, fun R hR => ⟨(h.inn R hR).1, own_kept (h.inn R hR).2 hb⟩, h.nod⟩
theorem RR.lt {w : World} {base : Nat} {R : RR} (h : w.ownsRow base 61 2 R.val R.r.length (flatR R.r)) : base ≤ R.b ∧ R.b < w.heap.size := h.lt R.b rfl
theorem el_row : Elem Tryd.prog 57 59 1 24 := Elem.mk_ Tryd.underlying57 (z := .slice none 0 0) (by kernel_rfl) rfl (by omega)
theorem el_range : Elem Tryd.prog 59 61 2 16 := Elem.mk_ Tryd.underlying59 (z := .agg #[.int .i64 0, .int .i64 0]) (by kernel_rfl) rfl (by omega)
theorem vals_one (l : List RR) : ∀ u ∈ l.map RR.val, u.oneCell' = true := by
  intro u hu
  obtain ⟨R, _, rfl⟩ := List.mem_map.1 hu
  rfl
/-- Rows behind rows: what the append of two results is. -/
theorem RowsAt.join {w w2 w3 : World} {base : Nat} {v1 v2 v3 : Value} {l1 l2 : List RR} (h1 : RowsAt w base v1 l1) (hb : Below w.heap.size w w2) (h2 : RowsAt w2 w.heap.size v2 l2)
    (ho : w3.ownsRow base 59 1 v3 (l1.length + l2.length) (l1.map RR.val ++ l2.map RR.val)) (hg : w2.grownBy w3 v1.ownBlock) (hbase : base ≤ w.heap.size) : RowsAt w3 base v3 (l1 ++ l2) := by
  have h1' := h1.kept hb
  refine ⟨by rw [List.length_append, List.map_append]; exact ho, fun R hR => ?_, ?_⟩
  · rcases List.mem_append.1 hR with h | h
    · obtain ⟨a, b⟩ := h1'.inn R h
      exact ⟨a, b.kept hg (own_types h1'.own b (by decide))⟩
    · obtain ⟨a, b⟩ := h2.inn R h
      exact ⟨a, (b.mono hbase).kept hg (own_types h1'.own b (by decide))⟩
  · rw [List.map_append, List.nodup_append]
    refine ⟨h1.nod, h2.nod, ?_⟩
    intro x hx y hy e
    obtain ⟨R, hR, rfl⟩ := List.mem_map.1 hx
    obtain ⟨S, hS, rfl⟩ := List.mem_map.1 hy
    have a := (RR.lt (h1.inn R hR).2).2
    have b := (RR.lt (h2.inn S hS).2).1
    omega
theorem rows_len {lo hi : Int} (h : lo ≤ hi) (hk : Cls lo hi) : ((rowsP lo hi).length : Int) ≤ hi - lo + 1 := by
  refine rows_ind (motive := fun lo hi => ((rowsP lo hi).length : Int) ≤ hi - lo + 1) ?_ ?_ lo hi h hk
  · intro lo hi c h1 _ hc _ _ a b
    rw [rowsP_cut h1 hc, List.length_append]
    omega
  · intro lo hi h1 _ hc
    rw [rowsP_leaf hc]
    simp
    omega

/-- Where the loop over the bytes stands. -/
def NoCut (j lo hi : Int) : Prop :=
  (2 ≤ j → lo / 64 = hi / 64 ∨ szC lo ≤ 1 ∨ (lo % 64 = 0 ∧ hi % 64 = 63)) ∧ (3 ≤ j → lo / 4096 = hi / 4096 ∨ szC lo ≤ 2 ∨ (lo % 4096 = 0 ∧ hi % 4096 = 4095)) ∧
  (4 ≤ j → lo / 262144 = hi / 262144 ∨ szC lo ≤ 3 ∨ (lo % 262144 = 0 ∧ hi % 262144 = 262143))
def RowsR (w : World) (lo hi : Int) (k : Value) (wr : World) : Prop :=
  ∃ j : Int, (j = 1 ∨ j = 2 ∨ j = 3 ∨ j = 4) ∧ k = .int .i64 j ∧ NoCut j lo hi ∧ Below w.heap.size w wr

theorem nocut_next1 {lo hi : Int} (h : NoCut 1 lo hi) (h2 : lo / 64 = hi / 64 ∨ szC lo ≤ 1 ∨ (lo % 64 = 0 ∧ hi % 64 = 63)) : NoCut 2 lo hi := by
  obtain ⟨a, b, c⟩ := h
  refine ⟨fun g => ?_, fun g => ?_, fun g => ?_⟩
  all_goals first | exact h2 | exact a (by omega) | exact b (by omega) | exact c (by omega) | omega
theorem cut_lo1 {lo hi : Int} (h : NoCut 1 lo hi) (h1 : lo / 64 ≠ hi / 64) (h2 : 1 < szC lo) (h3 : lo % 64 ≠ 0) : cutC lo hi = some (lo - lo % 64 + 64) := by
  obtain ⟨a, b, c⟩ := h
  unfold cutC

  rw [if_pos ⟨h1, h2, h3⟩]
theorem cut_hi1 {lo hi : Int} (h : NoCut 1 lo hi) (h1 : lo / 64 ≠ hi / 64) (h2 : 1 < szC lo) (h3 : lo % 64 = 0) (h4 : hi % 64 ≠ 63) : cutC lo hi = some (hi - hi % 64) := by
  obtain ⟨a, b, c⟩ := h
  unfold cutC

  rw [if_neg (by omega), if_pos ⟨h1, h2, h4⟩]
theorem nocut_next2 {lo hi : Int} (h : NoCut 2 lo hi) (h2 : lo / 4096 = hi / 4096 ∨ szC lo ≤ 2 ∨ (lo % 4096 = 0 ∧ hi % 4096 = 4095)) : NoCut 3 lo hi := by
  obtain ⟨a, b, c⟩ := h
  refine ⟨fun g => ?_, fun g => ?_, fun g => ?_⟩
  all_goals first | exact h2 | exact a (by omega) | exact b (by omega) | exact c (by omega) | omega
theorem cut_lo2 {lo hi : Int} (h : NoCut 2 lo hi) (h1 : lo / 4096 ≠ hi / 4096) (h2 : 2 < szC lo) (h3 : lo % 4096 ≠ 0) : cutC lo hi = some (lo - lo % 4096 + 4096) := by
  obtain ⟨a, b, c⟩ := h
  unfold cutC
  rw [if_neg (by have := a (by omega); omega), if_neg (by have := a (by omega); omega)]
  rw [if_pos ⟨h1, h2, h3⟩]
theorem cut_hi2 {lo hi : Int} (h : NoCut 2 lo hi) (h1 : lo / 4096 ≠ hi / 4096) (h2 : 2 < szC lo) (h3 : lo % 4096 = 0) (h4 : hi % 4096 ≠ 4095) : cutC lo hi = some (hi - hi % 4096) := by
  obtain ⟨a, b, c⟩ := h
  unfold cutC
  rw [if_neg (by have := a (by omega); omega), if_neg (by have := a (by omega); omega)]
  rw [if_neg (by omega), if_pos ⟨h1, h2, h4⟩]
theorem nocut_next3 {lo hi : Int} (h : NoCut 3 lo hi) (h2 : lo / 262144 = hi / 262144 ∨ szC lo ≤ 3 ∨ (lo % 262144 = 0 ∧ hi % 262144 = 262143)) : NoCut 4 lo hi := by
  obtain ⟨a, b, c⟩ := h
  refine ⟨fun g => ?_, fun g => ?_, fun g => ?_⟩
  all_goals first | exact h2 | exact a (by omega) | exact b (by omega) | exact c (by omega) | omega
theorem cut_lo3 {lo hi : Int} (h : NoCut 3 lo hi) (h1 : lo / 262144 ≠ hi / 262144) (h2 : 3 < szC lo) (h3 : lo % 262144 ≠ 0) : cutC lo hi = some (lo - lo % 262144 + 262144) := by
  obtain ⟨a, b, c⟩ := h
  unfold cutC
  rw [if_neg (by have := a (by omega); omega), if_neg (by have := a (by omega); omega)]
  rw [if_neg (by have := b (by omega); omega), if_neg (by have := b (by omega); omega)]
  rw [if_pos ⟨h1, h2, h3⟩]
theorem cut_hi3 {lo hi : Int} (h : NoCut 3 lo hi) (h1 : lo / 262144 ≠ hi / 262144) (h2 : 3 < szC lo) (h3 : lo % 262144 = 0) (h4 : hi % 262144 ≠ 262143) : cutC lo hi = some (hi - hi % 262144) := by
  obtain ⟨a, b, c⟩ := h
  unfold cutC
  rw [if_neg (by have := a (by omega); omega), if_neg (by have := a (by omega); omega)]
  rw [if_neg (by have := b (by omega); omega), if_neg (by have := b (by omega); omega)]
  rw [if_neg (by omega), if_pos ⟨h1, h2, h4⟩]
theorem cut_none {lo hi : Int} (h : NoCut 4 lo hi) : cutC lo hi = none := by
  obtain ⟨a, b, c⟩ := h
  unfold cutC
  rw [if_neg (by have := a (by omega); omega), if_neg (by have := a (by omega); omega), if_neg (by have := b (by omega); omega), if_neg (by have := b (by omega); omega), if_neg (by have := c (by omega); omega), if_neg (by have := c (by omega); omega)]

theorem cls_whole {lo hi : Int} (h : lo ≤ hi) (hk : Cls lo hi) : wholeB lo = true ∧ wholeB hi = true := by
  unfold Cls at hk
  exact ⟨wholeB_yes (by omega), wholeB_yes (by omega)⟩
theorem szC_bounds (c : Int) : 1 ≤ szC c ∧ szC c ≤ 4 := by
  unfold szC
  split
  · omega
  · split
    · omega
    · split <;> omega


theorem cls_len {lo hi : Int} (h : lo ≤ hi) (hk : Cls lo hi) : (encC lo).length = (encC hi).length := by
  have a := szC_len lo
  have b := szC_len hi
  have e : szC lo = szC hi := by
    unfold Cls at hk
    unfold szC
    repeat' split
    all_goals omega
  omega
/-- The ranges of two texts' bytes. -/
def zipS (s1 s2 : ByteArray) : List (Int × Int) := (s1.data.toList.zip s2.data.toList).map fun p => ((p.1.toNat : Int), (p.2.toNat : Int))
theorem zip_snoc {s1 s2 : ByteArray} {k : Nat} (h1 : k < s1.size) (h2 : k < s2.size) : flatR ((zipS s1 s2).take (k + 1)) = flatR ((zipS s1 s2).take k) ++ [.int .i64 (s1[k].toNat : Nat), .int .i64 (s2[k].toNat : Nat)] := by
  have hk : (zipS s1 s2)[k]? = some (((s1[k].toNat : Nat) : Int), ((s2[k].toNat : Nat) : Int)) := by
    unfold zipS
    have a1 : s1.data.toList[k]? = some s1[k] := byte_at s1 k h1
    have a2 : s2.data.toList[k]? = some s2[k] := byte_at s2 k h2
    rw [List.getElem?_map, List.getElem?_zip_eq_some.2 (show s1.data.toList[k]? = some (s1[k], s2[k]).1 ∧ s2.data.toList[k]? = some (s1[k], s2[k]).2 from ⟨a1, a2⟩)]
    rfl
  obtain ⟨hl, he⟩ := List.getElem?_eq_some_iff.1 hk
  rw [List.take_succ_eq_append_getElem hl, he]
  simp [flatR]
theorem encC_byte {c : Int} (h0 : 0 ≤ c) (h1 : c ≤ 1114111) : ∀ z ∈ encC c, 0 ≤ z ∧ z ≤ 255 := by
  intro z hz
  unfold encC at hz
  split at hz
  · simp at hz; omega
  · split at hz
    · simp at hz; omega
    · split at hz
      · simp at hz; omega
      · simp at hz; omega
theorem zip_strs {a b : List Int} (ha : ∀ z ∈ a, 0 ≤ z ∧ z ≤ 255) (hb : ∀ z ∈ b, 0 ≤ z ∧ z ≤ 255) : zipS (strOfNums a) (strOfNums b) = a.zip b := by
  unfold zipS
  rw [strOfNums_data, strOfNums_data]
  induction a generalizing b with
  | nil => simp
  | cons x a ih =>
    cases b with
    | nil => simp
    | cons y b =>
      have hx := ha x (List.mem_cons_self ..)
      have hy := hb y (List.mem_cons_self ..)
      simp only [List.map_cons, List.zip_cons_cons]
      rw [ih (fun z hz => ha z (List.mem_cons_of_mem _ hz)) (fun z hz => hb z (List.mem_cons_of_mem _ hz))]
      have e1 : ((UInt8.ofNat x.toNat).toNat : Int) = x := by rw [UInt8.toNat_ofNat']; omega
      have e2 : ((UInt8.ofNat y.toNat).toNat : Int) = y := by rw [UInt8.toNat_ofNat']; omega
      rw [e1, e2]
theorem leaf_rows {w w2 wr : World} {A : Option Addr} {c : Nat} {r : List (Int × Int)} {n : Nat} {rs : List (List (Int × Int))} (hB : Below w.heap.size w w2) (hb : Below w2.heap.size w2 wr) (ho : wr.ownsRow w2.heap.size 61 2 (.slice A r.length c) r.length (flatR r)) (hp : 0 < r.length) (hn : r.length = n) (hr : rs = [r]) :
    RowsOf w rs (.returned (.slice (some ⟨wr.heap.size, 0, none⟩) 1 1)) (wr.alloc (.cells #[.slice A n c] 59)) := by
  subst hn
  obtain ⟨g, rfl, hg1, hg2⟩ := own_head ho hp
  have hbw := bcall hB hb
  have h1 := hB.size
  refine ⟨_, [⟨g, c, r⟩], rfl, ⟨own_new wr #[.slice (some ⟨g, 0, none⟩) r.length c] 59 1 1 rfl (by unfold maxLen; omega) rfl hbw.size, ?_, by simp⟩, by rw [hr]; rfl, bnew hbw _⟩
  intro R hR
  rw [List.mem_singleton] at hR
  subst hR
  exact ⟨hp, (ho.mono h1).alloc _⟩
def LeafR (w2 : World) (s1 s2 : ByteArray) (i v : Value) (wq : World) : Prop :=
  ∃ k : Nat, k ≤ s1.size ∧ i = .int .i64 k ∧ wq.ownsRow w2.heap.size 61 2 v k (flatR ((zipS s1 s2).take k)) ∧ Below w2.heap.size w2 wq

end Go.Proofs.YtclahhkcbkpofaaDoor.Sp
