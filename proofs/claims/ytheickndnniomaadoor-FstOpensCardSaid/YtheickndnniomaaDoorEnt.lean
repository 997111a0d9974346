/- Entries in memory; fst.least, fst.right. -/
import Derived.Test.YtheickndnniomaaDoorTuple
namespace Go.Proofs.YtheickndnniomaaDoor
open Go.RowKit

abbrev Ent := List UInt8 × Int
def entC (e : Ent) : List Value := [.string ⟨e.1.toArray⟩, .int .i64 e.2]
def entsC (l : List Ent) : List Value := l.flatMap entC
theorem entsC_len (l : List Ent) : (entsC l).length = l.length * 2 := flat_length entC 2 (fun _ => rfl) l
/-- A slice of entries. -/
structure Ents (w : World) (B : Nat) (A : Option Addr) (n c : Nat) (l : List Ent) : Prop where
  sl : Sl w B 2 A n (entsC l)
  nc : n ≤ c
  cm : n ≤ 140737488355328
theorem Ents.len {w : World} {B n c : Nat} {A : Option Addr} {l : List Ent} (h : Ents w B A n c l) : l.length = n := by
  have := h.sl.1
  rw [entsC_len] at this
  omega
theorem Ents.at_ {w : World} {B n c : Nat} {A : Option Addr} {l : List Ent} (h : Ents w B A n c l) (hn : 0 < n) : ∃ b off, A = some ⟨b, off, none⟩ ∧ b < B ∧
    ∀ k e, l[k]? = some e → w.cell? ⟨b, off + k * 2, none⟩ = some (.string ⟨e.1.toArray⟩) ∧ w.cell? ⟨b, off + k * 2 + 1, none⟩ = some (.int .i64 e.2) := by
  obtain ⟨b, off, hA, hb, hc⟩ := h.sl.at_ hn
  refine ⟨b, off, hA, hb, fun k e he => ?_⟩
  have g : ∀ j u, (entC e)[j]? = some u → j < 2 → w.cell? ⟨b, off + (k * 2 + j), none⟩ = some u := fun j u hu hj =>
    hc _ _ (by unfold entsC; rw [flat_at entC 2 (fun _ => rfl) l k j e he hj]; exact hu)
  exact ⟨g 0 _ rfl (by omega), by have := g 1 _ rfl (by omega); rwa [← Nat.add_assoc] at this⟩
theorem Ents.keep {w w' : World} {B B' n c : Nat} {A : Option Addr} {l : List Ent} (h : Ents w B A n c l) (hb : Below B w w') (hB : B ≤ B') : Ents w' B' A n c l := ⟨(h.sl.below hb).more hB, h.nc, h.cm⟩
def headO : List Ent → Int
  | [] => 0
  | e :: _ => e.2
/-- The least number. -/
def leastO (l : List Ent) : Int := l.foldl (fun m e => min m e.2) (headO l)
set_option maxRecDepth 100000 in
set_option maxHeartbeats 4000000 in
theorem least_any (w : World) (B : Nat) (hB : B ≤ w.heap.size) (A : Option Addr) (n c : Nat) (l : List Ent) (h : Ents w B A n c l) (hn : 0 < n) :
    Calls Tryd.prog 26 #[.slice A n c] w fun e w' => e = .returned (.int .i64 (leastO l)) ∧ Below w.heap.size w w' := by
  have hlen := h.len
  have hcm := h.cm
  obtain ⟨b, off, rfl, hb, hcell⟩ := h.at_ hn
  obtain ⟨e0, he0⟩ : ∃ e, l[0]? = some e := ⟨l[0]'(by omega), List.getElem?_eq_getElem _⟩
  have hh : headO l = e0.2 := by
    cases l with
    | nil => simp at he0
    | cons x r => simp at he0; rw [← he0]; rfl
  obtain ⟨_, c1⟩ := hcell 0 e0 he0
  rw [Nat.zero_mul, Nat.add_zero] at c1
  have HC := Lib.hid hcell
  have HL : Hid (leastO l = l.foldl (fun m e => min m e.2) e0.2) := by
    show _ = _
    unfold leastO
    rw [hh]
  clear hcell h hh
  go_enter Tryd.func26, Tryd.ntmps26
  go_wp2_with fail
  go_loopw [3, 12] (fun v i wr => ∃ k : Nat, k ≤ n ∧ i = .int .i64 k ∧ v = .int .i64 ((l.take k).foldl (fun m e => min m e.2) e0.2) ∧ Hid (Below w.heap.size w wr)) (fun _ i _ => n - (intOf i).toNat)
  case atStart => exact ⟨0, Nat.zero_le _, rfl, rfl, Lib.hid (brefl w)⟩
  case round =>
    obtain ⟨k, hk, rfl, rfl, HB⟩ := hrel
    by_cases hlt : k < n
    · obtain ⟨e, he⟩ : ∃ e, l[k]? = some e := ⟨l[k]'(by omega), List.getElem?_eq_getElem _⟩
      obtain ⟨d0, d1⟩ := HC.out k e he
      have f0 := (HB.out.cell (p := ⟨b, off + k * 2, none⟩) (by show b < _; omega)).trans d0
      have f1 := (HB.out.cell (p := ⟨b, off + k * 2 + 1, none⟩) (by show b < _; omega)).trans d1
      have HN : Hid ((l.take (k + 1)).foldl (fun m e => min m e.2) e0.2 = min ((l.take k).foldl (fun m e => min m e.2) e0.2) e.2) := by
        show _ = _
        rw [List.take_add_one, he, List.foldl_append]
        rfl
      obtain ⟨t, o⟩ := e
      simp only at f0 f1 HN
      generalize (l.take k).foldl (fun m e => min m e.2) e0.2 = acc at *
      clear d0 d1 he
      go_wp2_with fail
      go_roundw
      case rel => exact ⟨k + 1, by omega, by go_num, by rw [HN.out], Lib.hid (bnew HB.out _)⟩
      case measure => simp [intOf]; omega
    · obtain rfl : k = n := by omega
      have hall : l.take k = l := List.take_of_length_le (by omega)
      rw [hall]
      go_wp2_with fail
      go_ret
      exact ⟨by rw [HL.out]; rfl, HB.out⟩
def rightL : List Ent → List UInt8 → Int
  | [], _ => 0
  | e :: r, last => if e.1 = [] ∨ e.2 < 0 then 1 else if 64 < e.1.length then 4 else if (Op.bytesLess e.1 last || e.1 == last) = true then 3 else rightL r e.1
theorem rightL_cons (t : List UInt8) (o : Int) (r : List Ent) (last : List UInt8) : rightL ((t, o) :: r) last = if t = [] ∨ o < 0 then 1 else if 64 < t.length then 4 else if (Op.bytesLess t last || t == last) = true then 3 else rightL r t := rfl
/-- What right says. -/
def rightE (l : List Ent) : Int := if 65536 < l.length then 8 else rightL l []
set_option maxRecDepth 100000 in
set_option maxHeartbeats 4000000 in
theorem right_any (w : World) (B : Nat) (hB : B ≤ w.heap.size) (A : Option Addr) (n c : Nat) (l : List Ent) (h : Ents w B A n c l) :
    Calls Tryd.prog 25 #[.slice A n c] w fun e w' => e = .returned (.int .i64 (rightE l)) ∧ Below w.heap.size w w' := by
  have hlen := h.len
  have hcm := h.cm
  by_cases hbig : 65536 < n
  · have q1 : decide (65536 < n) = true := by simpa using hbig
    have HE : Hid (rightE l = 8) := by
      show _ = _
      unfold rightE
      rw [hlen, if_pos hbig]
    clear h
    go_enter Tryd.func25, Tryd.ntmps25
    go_wp2_with fail
    go_ret
    exact ⟨by rw [HE.out]; rfl, brefl w⟩
  · have HE : Hid (rightE l = rightL l []) := by
      show _ = _
      unfold rightE
      rw [hlen, if_neg hbig]
    have q1 : decide (65536 < n) = false := by simpa using hbig
    go_enter Tryd.func25, Tryd.ntmps25
    go_wp2_with fail
    go_loopw [3, 11] (fun v i wr => ∃ (k : Nat) (last : List UInt8), k ≤ n ∧ i = .int .i64 k ∧ v = .string ⟨last.toArray⟩ ∧ Hid (rightL (l.drop k) last = rightL l []) ∧ Hid (Below w.heap.size w wr)) (fun _ i _ => n - (intOf i).toNat)
    case atStart => exact ⟨0, [], Nat.zero_le _, rfl, rfl, Lib.hid rfl, Lib.hid (brefl w)⟩
    case round =>
      obtain ⟨k, last, hk, rfl, rfl, HR, HB⟩ := hrel
      by_cases hlt : k < n
      · obtain ⟨e, he⟩ : ∃ e, l[k]? = some e := ⟨l[k]'(by omega), List.getElem?_eq_getElem _⟩
        obtain ⟨b, off, rfl, hb, hcell⟩ := h.at_ (by omega)
        obtain ⟨d0, d1⟩ := hcell k e he
        have f0 := (HB.out.cell (p := ⟨b, off + k * 2, none⟩) (by show b < _; omega)).trans d0
        have f1 := (HB.out.cell (p := ⟨b, off + k * 2 + 1, none⟩) (by show b < _; omega)).trans d1
        obtain ⟨t, o⟩ := e
        have hdrop : l.drop k = (t, o) :: l.drop (k + 1) := by
          obtain ⟨h1, h2⟩ := List.getElem?_eq_some_iff.1 he
          rw [List.drop_eq_getElem_cons h1, h2]
        have HR2 := HR
        rw [hdrop, rightL_cons] at HR2
        simp only at f0 f1
        clear d0 d1 he hdrop hcell
        by_cases c1 : t = [] ∨ o < 0
        · rw [if_pos c1] at HR2
          rcases c1 with c1 | c1
          · subst c1
            go_wp2_with fail
            go_ret
            exact ⟨by rw [HE.out, ← HR2.out]; rfl, bnew HB.out _⟩
          · have q2 : decide (o < 0) = true := by simpa using c1
            go_wp2_with fail
            all_goals
              go_ret
              exact ⟨by rw [HE.out, ← HR2.out]; rfl, bnew HB.out _⟩
        rw [if_neg c1] at HR2
        have q2 : decide (o < 0) = false := by simp; omega
        have q3 : t.isEmpty = false := by
          cases t with
          | nil => exact absurd (.inl rfl) c1
          | cons _ _ => rfl
        clear c1
        by_cases c2 : 64 < t.length
        · rw [if_pos c2] at HR2
          have q4 : decide (64 < t.length) = true := by simpa using c2
          go_wp2_with fail
          go_ret
          exact ⟨by rw [HE.out, ← HR2.out]; rfl, bnew HB.out _⟩
        rw [if_neg c2] at HR2
        have q4 : decide (64 < t.length) = false := by simpa using c2
        by_cases c3 : (Op.bytesLess t last || t == last) = true
        · rw [if_pos c3] at HR2
          go_wp2_with fail
          go_ret
          exact ⟨by rw [HE.out, ← HR2.out]; rfl, bnew HB.out _⟩
        · rw [if_neg c3] at HR2
          have q5 : (Op.bytesLess t last || t == last) = false := by simpa using c3
          go_wp2_with fail
          go_roundw
          case rel => exact ⟨k + 1, t, by omega, by go_num, rfl, HR2, Lib.hid (bnew HB.out _)⟩
          case measure => simp [intOf]; omega
      · obtain rfl : k = n := by omega
        have hall : l.drop k = [] := List.drop_of_length_le (by omega)
        have HR2 := HR
        rw [hall] at HR2
        go_wp2_with fail
        go_ret
        exact ⟨by rw [HE.out, ← HR2.out]; rfl, HB.out⟩
end Go.Proofs.YtheickndnniomaaDoor
