/- point.Check. -/
import Derived.Test.YtkhemhiifhggmaaGreatDoorHPt5
import Derived.Lib.AppendIntMem
import Derived.Lib.ItoaLen
import Derived.Test.YtkhemhiifhggmaaGreatDoorHPt1
import Derived.Deep.RegionLawGrows
set_option maxRecDepth 100000
set_option maxHeartbeats 40000000
namespace Go.Proofs.YtkhemhiifhggmaaGreatDoor
open Go.RowKit Go.Maps
set_option linter.unusedVariables false
structure Sg where
 id : Int
 docs : Int
 gen : Int
 gone : Int
deriving DecidableEq
def Sg.cells (s : Sg) : List Value := [.int .i64 s.id, .int .i64 s.docs, .int .i64 s.gen, .int .i64 s.gone]
def Sg.ok (next last : Int) (s : Sg) : Prop := last < s.id ∧ s.id < next ∧ 1 ≤ s.docs ∧ s.docs ≤ 1048576 ∧ 0 ≤ s.gen ∧ s.gen < next ∧ 0 ≤ s.gone ∧ s.gone ≤ s.docs ∧ (s.gen = 0 ↔ s.gone = 0)
instance (next last : Int) (s : Sg) : Decidable (s.ok next last) := by unfold Sg.ok; infer_instance
def segsOk (next : Int) : Int → List Sg → Prop
 | _, [] => True
 | last, s :: r => s.ok next last ∧ segsOk next s.id r
def segsDec (next : Int) : ∀ (x : Int) (l : List Sg), Decidable (segsOk next x l)
 | _, [] => isTrue trivial
 | last, s :: r => @instDecidableAnd _ _ _ (segsDec next s.id r)
instance (next last : Int) (l : List Sg) : Decidable (segsOk next last l) := segsDec next last l
def PtOk (next : Int) (l : List Sg) : Prop := 1 ≤ next ∧ next ≤ 999999999 ∧ segsOk next 0 l
instance (next : Int) (l : List Sg) : Decidable (PtOk next l) := by unfold PtOk; infer_instance
def checkP (next : Int) (l : List Sg) : Int := if PtOk next l then 0 else 1
def SegsIn (w : World) (B : Nat) (A : Option Addr) (n : Nat) (l : List Sg) : Prop := Sl w B 4 A n (l.flatMap Sg.cells) ∧ l.length = n
theorem SegsIn.at_ {w : World} {B : Nat} {A : Option Addr} {n : Nat} {l : List Sg} (h : SegsIn w B A n l) {k : Nat} {s : Sg} (hk : l[k]? = some s) : ∃ b off, A = some ⟨b, off, none⟩ ∧ b < B ∧ w.cell? ⟨b, off + k * 4, none⟩ = some (.int .i64 s.id) ∧ w.cell? ⟨b, off + k * 4 + 1, none⟩ = some (.int .i64 s.docs) ∧ w.cell? ⟨b, off + k * 4 + 2, none⟩ = some (.int .i64 s.gen) ∧ w.cell? ⟨b, off + k * 4 + 3, none⟩ = some (.int .i64 s.gone) := by
 have hlt := (List.getElem?_eq_some_iff.1 hk).1
 obtain ⟨b, off, hA, hb, hc⟩ := h.1.at_ (by rw [← h.2]; exact hlt)
 have hf : ∀ j u, s.cells[j]? = some u → (l.flatMap Sg.cells)[k * 4 + j]? = some u := fun j u hj => by
  have hj4 : j < 4 := by
   have := (List.getElem?_eq_some_iff.1 hj).1
   exact this
  rw [flat_at Sg.cells 4 (fun _ => rfl) l k j s hk hj4]
  exact hj
 exact ⟨b, off, hA, hb, hc _ _ (hf 0 _ rfl), by have := hc _ _ (hf 1 _ rfl); rwa [← Nat.add_assoc] at this, by have := hc _ _ (hf 2 _ rfl); rwa [← Nat.add_assoc] at this, by have := hc _ _ (hf 3 _ rfl); rwa [← Nat.add_assoc] at this⟩
theorem SegsIn.keep {w w' : World} {B : Nat} {A : Option Addr} {n : Nat} {l : List Sg} (h : SegsIn w B A n l) (hb : Below B w w') : SegsIn w' B A n l := ⟨h.1.below hb, h.2⟩
def lastOf : Int → List Sg → Int
 | last, [] => last
 | _, s :: r => lastOf s.id r
theorem bel_new {b : Nat} {w W : World} (h : Below b w W) (_ : w.heap.size ≤ W.heap.size) (hb : b ≤ w.heap.size) (o : Obj) : Below b w (W.alloc o) := h.trans ((bnew (brefl W) o).mono (Nat.le_trans hb h.size))
theorem lastOf_snoc (l : List Sg) (s : Sg) : ∀ x, lastOf x (l ++ [s]) = s.id := by
 induction l with
 | nil => intro x; rfl
 | cons a r ih => intro x; exact ih _
theorem segsOk_append (next : Int) (l r : List Sg) : ∀ x, segsOk next x (l ++ r) ↔ segsOk next x l ∧ segsOk next (lastOf x l) r := by
 induction l with
 | nil => intro x; simp [segsOk, lastOf]
 | cons a m ih => intro x; simp only [List.cons_append, segsOk, lastOf, ih, and_assoc]
set_option linter.unusedVariables false in
theorem check_o (w W0 : World) (B : Nat) (hB : B ≤ w.heap.size) (A : Option Addr) (n c : Nat) (l : List Sg) (HS : Hid (SegsIn w B A n l)) (hn : n ≤ 4398046511104) (next last : Int) (hl : last = 0) (pb : Nat) (hpb : w.heap.size = pb)
  (HP : Hid (∀ W, Below (w.heap.size + 1) W0 W → W.cell? ⟨pb, 0, none⟩ = some (.int .i64 next))) (HW : Hid (Below w.heap.size w W0 ∧ w.heap.size + 1 ≤ W0.heap.size))
  (c0 c4 c6 c7 c8 c9 c10 c11 c12 c13 c14 u2 u5 u18 u19 u20 u21 u22 u23 u24 u25 u26 u27 u28 u29 u30 u31 u32 u33 u34 u35 u36 u37 u38 u39 u40 u41 u42 u43 u44 u45 u46 u47 u48 u49 u50 u51 u52 u53 u54 u55 u56 u57 u58 u59 u60 u61 u62 u63 u64 u65 u66 u67 u68 u69 u70 u71 u72 u73 u74 u75 u76 u77 : Value) (Q0 : Exit → Act → World → Prop) (hQ0 : ∀ c (a a' : Act) w, a.defers = a'.defers → Q0 (.panic c) a w → Q0 (.panic c) a' w)
  (hret : ∀ (W : World) (x3 x17 u5 u18 u19 u20 u21 u22 u23 u24 u25 u26 u27 u28 u29 u30 u31 u32 u33 u34 u35 u36 u37 u38 u39 u40 u41 u42 u43 u44 u45 u46 u47 u48 u49 u50 u51 u52 u53 u54 u55 u56 u57 u58 u59 u60 u61 u62 u63 u64 u65 u66 u67 u68 u69 u70 u71 u72 u73 u74 u75 u76 u77 : Value), Hid (Below w.heap.size w W) → Hid (¬ segsOk next 0 l) → Q0 .ret ⟨List.toArray (c0 :: .pointer (some ⟨pb, 0, none⟩) :: .int .i64 1 :: x3 :: c4 :: u5 :: c6 :: c7 :: c8 :: c9 :: c10 :: c11 :: c12 :: c13 :: c14 :: .slice A n c :: .int .i64 (n : Int) :: x17 :: u18 :: u19 :: u20 :: u21 :: u22 :: u23 :: u24 :: u25 :: u26 :: u27 :: u28 :: u29 :: u30 :: u31 :: u32 :: u33 :: u34 :: u35 :: u36 :: u37 :: u38 :: u39 :: u40 :: u41 :: u42 :: u43 :: u44 :: u45 :: u46 :: u47 :: u48 :: u49 :: u50 :: u51 :: u52 :: u53 :: u54 :: u55 :: u56 :: u57 :: u58 :: u59 :: u60 :: u61 :: u62 :: u63 :: u64 :: u65 :: u66 :: u67 :: u68 :: u69 :: u70 :: u71 :: u72 :: u73 :: u74 :: u75 :: u76 :: u77 :: []), []⟩ W)
  (hexit : ∀ (W : World) (x3 x17 u2 u5 u18 u19 u20 u21 u22 u23 u24 u25 u26 u27 u28 u29 u30 u31 u32 u33 u34 u35 u36 u37 u38 u39 u40 u41 u42 u43 u44 u45 u46 u47 u48 u49 u50 u51 u52 u53 u54 u55 u56 u57 u58 u59 u60 u61 u62 u63 u64 u65 u66 u67 u68 u69 u70 u71 u72 u73 u74 u75 u76 u77 : Value), Hid (Below w.heap.size w W) → Hid (segsOk next 0 l) → Q0 (.exit 0) ⟨List.toArray (c0 :: .pointer (some ⟨pb, 0, none⟩) :: u2 :: x3 :: c4 :: u5 :: c6 :: c7 :: c8 :: c9 :: c10 :: c11 :: c12 :: c13 :: c14 :: .slice A n c :: .int .i64 (n : Int) :: x17 :: u18 :: u19 :: u20 :: u21 :: u22 :: u23 :: u24 :: u25 :: u26 :: u27 :: u28 :: u29 :: u30 :: u31 :: u32 :: u33 :: u34 :: u35 :: u36 :: u37 :: u38 :: u39 :: u40 :: u41 :: u42 :: u43 :: u44 :: u45 :: u46 :: u47 :: u48 :: u49 :: u50 :: u51 :: u52 :: u53 :: u54 :: u55 :: u56 :: u57 :: u58 :: u59 :: u60 :: u61 :: u62 :: u63 :: u64 :: u65 :: u66 :: u67 :: u68 :: u69 :: u70 :: u71 :: u72 :: u73 :: u74 :: u75 :: u76 :: u77 :: []), []⟩ W) :
  Code.wp Tryz.prog (.loop (loopOf Tryz.f10 0)) Q0 ⟨List.toArray (c0 :: .pointer (some ⟨pb, 0, none⟩) :: u2 :: .int .i64 last :: c4 :: u5 :: c6 :: c7 :: c8 :: c9 :: c10 :: c11 :: c12 :: c13 :: c14 :: .slice A n c :: .int .i64 (n : Int) :: .int .i64 (0 : Int) :: u18 :: u19 :: u20 :: u21 :: u22 :: u23 :: u24 :: u25 :: u26 :: u27 :: u28 :: u29 :: u30 :: u31 :: u32 :: u33 :: u34 :: u35 :: u36 :: u37 :: u38 :: u39 :: u40 :: u41 :: u42 :: u43 :: u44 :: u45 :: u46 :: u47 :: u48 :: u49 :: u50 :: u51 :: u52 :: u53 :: u54 :: u55 :: u56 :: u57 :: u58 :: u59 :: u60 :: u61 :: u62 :: u63 :: u64 :: u65 :: u66 :: u67 :: u68 :: u69 :: u70 :: u71 :: u72 :: u73 :: u74 :: u75 :: u76 :: u77 :: []), []⟩ W0 := by
 have hlen := HS.out.2
 conv => arg 2; arg 1; whnf
 go_loopw [3, 17] (fun lv iv wr => ∃ i : Nat, i ≤ n ∧ lv = .int .i64 (lastOf 0 (l.take i)) ∧ iv = .int .i64 (i : Int) ∧ Hid (Below (w.heap.size + 1) W0 wr) ∧ Hid (segsOk next 0 (l.take i))) (fun _ iv _ => n - (intOf iv).toNat)
 case atStart => exact ⟨0, Nat.zero_le _, by rw [hl]; rfl, rfl, Lib.hid ((brefl W0).mono HW.out.2), Lib.hid trivial⟩
 case round =>
  obtain ⟨i, hi, rfl, rfl, HB, HI⟩ := hrel
  have hbs := HB.out.size
  have hws := HW.out.2
  have HBW : Hid (Below w.heap.size w wr) := HW.out.1.trans (HB.out.mono (by omega))
  by_cases hin : i < n
  ·obtain ⟨s, hs⟩ : ∃ s, l[i]? = some s := ⟨l[i]'(by omega), List.getElem?_eq_getElem _⟩
   have HSW := Lib.hid (HS.out.keep (HBW.out.mono hB))
   obtain ⟨b, off, rfl, hb, c0, c1, c2, c3⟩ := HSW.out.at_ hs
   have hbw : b < wr.heap.size := by have := HBW.out.size; omega
   have HSS := Lib.hid hs
   have q0 : decide ((i : Int) < (n : Int)) = true := decide_eq_true (by omega)
   have hpw := HP.out wr HB.out
   have hpw2 : pb < wr.heap.size := by omega
   have HTK : Hid (l.take (i + 1) = l.take i ++ [s]) := by show _ = _; rw [List.take_add_one, hs]; rfl
   have HSPL : Hid (l = l.take (i + 1) ++ l.drop (i + 1)) := (List.take_append_drop ..).symm
   obtain ⟨LO, hLO⟩ : ∃ LO, lastOf 0 (l.take i) = LO := ⟨_, rfl⟩
   have HLO := Lib.hid hLO
   rw [hLO]
   obtain ⟨id, docs, gen, gone⟩ := s
   simp only at c0 c1 c2 c3
   clear hs hLO
   have hba := bnew (brefl wr) (.cells #[.int .i64 id, .int .i64 docs, .int .i64 gen, .int .i64 gone] 61)
   have hnw := heap_alloc_new wr (.cells #[.int .i64 id, .int .i64 docs, .int .i64 gen, .int .i64 gone] 61)
   have HBA2 := Lib.hid (HBW.out.trans (hba.mono HBW.out.size))
   clear hba hnw
   have hcase : Sg.ok next LO ⟨id, docs, gen, gone⟩ ∨ ¬ Sg.ok next LO ⟨id, docs, gen, gone⟩ := Decidable.em _
   have HBAD : Hid (¬ Sg.ok next LO ⟨id, docs, gen, gone⟩ → ¬ segsOk next 0 l) := fun hno hall => hno (by
    rw [HSPL.out, HTK.out, List.append_assoc, segsOk_append] at hall
    have h2 := hall.2
    rw [HLO.out] at h2
    exact h2.1)
   by_cases h0 : id ≤ LO
   ·have p0 : decide (id ≤ LO) = true := decide_eq_true h0
    have HNO := HBAD.out (fun h => by unfold Sg.ok at h; simp only at h; omega)
    have HNO := Lib.hid HNO
    clear h0
    go_wp2_with fail
    exact hret _ _ _ _ _ _ _ _ _ _ _ _ _ _ _ _ _ _ _ _ _ _ _ _ _ _ _ _ _ _ _ _ _ _ _ _ _ _ _ _ _ _ _ _ _ _ _ _ _ _ _ _ _ _ _ _ _ _ _ _ _ _ _ _ HBA2 HNO
   have p0 : decide (id ≤ LO) = false := decide_eq_false h0
   by_cases h1 : id ≥ next
   ·have p1 : decide (id ≥ next) = true := decide_eq_true h1
    have HNO := HBAD.out (fun h => by unfold Sg.ok at h; simp only at h; omega)
    have HNO := Lib.hid HNO
    clear h1
    go_wp2_with fail
    exact hret _ _ _ _ _ _ _ _ _ _ _ _ _ _ _ _ _ _ _ _ _ _ _ _ _ _ _ _ _ _ _ _ _ _ _ _ _ _ _ _ _ _ _ _ _ _ _ _ _ _ _ _ _ _ _ _ _ _ _ _ _ _ _ _ HBA2 HNO
   have p1 : decide (id ≥ next) = false := decide_eq_false h1
   by_cases h2 : docs < 1
   ·have p2 : decide (docs < 1) = true := decide_eq_true h2
    have HNO := HBAD.out (fun h => by unfold Sg.ok at h; simp only at h; omega)
    have HNO := Lib.hid HNO
    clear h2
    go_wp2_with fail
    exact hret _ _ _ _ _ _ _ _ _ _ _ _ _ _ _ _ _ _ _ _ _ _ _ _ _ _ _ _ _ _ _ _ _ _ _ _ _ _ _ _ _ _ _ _ _ _ _ _ _ _ _ _ _ _ _ _ _ _ _ _ _ _ _ _ HBA2 HNO
   have p2 : decide (docs < 1) = false := decide_eq_false h2
   by_cases h3 : docs > 1048576
   ·have p3 : decide (docs > 1048576) = true := decide_eq_true h3
    have HNO := HBAD.out (fun h => by unfold Sg.ok at h; simp only at h; omega)
    have HNO := Lib.hid HNO
    clear h3
    go_wp2_with fail
    exact hret _ _ _ _ _ _ _ _ _ _ _ _ _ _ _ _ _ _ _ _ _ _ _ _ _ _ _ _ _ _ _ _ _ _ _ _ _ _ _ _ _ _ _ _ _ _ _ _ _ _ _ _ _ _ _ _ _ _ _ _ _ _ _ _ HBA2 HNO
   have p3 : decide (docs > 1048576) = false := decide_eq_false h3
   by_cases h4 : gen < 0
   ·have p4 : decide (gen < 0) = true := decide_eq_true h4
    have HNO := HBAD.out (fun h => by unfold Sg.ok at h; simp only at h; omega)
    have HNO := Lib.hid HNO
    clear h4
    go_wp2_with fail
    exact hret _ _ _ _ _ _ _ _ _ _ _ _ _ _ _ _ _ _ _ _ _ _ _ _ _ _ _ _ _ _ _ _ _ _ _ _ _ _ _ _ _ _ _ _ _ _ _ _ _ _ _ _ _ _ _ _ _ _ _ _ _ _ _ _ HBA2 HNO
   have p4 : decide (gen < 0) = false := decide_eq_false h4
   by_cases h5 : gen ≥ next
   ·have p5 : decide (gen ≥ next) = true := decide_eq_true h5
    have HNO := HBAD.out (fun h => by unfold Sg.ok at h; simp only at h; omega)
    have HNO := Lib.hid HNO
    clear h5
    go_wp2_with fail
    exact hret _ _ _ _ _ _ _ _ _ _ _ _ _ _ _ _ _ _ _ _ _ _ _ _ _ _ _ _ _ _ _ _ _ _ _ _ _ _ _ _ _ _ _ _ _ _ _ _ _ _ _ _ _ _ _ _ _ _ _ _ _ _ _ _ HBA2 HNO
   have p5 : decide (gen ≥ next) = false := decide_eq_false h5
   by_cases h6 : gone < 0
   ·have p6 : decide (gone < 0) = true := decide_eq_true h6
    have HNO := HBAD.out (fun h => by unfold Sg.ok at h; simp only at h; omega)
    have HNO := Lib.hid HNO
    clear h6
    go_wp2_with fail
    exact hret _ _ _ _ _ _ _ _ _ _ _ _ _ _ _ _ _ _ _ _ _ _ _ _ _ _ _ _ _ _ _ _ _ _ _ _ _ _ _ _ _ _ _ _ _ _ _ _ _ _ _ _ _ _ _ _ _ _ _ _ _ _ _ _ HBA2 HNO
   have p6 : decide (gone < 0) = false := decide_eq_false h6
   by_cases h7 : gone > docs
   ·have p7 : decide (gone > docs) = true := decide_eq_true h7
    have HNO := HBAD.out (fun h => by unfold Sg.ok at h; simp only at h; omega)
    have HNO := Lib.hid HNO
    clear h7
    go_wp2_with fail
    exact hret _ _ _ _ _ _ _ _ _ _ _ _ _ _ _ _ _ _ _ _ _ _ _ _ _ _ _ _ _ _ _ _ _ _ _ _ _ _ _ _ _ _ _ _ _ _ _ _ _ _ _ _ _ _ _ _ _ _ _ _ _ _ _ _ HBA2 HNO
   have p7 : decide (gone > docs) = false := decide_eq_false h7
   by_cases g0 : gen = 0 <;> by_cases o0 : gone = 0
   ·have p8 : (gen == 0) = true := by simpa using g0
    have p9 : (gone == 0) = true := by simpa using o0
    have HOK : Hid (segsOk next 0 (l.take (i + 1))) := by
     show segsOk _ _ _
     rw [HTK.out, segsOk_append, HLO.out]
     refine ⟨HI.out, ?_, trivial⟩
     unfold Sg.ok
     simp only
     omega
    have HLN : Hid (lastOf 0 (l.take (i + 1)) = id) := by show _ = _; rw [HTK.out, lastOf_snoc]
    have HBN : Hid (Below (w.heap.size + 1) W0 (wr.alloc (.cells #[.int .i64 id, .int .i64 docs, .int .i64 gen, .int .i64 gone] 61))) := bel_new HB.out hbs hws _
    clear g0 o0
    go_wp2_with fail
    go_roundw
    case rel => exact ⟨i + 1, by omega, by rw [HLN.out], by go_num, HBN, HOK⟩
    case measure => simp [intOf]; omega
   ·have p8 : (gen == 0) = true := by simpa using g0
    have p9 : (gone == 0) = false := by simpa using o0
    have HNO := HBAD.out (fun h => by unfold Sg.ok at h; simp only at h; omega)
    have HNO := Lib.hid HNO
    clear g0 o0
    go_wp2_with fail
    exact hret _ _ _ _ _ _ _ _ _ _ _ _ _ _ _ _ _ _ _ _ _ _ _ _ _ _ _ _ _ _ _ _ _ _ _ _ _ _ _ _ _ _ _ _ _ _ _ _ _ _ _ _ _ _ _ _ _ _ _ _ _ _ _ _ HBA2 HNO
   ·have p8 : (gen == 0) = false := by simpa using g0
    have p9 : (gone == 0) = true := by simpa using o0
    have HNO := HBAD.out (fun h => by unfold Sg.ok at h; simp only at h; omega)
    have HNO := Lib.hid HNO
    clear g0 o0
    go_wp2_with fail
    exact hret _ _ _ _ _ _ _ _ _ _ _ _ _ _ _ _ _ _ _ _ _ _ _ _ _ _ _ _ _ _ _ _ _ _ _ _ _ _ _ _ _ _ _ _ _ _ _ _ _ _ _ _ _ _ _ _ _ _ _ _ _ _ _ _ HBA2 HNO
   ·have p8 : (gen == 0) = false := by simpa using g0
    have p9 : (gone == 0) = false := by simpa using o0
    have HOK : Hid (segsOk next 0 (l.take (i + 1))) := by
     show segsOk _ _ _
     rw [HTK.out, segsOk_append, HLO.out]
     refine ⟨HI.out, ?_, trivial⟩
     unfold Sg.ok
     simp only
     omega
    have HLN : Hid (lastOf 0 (l.take (i + 1)) = id) := by show _ = _; rw [HTK.out, lastOf_snoc]
    have HBN : Hid (Below (w.heap.size + 1) W0 (wr.alloc (.cells #[.int .i64 id, .int .i64 docs, .int .i64 gen, .int .i64 gone] 61))) := bel_new HB.out hbs hws _
    clear g0 o0
    go_wp2_with fail
    go_roundw
    case rel => exact ⟨i + 1, by omega, by rw [HLN.out], by go_num, HBN, HOK⟩
    case measure => simp [intOf]; omega
  ·obtain rfl : i = n := by omega
   have q0 : decide ((i : Int) < (i : Int)) = false := decide_eq_false (by omega)
   rw [← hlen, List.take_length] at HI
   go_wp2_with fail
   exact hexit wr _ _ _ _ _ _ _ _ _ _ _ _ _ _ _ _ _ _ _ _ _ _ _ _ _ _ _ _ _ _ _ _ _ _ _ _ _ _ _ _ _ _ _ _ _ _ _ _ _ _ _ _ _ _ _ _ _ _ _ _ _ _ _ _ HBW HI
end Go.Proofs.YtkhemhiifhggmaaGreatDoor
namespace Go.Proofs.YtkhemhiifhggmaaGreatDoor
open Go.RowKit Go.Maps
set_option linter.unusedVariables false
theorem check_any (w : World) (B : Nat) (hB : B ≤ w.heap.size) (A : Option Addr) (n c : Nat) (l : List Sg) (HS : Hid (SegsIn w B A n l)) (hn : n ≤ 4398046511104) (next : Int) :
  Calls Tryz.prog 10 #[.agg #[.int .i64 next, .slice A n c]] w fun e w' => e = .returned (.int .i64 (checkP next l)) ∧ Below w.heap.size w w' := by
 have hpb := bnew (brefl w) (.cells #[.int .i64 next, .slice A n c] 24)
 have hnw := heap_alloc_new w (.cells #[.int .i64 next, .slice A n c] 24)
 by_cases h1 : next < 1
 ·have p0 : decide (next < 1) = true := decide_eq_true h1
  have HC : Hid (checkP next l = 1) := if_neg (fun h => by have := h.1; omega)
  have HB := Lib.hid hpb
  clear hpb hnw h1
  go_enter Tryz.func10, Tryz.ntmps10
  go_wp2_with fail
  go_ret
  exact ⟨by rw [HC.out]; rfl, HB.out⟩
 ·have p0 : decide (next < 1) = false := decide_eq_false h1
  by_cases h2 : next > 999999999
  ·have p1 : decide (next > 999999999) = true := decide_eq_true h2
   have HC : Hid (checkP next l = 1) := if_neg (fun h => by have := h.2.1; omega)
   have HB := Lib.hid hpb
   clear hpb hnw h1 h2
   go_enter Tryz.func10, Tryz.ntmps10
   go_wp2_with fail
   go_ret
   exact ⟨by rw [HC.out]; rfl, HB.out⟩
  ·have p1 : decide (next > 999999999) = false := decide_eq_false h2
   have HB := Lib.hid hpb
   have HNW := Lib.hid hnw
   clear hpb hnw
   go_enter Tryz.func10, Tryz.ntmps10
   go_wp2_with fail
   refine check_o w _ B hB A n c l HS hn next 0 rfl _ rfl ?_ ?_ _ _ _ _ _ _ _ _ _ _ _ _ _ _ _ _ _ _ _ _ _ _ _ _ _ _ _ _ _ _ _ _ _ _ _ _ _ _ _ _ _ _ _ _ _ _ _ _ _ _ _ _ _ _ _ _ _ _ _ _ _ _ _ _ _ _ _ _ _ _ _ _ _ _ (fun c a a' w hd h => by cases a; cases a'; cases hd; exact h) ?_ ?_
   ·refine Lib.hid fun W h => ?_
    exact (h.cell (p := ⟨w.heap.size, 0, none⟩) (by show w.heap.size < _; omega)).trans (by simp)
   ·exact Lib.hid ⟨HB.out, by simp⟩
   ·intro W x3 x17 u5 u18 u19 u20 u21 u22 u23 u24 u25 u26 u27 u28 u29 u30 u31 u32 u33 u34 u35 u36 u37 u38 u39 u40 u41 u42 u43 u44 u45 u46 u47 u48 u49 u50 u51 u52 u53 u54 u55 u56 u57 u58 u59 u60 u61 u62 u63 u64 u65 u66 u67 u68 u69 u70 u71 u72 u73 u74 u75 u76 u77 HBW HO
    have HC : Hid (checkP next l = 1) := if_neg (fun h => HO.out h.2.2)
    go_wp2_with fail
    go_ret
    exact ⟨by rw [HC.out]; rfl, HBW.out⟩
   ·intro W x3 x17 u2 u5 u18 u19 u20 u21 u22 u23 u24 u25 u26 u27 u28 u29 u30 u31 u32 u33 u34 u35 u36 u37 u38 u39 u40 u41 u42 u43 u44 u45 u46 u47 u48 u49 u50 u51 u52 u53 u54 u55 u56 u57 u58 u59 u60 u61 u62 u63 u64 u65 u66 u67 u68 u69 u70 u71 u72 u73 u74 u75 u76 u77 HBW HO
    have HC : Hid (checkP next l = 0) := if_pos ⟨by omega, by omega, HO.out⟩
    go_wp2_with fail
    go_ret
    exact ⟨by rw [HC.out]; rfl, HBW.out⟩
end Go.Proofs.YtkhemhiifhggmaaGreatDoor
namespace Go.Proofs.YtkhemhiifhggmaaGreatDoor
open Go.RowKit Go.Maps
set_option linter.unusedVariables false
def Sg.nums (s : Sg) : List Int := [s.id, s.docs, s.gen, s.gone]
def segB (s : Sg) : List UInt8 := by8 (numsI s.nums)
def textP (next : Int) (l : List Sg) : List UInt8 := by8 (numsI [next, (l.length : Int)]) ++ l.flatMap segB
theorem numsI_len4 {zs : List Int} (h : ∀ z ∈ zs, pos63 z) : (numsI zs).length ≤ 9 * zs.length := by
 induction zs with
 | nil => simp [numsI]
 |
  cons z r ih =>
  have h1 := (numI_len (h z (List.mem_cons_self ..))).2
  have h2 := ih fun y hy => h y (List.mem_cons_of_mem _ hy)
  show (numI z ++ numsI r).length ≤ _
  rw [List.length_append, List.length_cons]
  omega
theorem Sg.pos {next last : Int} {s : Sg} (h : s.ok next last) (h0 : 0 ≤ last) (hn : next ≤ 999999999) : ∀ z ∈ s.nums, pos63 z := by
 obtain ⟨h1, h2, h3, h4, h5, h6, h7, h8, _⟩ := h
 intro z hz
 simp only [Sg.nums, List.mem_cons, List.not_mem_nil, or_false] at hz
 rcases hz with rfl | rfl | rfl | rfl <;> exact ⟨by omega, by omega⟩
theorem segsOk_pos {next : Int} (hn : next ≤ 999999999) : ∀ {l : List Sg} {x : Int}, 0 ≤ x → segsOk next x l → ∀ s ∈ l, ∀ z ∈ s.nums, pos63 z
 | [], _, _, _, _, hs => by simp at hs
 |
  a :: r, x, hx, h, s, hs => by
  rcases List.mem_cons.1 hs with rfl | hs
  ·exact Sg.pos h.1 hx hn
  ·exact segsOk_pos hn (x := a.id) (by have := h.1.1; omega) h.2 s hs
theorem flatB_len {l : List Sg} (h : ∀ s ∈ l, ∀ z ∈ s.nums, pos63 z) : (l.flatMap segB).length ≤ 36 * l.length := by
 induction l with
 | nil => simp
 |
  cons a r ih =>
  have h1 := numsI_len4 (h a (List.mem_cons_self ..))
  have h2 := ih fun y hy => h y (List.mem_cons_of_mem _ hy)
  rw [List.flatMap_cons, List.length_append, List.length_cons]
  have h3 : (segB a).length = (numsI a.nums).length := by8_length _
  have h4 : a.nums.length = 4 := rfl
  omega
theorem pack_o (w W0 : World) (B : Nat) (hB : B ≤ w.heap.size) (A : Option Addr) (n c : Nat) (l : List Sg) (HS : Hid (SegsIn w B A n l)) (hn : n ≤ 4398046511104) (HPO : Hid (∀ s ∈ l, ∀ z ∈ s.nums, pos63 z)) (pb : Nat) (t0 : List UInt8) (ht0 : t0.length ≤ 100)
  (HW : Hid (Below w.heap.size w W0))
  (c0 c2 c3 c4 c6 c8 c9 c10 c11 c12 c13 c14 c15 c16 c17 c18 c19 c20 c40 c41 c42 c43 u7 u24 u25 u26 u27 u28 u29 u30 u31 u32 u33 u34 u35 u36 u37 u38 u39 : Value) (Q0 : Exit → Act → World → Prop) (hQ0 : ∀ c (a a' : Act) w, a.defers = a'.defers → Q0 (.panic c) a w → Q0 (.panic c) a' w)
  (hexit : ∀ (W : World) (x23 u7 u24 u25 u26 u27 u28 u29 u30 u31 u32 u33 u34 u35 u36 u37 u38 u39 : Value), Hid (Below w.heap.size w W) → Q0 (.exit 0) ⟨List.toArray (c0 :: .pointer (some ⟨pb, 0, none⟩) :: c2 :: c3 :: c4 :: .string ⟨(t0 ++ l.flatMap segB).toArray⟩ :: c6 :: u7 :: c8 :: c9 :: c10 :: c11 :: c12 :: c13 :: c14 :: c15 :: c16 :: c17 :: c18 :: c19 :: c20 :: .slice A n c :: .int .i64 (n : Int) :: x23 :: u24 :: u25 :: u26 :: u27 :: u28 :: u29 :: u30 :: u31 :: u32 :: u33 :: u34 :: u35 :: u36 :: u37 :: u38 :: u39 :: c40 :: c41 :: c42 :: c43 :: []), []⟩ W) :
  Code.wp Tryz.prog (.loop (loopOf Tryz.f7 0)) Q0 ⟨List.toArray (c0 :: .pointer (some ⟨pb, 0, none⟩) :: c2 :: c3 :: c4 :: .string ⟨t0.toArray⟩ :: c6 :: u7 :: c8 :: c9 :: c10 :: c11 :: c12 :: c13 :: c14 :: c15 :: c16 :: c17 :: c18 :: c19 :: c20 :: .slice A n c :: .int .i64 (n : Int) :: .int .i64 (0 : Int) :: u24 :: u25 :: u26 :: u27 :: u28 :: u29 :: u30 :: u31 :: u32 :: u33 :: u34 :: u35 :: u36 :: u37 :: u38 :: u39 :: c40 :: c41 :: c42 :: c43 :: []), []⟩ W0 := by
 have hlen := HS.out.2
 conv => arg 2; arg 1; whnf
 go_loopw [5, 23] (fun tv iv wr => ∃ i : Nat, i ≤ n ∧ tv = .string ⟨(t0 ++ (l.take i).flatMap segB).toArray⟩ ∧ iv = .int .i64 (i : Int) ∧ Hid (Below w.heap.size w wr)) (fun _ iv _ => n - (intOf iv).toNat)
 case atStart => exact ⟨0, Nat.zero_le _, by simp, rfl, HW⟩
 case round =>
  obtain ⟨i, hi, rfl, rfl, HB⟩ := hrel
  by_cases hin : i < n
  ·obtain ⟨s, hs⟩ : ∃ s, l[i]? = some s := ⟨l[i]'(by omega), List.getElem?_eq_getElem _⟩
   have HSW := Lib.hid (HS.out.keep (HB.out.mono hB))
   obtain ⟨b, off, rfl, hb, c0, c1, c2, c3⟩ := HSW.out.at_ hs
   have hbw : b < wr.heap.size := by have := HB.out.size; omega
   have q0 : decide ((i : Int) < (n : Int)) = true := decide_eq_true (by omega)
   have HTK : Hid ((l.take (i + 1)).flatMap segB = (l.take i).flatMap segB ++ segB s) := by
    show _ = _
    rw [List.take_add_one, hs]
    simp
   have hpo := HPO.out s (List.mem_of_getElem? hs)
   have hfl : ((l.take i).flatMap segB).length ≤ 36 * i := Nat.le_trans (flatB_len fun s hs => HPO.out s (List.mem_of_mem_take hs)) (by rw [List.length_take]; omega)
   have hsl : (segB s).length ≤ 36 := by have := numsI_len4 hpo; have h4 : s.nums.length = 4 := rfl; rw [segB, by8_length]; omega
   obtain ⟨u, hu⟩ : ∃ u, t0 ++ (l.take i).flatMap segB = u := ⟨_, rfl⟩
   have hul : u.length ≤ 36 * i + 100 := by rw [← hu, List.length_append]; omega
   have HU : Hid (u ++ segB s = t0 ++ (l.take (i + 1)).flatMap segB) := by show _ = _; rw [HTK.out, ← List.append_assoc, hu]
   have hcat := cat_arr u (segB s) (by omega)
   rw [hu]
   have HNS := Lib.hid (fun (W : World) (A : Option Addr) (h : Sl W W.heap.size 1 A 4 (s.nums.map (.int .i64))) => numsI_any W A 4 4 W.heap.size s.nums (by omega) h (Nat.le_refl _) hpo)
   have hsb : strOfNums (numsI s.nums) = ⟨(segB s).toArray⟩ := rfl
   rw [hsb] at HNS
   generalize segB s = v at *
   obtain ⟨id, docs, gen, gone⟩ := s
   simp only [Sg.nums] at c0 c1 c2 c3 HNS
   have hba := Lib.hid (HB.out.trans ((bnew (brefl wr) (.cells #[.int .i64 id, .int .i64 docs, .int .i64 gen, .int .i64 gone] 61)).mono HB.out.size))
   clear hs hu hpo hsb
   go_wp2_with fail
   refine (HNS.out _ _ (sl_new _ _ _ 1 4 (by simp) rfl)).mono ?_
   rintro e w2 ⟨rfl, hb2⟩
   have HB2 := Lib.hid (bcall hba.out (bel_alloc (brefl _) hb2))
   clear hb2
   go_wp2_with fail
   go_roundw
   case rel => exact ⟨i + 1, by omega, by rw [HU.out], by go_num, HB2⟩
   case measure => simp [intOf]; omega
  ·obtain rfl : i = n := by omega
   have q0 : decide ((i : Int) < (i : Int)) = false := decide_eq_false (by omega)
   rw [← hlen, List.take_length]
   go_wp2_with fail
   rw [hlen]
   exact hexit wr _ _ _ _ _ _ _ _ _ _ _ _ _ _ _ _ _ _ HB
end Go.Proofs.YtkhemhiifhggmaaGreatDoor
namespace Go.Proofs.YtkhemhiifhggmaaGreatDoor
open Go.RowKit Go.Maps
set_option linter.unusedVariables false
def packP (next : Int) (l : List Sg) : List UInt8 × Int := if PtOk next l then (sealB 2 (textP next l), 0) else ([], 1)
theorem pack_any (w : World) (B : Nat) (hB : B ≤ w.heap.size) (A : Option Addr) (n c : Nat) (l : List Sg) (HS : Hid (SegsIn w B A n l)) (hn : n ≤ 4398046511104) (next : Int) :
  Calls Tryz.prog 7 #[.agg #[.int .i64 next, .slice A n c]] w fun e w' => e = .returned (.tuple #[.string ⟨(packP next l).1.toArray⟩, .int .i64 (packP next l).2]) ∧ Below w.heap.size w w' := by
 have hpb := bnew (brefl w) (.cells #[.int .i64 next, .slice A n c] 24)
 have HB := Lib.hid hpb
 have HC := Lib.hid (check_any (w.alloc (.cells #[.int .i64 next, .slice A n c] 24)) B (by simp; omega) A n c l (Lib.hid (HS.out.keep (hpb.mono hB))) hn next)
 clear hpb
 by_cases hok : PtOk next l
 ·have HP : Hid (packP next l = (sealB 2 (textP next l), 0)) := if_pos hok
  have hck : checkP next l = 0 := if_pos hok
  rw [hck] at HC
  have HPO := Lib.hid (segsOk_pos hok.2.1 (Int.le_refl 0) hok.2.2)
  have hlen := HS.out.2
  have hp2 : ∀ z ∈ [next, (n : Int)], pos63 z := by
   intro z hz
   simp only [List.mem_cons, List.not_mem_nil, or_false] at hz
   rcases hz with rfl | rfl
   ·exact ⟨by have := hok.1; omega, by have := hok.2.1; omega⟩
   ·exact ⟨by omega, by omega⟩
  have HNS := Lib.hid (fun (W : World) (A : Option Addr) (h : Sl W W.heap.size 1 A 2 [.int .i64 next, .int .i64 (n : Int)]) => numsI_any W A 2 2 W.heap.size [next, (n : Int)] (by omega) h (Nat.le_refl _) hp2)
  have ht0 : (by8 (numsI [next, (n : Int)])).length ≤ 100 := by
   have := numsI_len4 hp2
   rw [by8_length]
   simp only [List.length_cons, List.length_nil] at this
   omega
  have HTX : Hid (textP next l = by8 (numsI [next, (n : Int)]) ++ l.flatMap segB) := by show _ = _; rw [textP, hlen]
  have hfl := flatB_len HPO.out
  have htl : (textP next l).length ≤ 36 * n + 100 := by rw [HTX.out, List.length_append]; omega
  simp only [str_by8] at HNS
  generalize by8 (numsI [next, (n : Int)]) = t0 at *
  clear hck hok hp2 hfl
  go_enter Tryz.func7, Tryz.ntmps7
  go_wp2_with fail
  refine HC.out.mono ?_
  rintro e w1 ⟨rfl, hb1⟩
  have HB1 := Lib.hid (bcall HB.out hb1)
  have c0 : w1.cell? ⟨w.heap.size, 0, none⟩ = some (.int .i64 next) := (hb1.cell (p := ⟨w.heap.size, 0, none⟩) (by simp)).trans (by simp)
  have c1 : w1.cell? ⟨w.heap.size, 1, none⟩ = some (.slice A n c) := (hb1.cell (p := ⟨w.heap.size, 1, none⟩) (by simp)).trans (by simp)
  clear hb1
  go_wp2_with fail
  refine (HNS.out _ _ (sl_new _ _ _ 1 2 (by simp) rfl)).mono ?_
  rintro e w2 ⟨rfl, hb2⟩
  have HB2 := Lib.hid (bcall HB1.out (bel_alloc (brefl _) hb2))
  have c2 : w2.cell? ⟨w.heap.size, 1, none⟩ = some (.slice A n c) := (hb2.cell (p := ⟨w.heap.size, 1, none⟩) (by have := (lt_of_cell c1).1; simp; simp at this; omega)).trans (by have := (lt_of_cell c1).1; simp at this; rw [← c1]; exact World.cell?_alloc_lt _ _ ⟨w.heap.size, 1, none⟩ this)
  clear hb2
  go_wp2_with fail
  refine pack_o w w2 B hB A n c l HS hn HPO _ t0 ht0 HB2 _ _ _ _ _ _ _ _ _ _ _ _ _ _ _ _ _ _ _ _ _ _ _ _ _ _ _ _ _ _ _ _ _ _ _ _ _ _ _ _ (fun c a a' w hd h => by cases a; cases a'; cases hd; exact h) ?_
  intro W x23 u7 u24 u25 u26 u27 u28 u29 u30 u31 u32 u33 u34 u35 u36 u37 u38 u39 HBW
  rw [← HTX.out]
  have HSL := Lib.hid (fun W => seal_any W 2 (by omega) (textP next l) (by omega))
  clear c0 c1 c2 HC HNS
  go_wp2_with fail
  refine (HSL.out _).mono ?_
  rintro e w3 ⟨rfl, hb3⟩
  have HB3 := Lib.hid (bcall HBW.out hb3)
  clear hb3
  go_wp2_with fail
  go_ret2
  exact ⟨by rw [HP.out]; rfl, HB3.out⟩
 ·have HP : Hid (packP next l = ([], 1)) := if_neg hok
  have hck : checkP next l = 1 := if_neg hok
  rw [hck] at HC
  clear hck hok
  go_enter Tryz.func7, Tryz.ntmps7
  go_wp2_with fail
  refine HC.out.mono ?_
  rintro e w1 ⟨rfl, hb1⟩
  have HB1 := Lib.hid (bcall HB.out hb1)
  clear hb1
  go_wp2_with fail
  go_ret2
  exact ⟨by rw [HP.out]; rfl, HB1.out⟩
end Go.Proofs.YtkhemhiifhggmaaGreatDoor
namespace Go.Proofs.YtkhemhiifhggmaaGreatDoor
open Go.RowKit Go.Maps
set_option linter.unusedVariables false
def Tab (w : World) : Prop := Lib.TabIs Tryz.prog w "internal/strconv.uint64pow10" .u64 Lib.pow10Tab
theorem tab_gn : Tryz.prog.globalNamed "internal/strconv.uint64pow10" = some 2 := by kernel_rfl
theorem Tab.keep {w w' : World} {B : Nat} (h : Tab w) (hB : 2 < B) (hb : Below B w w') : Tab w' := by
 unfold Tab Lib.TabIs World.var? at h ⊢
 rw [tab_gn] at h ⊢
 simp only [Option.bind_some] at h ⊢
 rw [hb.block _ hB]
 exact h
theorem Tab.lt {w : World} (h : Tab w) : 2 < w.heap.size := by
 unfold Tab Lib.TabIs World.var? at h
 rw [tab_gn] at h
 simp only [Option.bind_some] at h
 rcases Nat.lt_or_ge 2 w.heap.size with h' | h'
 ·exact h'
 ·rw [Array.getElem?_eq_none h'] at h; cases h
theorem Tab.below {w w' : World} (h : Tab w) (hb : Below w.heap.size w w') : Tab w' := h.keep h.lt hb
theorem itoa_any (n : Int) (h0 : -9223372036854775808 ≤ n) (h1 : n ≤ 9223372036854775807) (w : World) (ht : Tab w) :
  Calls Tryz.prog 37 #[.int .i64 n] w fun e w' => e = .returned (.string ⟨(Lib.itoa n).toArray⟩) ∧ Below w.heap.size w w' := by
 refine (Tryz.strconv_Itoa n h0 h1 w ht).mono ?_
 rintro e w' ⟨rfl, k, os, rfl⟩
 exact ⟨rfl, Lib.below_grow _ w (Nat.le_refl _) k os⟩
def sizeV : Value → Nat
 | .string s => s.size
 | _ => 0
def pad9 (s : List UInt8) : List UInt8 := List.replicate (9 - s.length) 48 ++ s
def nameP (c : UInt8) (n : Int) : List UInt8 := if (1 ≤ n ∧ n ≤ 999999999) ∧ 97 ≤ c.toNat ∧ c.toNat ≤ 122 then [c, 95] ++ pad9 (Lib.itoa n) else []
theorem name_o (W0 : World) (n cz : Int) (d : List UInt8) (hd : d.length ≤ 40)
  (c2 c3 c4 c6 c7 c8 c9 c10 c11 c12 c13 c14 c15 c16 c17 c18 c19 c20 c21 c27 c28 c29 c30 c31 u22 u23 u24 u25 u26 : Value) (Q0 : Exit → Act → World → Prop) (hQ0 : ∀ c (a a' : Act) w, a.defers = a'.defers → Q0 (.panic c) a w → Q0 (.panic c) a' w)
  (hexit : ∀ (u22 u23 u24 u25 u26 : Value), Q0 (.exit 0) ⟨List.toArray (.int .u8 cz :: .int .i64 n :: c2 :: c3 :: c4 :: .string ⟨(pad9 d).toArray⟩ :: c6 :: c7 :: c8 :: c9 :: c10 :: c11 :: c12 :: c13 :: c14 :: c15 :: c16 :: c17 :: c18 :: c19 :: c20 :: c21 :: u22 :: u23 :: u24 :: u25 :: u26 :: c27 :: c28 :: c29 :: c30 :: c31 :: []), []⟩ W0) :
  Code.wp Tryz.prog (.loop (loopOf Tryz.f12 0)) Q0 ⟨List.toArray (.int .u8 cz :: .int .i64 n :: c2 :: c3 :: c4 :: .string ⟨d.toArray⟩ :: c6 :: c7 :: c8 :: c9 :: c10 :: c11 :: c12 :: c13 :: c14 :: c15 :: c16 :: c17 :: c18 :: c19 :: c20 :: c21 :: u22 :: u23 :: u24 :: u25 :: u26 :: c27 :: c28 :: c29 :: c30 :: c31 :: []), []⟩ W0 := by
 conv => arg 2; arg 1; whnf
 go_loopw [5] (fun sv wr => ∃ k : Nat, k ≤ 9 - d.length ∧ sv = .string ⟨(List.replicate k 48 ++ d).toArray⟩ ∧ wr = W0) (fun sv _ => 9 - sizeV sv)
 case atStart => exact ⟨0, Nat.zero_le _, by simp, rfl⟩
 case round =>
  obtain ⟨k, hk, rfl, rfl⟩ := hrel
  obtain ⟨s, hs⟩ : ∃ s, List.replicate k 48 ++ d = s := ⟨_, rfl⟩
  have hsl : s.length = k + d.length := by rw [← hs, List.length_append, List.length_replicate]
  have hz := size_arr s
  have HS := Lib.hid hs
  rw [hs]
  clear hs
  by_cases h9 : s.length < 9
  ·have q1 : decide ((s.length : Int) < 9) = true := decide_eq_true (by omega)
   have hcat := cat_arr [48] s (by simp; omega)
   have HN : Hid ([48] ++ s = List.replicate (k + 1) 48 ++ d) := by show _ = _; rw [← HS.out]; rfl
   go_wp2_with fail
   go_roundw
   case rel => exact ⟨k + 1, by omega, by rw [← HN.out]; rfl, trivial⟩
   case measure => show 9 - (⟨(48 :: s).toArray⟩ : ByteArray).size < 9 - (⟨s.toArray⟩ : ByteArray).size; rw [size_arr, size_arr, List.length_cons]; omega
  ·have q1 : decide ((s.length : Int) < 9) = false := decide_eq_false (by omega)
   have HN : Hid (s = pad9 d) := by show _ = _; rw [← HS.out, pad9, show k = 9 - d.length by omega]
   go_wp2_with fail
   rw [HN.out]
   exact hexit _ _ _ _ _
theorem nd_le : ∀ (k u : Nat), 1 ≤ k → u < 10 ^ k → Lib.nDigits u ≤ k
 | 0, _, h, _ => absurd h (by omega)
 |
  k + 1, u, _, h => by
  by_cases hu : u < 10
  ·rw [Lib.nDigits_small hu]
   omega
  ·rw [Lib.nDigits_big hu]
   have hk : 1 ≤ k := by
    rcases Nat.eq_zero_or_pos k with rfl | h'
    ·simp at h
     omega
    ·exact h'
   have := nd_le k (u / 10) hk (by rw [Nat.pow_succ] at h; omega)
   omega
theorem itoa_len9 {n : Int} (h0 : 1 ≤ n) (h1 : n ≤ 999999999) : 1 ≤ (Lib.itoa n).length ∧ (Lib.itoa n).length ≤ 9 := by
 obtain ⟨u, rfl⟩ := Int.eq_ofNat_of_zero_le (show 0 ≤ n by omega)
 unfold Lib.itoa
 rw [if_neg (by omega), Int.toNat_natCast, Lib.decDigits_length]
 refine ⟨Lib.nDigits_pos u, ?_⟩
 exact nd_le 9 u (by omega) (by omega)
theorem conv_two (w : World) (a b : Int) : (convert 66 9 (.slice (some ⟨w.heap.size, 0, none⟩) 2 2)).run Tryz.prog (w.alloc (.cells #[.int .u8 a, .int .u8 b] 5)) = .ok (.string ⟨(by8 [a, b]).toArray⟩) (w.alloc (.cells #[.int .u8 a, .int .u8 b] 5)) := by
 have h : (w.alloc (.cells #[.int .u8 a, .int .u8 b] 5)).ownsRow 0 5 1 (.slice (some ⟨w.heap.size, 0, none⟩) 2 2) 2 ([a, b].map (.int .u8)) := own_new w #[.int .u8 a, .int .u8 b] 5 1 2 rfl (by unfold maxLen; omega) rfl (Nat.zero_le _)
 exact convert_own (P := Tryz.prog) Tryz.underlying66 Tryz.underlying5 (dst := 9) Tryz.underlying9 h
theorem pname_any (w : World) (hT : Tab w) (c : UInt8) (n : Int) (h63 : -9223372036854775808 ≤ n ∧ n ≤ 9223372036854775807) :
  Calls Tryz.prog 12 #[.int .u8 (c.toNat : Int), .int .i64 n] w fun e w' => e = .returned (.string ⟨(nameP c n).toArray⟩) ∧ Below w.heap.size w w' := by
 obtain ⟨z, hz⟩ : ∃ z : Int, (c.toNat : Int) = z := ⟨_, rfl⟩
 have hzl : 0 ≤ z ∧ z < 256 := by have := c.toNat_lt; omega
 have HZ := Lib.hid hz
 rw [hz]
 have hno : ¬ ((1 ≤ n ∧ n ≤ 999999999) ∧ 97 ≤ c.toNat ∧ c.toNat ≤ 122) → nameP c n = [] := fun h => if_neg h
 have HNO := Lib.hid hno
 clear hz hno
 by_cases h0 : n < 1
 ·have p0 : decide (n < 1) = true := decide_eq_true h0
  have HN := Lib.hid (HNO.out (fun h => by omega))
  go_enter Tryz.func12, Tryz.ntmps12
  go_wp2_with fail
  go_ret
  exact ⟨by rw [HN.out]; rfl, brefl w⟩
 have p0 : decide (n < 1) = false := decide_eq_false h0
 by_cases h1 : n > 999999999
 ·have p1 : decide (n > 999999999) = true := decide_eq_true h1
  have HN := Lib.hid (HNO.out (fun h => by omega))
  go_enter Tryz.func12, Tryz.ntmps12
  go_wp2_with fail
  go_ret
  exact ⟨by rw [HN.out]; rfl, brefl w⟩
 have p1 : decide (n > 999999999) = false := decide_eq_false h1
 by_cases h2 : z < 97
 ·have p2 : decide (z < 97) = true := decide_eq_true h2
  have HN := Lib.hid (HNO.out (fun h => by have := HZ.out; omega))
  go_enter Tryz.func12, Tryz.ntmps12
  go_wp2_with fail
  go_ret
  exact ⟨by rw [HN.out]; rfl, brefl w⟩
 have p2 : decide (z < 97) = false := decide_eq_false h2
 by_cases h3 : z > 122
 ·have p3 : decide (z > 122) = true := decide_eq_true h3
  have HN := Lib.hid (HNO.out (fun h => by have := HZ.out; omega))
  go_enter Tryz.func12, Tryz.ntmps12
  go_wp2_with fail
  go_ret
  exact ⟨by rw [HN.out]; rfl, brefl w⟩
 have p3 : decide (z > 122) = false := decide_eq_false h3
 have HN : Hid (nameP c n = [c, 95] ++ pad9 (Lib.itoa n)) := if_pos ⟨⟨by omega, by omega⟩, by have := HZ.out; omega, by have := HZ.out; omega⟩
 have hil := itoa_len9 (n := n) (by omega) (by omega)
 have hpl : (pad9 (Lib.itoa n)).length ≤ 40 := by unfold pad9; rw [List.length_append, List.length_replicate]; omega
 have HI := Lib.hid (itoa_any n h63.1 h63.2 w hT)
 have hb8 : by8 [z, 95] = [c, 95] := by
  show [UInt8.ofNat z.toNat, UInt8.ofNat 95] = _
  rw [← HZ.out, Int.toNat_natCast, UInt8.ofNat_toNat]
  rfl
 have hcat := cat_arr [c, 95] (pad9 (Lib.itoa n)) (by simp; omega)
 rw [← HN.out] at hcat
 have hcv := fun W => conv_two W z 95
 simp only [hb8] at hcv
 clear HNO h0 h1 h2 h3 hb8
 go_enter Tryz.func12, Tryz.ntmps12
 go_wp2_with fail
 refine HI.out.mono ?_
 rintro e w1 ⟨rfl, hb1⟩
 have HB1 := Lib.hid hb1
 clear hb1
 go_wp2_with fail
 refine name_o w1 n z (Lib.itoa n) (by omega) _ _ _ _ _ _ _ _ _ _ _ _ _ _ _ _ _ _ _ _ _ _ _ _ _ _ _ _ _ _ (fun c a a' w hd h => by cases a; cases a'; cases hd; exact h) ?_
 intro u22 u23 u24 u25 u26
 generalize pad9 (Lib.itoa n) = S at *
 have hcv1 := hcv w1
 go_wp2_with fail
 go_ret
 exact ⟨rfl, bnew HB1.out _⟩
end Go.Proofs.YtkhemhiifhggmaaGreatDoor
namespace Go.Proofs.YtkhemhiifhggmaaGreatDoor
open Go.RowKit
structure But (S : Nat → Prop) (w w' : World) : Prop where
 os : w'.os = w.os
 tape : w'.tape = w.tape
 output : w'.output = w.output
 size : w.heap.size ≤ w'.heap.size
 block : ∀ k, k < w.heap.size → ¬ S k → w'.heap[k]? = w.heap[k]?
theorem But.refl (S : Nat → Prop) (w : World) : But S w w := ⟨rfl, rfl, rfl, Nat.le_refl _, fun _ _ _ => rfl⟩
theorem But.trans {S S' : Nat → Prop} {a b c : World} (h : But S a b) (k : But S' b c) (hS : ∀ i, S' i → S i ∨ a.heap.size ≤ i) : But S a c :=
 ⟨k.os.trans h.os, k.tape.trans h.tape, k.output.trans h.output, Nat.le_trans h.size k.size, fun i hi hn => (k.block i (Nat.lt_of_lt_of_le hi h.size) fun hs => (hS i hs).elim hn (by omega)).trans (h.block i hi hn)⟩
theorem But.below {S : Nat → Prop} {N : Nat} {w w' : World} (h : But S w w') (hN : N ≤ w.heap.size) (hS : ∀ i, S i → N ≤ i) : Below N w w' :=
 ⟨h.os, h.tape, h.output, h.size, fun i hi => h.block i (by omega) fun hs => by have := hS i hs; omega⟩
theorem But.at_ {S : Nat → Prop} {w w' : World} (h : But S w w') {k : Nat} {o : Obj} (hk : w.heap[k]? = some o) (hn : ¬ S k) : w'.heap[k]? = some o :=
 (h.block k (Array.getElem?_eq_some_iff.1 hk).1 hn).trans hk
end Go.Proofs.YtkhemhiifhggmaaGreatDoor
namespace Go.Proofs.YtkhemhiifhggmaaGreatDoor
open Go.RowKit Go.Maps
set_option linter.unusedVariables false
structure NxAt (W : World) (rb cb bb : Nat) (t : List UInt8) (bad : Bool) : Prop where
 r : W.heap[rb]? = some (.cells #[.pointer (some ⟨cb, 0, none⟩)] 69 (0, 0))
 b : W.heap[bb]? = some (.cells #[.bool bad] 4 (0, 0))
 c : CurAt W cb t
 rc : rb ≠ cb
 rbb : rb ≠ bb
 cbb : cb ≠ bb
theorem NxAt.keep {W W' : World} {rb cb bb : Nat} {t : List UInt8} {bad : Bool} (h : NxAt W rb cb bb t bad) (hr : W'.heap[rb]? = W.heap[rb]?) (hb : W'.heap[bb]? = W.heap[bb]?) (hc : W'.heap[cb]? = W.heap[cb]?) : NxAt W' rb cb bb t bad :=
 ⟨hr.trans h.r, hb.trans h.b, hc.trans h.c, h.rc, h.rbb, h.cbb⟩
theorem NxAt.below {W W' : World} {rb cb bb : Nat} {t : List UInt8} {bad : Bool} (h : NxAt W rb cb bb t bad) (hb : Below W.heap.size W W') : NxAt W' rb cb bb t bad :=
 h.keep (hb.block _ (Array.getElem?_eq_some_iff.1 h.r).1) (hb.block _ (Array.getElem?_eq_some_iff.1 h.b).1) (hb.block _ (Array.getElem?_eq_some_iff.1 h.c).1)
theorem nxt_any (W : World) (rb cb bb : Nat) (t : List UInt8) (bad : Bool) (h : NxAt W rb cb bb t bad) (ht : t.length ≤ 1125899906842624) :
  Calls Tryz.prog 42 #[.pointer (some ⟨rb, 0, none⟩), .pointer (some ⟨bb, 0, none⟩)] W fun e w' => e = .returned (.int .i64 (readCnt t).1) ∧ NxAt w' rb cb bb (readCnt t).2.2 (bad || decide ((readCnt t).2.1 ≠ 0)) ∧ But (fun k => k = cb ∨ k = bb) W w' := by
 have r0 := cell_of_row W rb 0 _ _ (0, 0) h.r
 simp at r0
 have HN := Lib.hid (count_any W cb t h.c ht)
 have H := Lib.hid h
 generalize (readCnt t).2.2 = u at *
 generalize (readCnt t).2.1 = e at *
 generalize (readCnt t).1 = n at *
 clear h
 go_enter Tryz.func42, Tryz.ntmps42
 go_wp2_with fail
 refine HN.out.mono ?_
 rintro e' w1 ⟨rfl, h1, hg1⟩
 have hrl := (Array.getElem?_eq_some_iff.1 H.out.r).1
 have hbl := (Array.getElem?_eq_some_iff.1 H.out.b).1
 have hr1 := (hg1.block rb hrl (by intro e; injection e with e; exact H.out.rc e)).trans H.out.r
 have hb1 := (hg1.block bb hbl (by intro e; injection e with e; exact H.out.cbb e.symm)).trans H.out.b
 have b0 := cell_of_row w1 bb 0 _ _ (0, 0) hb1
 simp at b0
 have bf : w1.frozen? ⟨bb, 0, none⟩ = false := by simp [World.frozen?, hb1]
 have H1 : Hid (NxAt w1 rb cb bb u bad) := ⟨hr1, hb1, h1, H.out.rc, H.out.rbb, H.out.cbb⟩
 have HB1 : Hid (But (fun k => k = cb ∨ k = bb) W w1) := ⟨hg1.os, hg1.tape, hg1.output, hg1.size, fun k hk hn => hg1.block k hk (by intro e; injection e with e; exact hn (.inl e))⟩
 have HST : Hid (∀ v : Bool, NxAt (w1.setCell ⟨bb, 0, none⟩ (.bool v)) rb cb bb u v ∧ But (fun k => k = cb ∨ k = bb) W (w1.setCell ⟨bb, 0, none⟩ (.bool v))) := fun v => by
  have hs := Below.heap_setCell w1 ⟨bb, 0, none⟩ (.bool v)
  refine ⟨⟨?_, ?_, ?_, H.out.rc, H.out.rbb, H.out.cbb⟩, ⟨HB1.out.os, HB1.out.tape, HB1.out.output, ?_, ?_⟩⟩
  ·exact (hs rb H.out.rbb).trans hr1
  ·simp [World.setCell, Array.getElem?_modify, hb1]
  ·exact (hs cb H.out.cbb).trans h1
  ·simpa [World.setCell] using HB1.out.size
  ·intro k hk hn
   exact (hs k (fun e => hn (.inr e))).trans (HB1.out.block k hk hn)
 clear h1 hg1 hr1 hb1
 cases bad
 ·by_cases he : e = 0
  ·have q1 : (e != 0) = false := by simpa using he
   have HE : Hid ((false || decide (e ≠ 0)) = false) := by show _ = _; simp [he]
   clear he
   go_wp2_with fail
   go_ret
   exact ⟨rfl, by rw [HE.out]; exact HST.out false⟩
  ·have q1 : (e != 0) = true := by simpa using he
   have HE : Hid ((false || decide (e ≠ 0)) = true) := by show _ = _; simp [he]
   clear he
   go_wp2_with fail
   go_ret
   exact ⟨rfl, by rw [HE.out]; exact HST.out true⟩
 ·go_wp2_with fail
  go_ret
  exact ⟨rfl, HST.out true⟩
end Go.Proofs.YtkhemhiifhggmaaGreatDoor
namespace Go.Proofs.YtkhemhiifhggmaaGreatDoor
open Go.RowKit
theorem set_grown (w : World) (a : Addr) (u : Value) : w.grownBy (w.setCell a u) (some a.block) :=
 ⟨rfl, rfl, rfl, by simp [World.setCell], fun k _ hk => Below.heap_setCell _ _ _ k (fun e => hk (by rw [e]))⟩
theorem grown_through {a b c : World} {row : Option Nat} (hb : Below a.heap.size a b) (hg : b.grownBy c row) : a.grownBy c row :=
 ⟨hg.os.trans hb.os, hg.tape.trans hb.tape, hg.output.trans hb.output, Nat.le_trans hb.size hg.size, fun k hk h => (hg.block k (Nat.lt_of_lt_of_le hk hb.size) h).trans (hb.block k hk)⟩
theorem step_pushg {P : Program} {ops : Array Oper} {o : Oper} {a : Act} {K : Act → World → Prop} {Q : Exit → Act → World → Prop} {E : Prop} (wx : World) (cs : Array Value) (hgd : o.guard = none) (s x : Operand) (t : TypeId)
  (ho : o.op = .call { callee := .builtin .append, args := #[s, x], argTypes := #[t, t] })
  {base e size bytes : Nat} (he : Elem P t e size bytes) (v : Value) (n : Nat) (xs : List Value) (hs : a.eval s = v) (hown : wx.ownsRow base e size v n xs)
  {nb m : Nat} (hx : a.eval x = .slice (some ⟨nb, 0, none⟩) m m) (hxc : wx.heap[nb]? = some (.cells cs e (0, 0)))
  (hl : cs.size = m * size) (h1 : ∀ u ∈ cs.toList, u.oneCell' = true) (hm : 0 < m)
  (h63 : n + m ≤ maxLen) (hbytes : (n + m) * bytes ≤ 140737488355328) (hbase : base ≤ wx.heap.size)
  (h : ∀ g cap w', w'.ownsRow base e size (.slice (some ⟨g, 0, none⟩) (n + m) cap) (n + m) (xs ++ cs.toList) → wx.grownBy w' v.ownBlock → (v.ownBlock = some g ∨ wx.heap.size ≤ g) → K (a.put o.dst (.slice (some ⟨g, 0, none⟩) (n + m) cap)) w') :
  if Region.wanted o (yielded ops a.tmps) = true then Oper.wp P o a wx K Q else E := by
 obtain ⟨ht, i, z, hi, hz, hsz, hby, hzs, hpos⟩ := he
 refine step_append_lies wx hgd s x t ho base e i z size bytes ht hi hz hsz hby hzs hpos v n xs hs hown ⟨nb, 0, none⟩ m m cs.toList hx (by simpa using hl) ?_ h1 hm h63 hbytes hbase _ rfl ?_
 ·intro j u hu
  rw [Addr.add_lit, Nat.zero_add, cell_of_row _ nb j cs e (0, 0) hxc]
  simpa using hu
 ·intro g cap w' h2 h3 h4 _
  exact h g cap w' h2 h3 (h4.elim .inl fun e => .inr (by omega))
theorem own_set {w : World} {b e s n k j : Nat} {v u : Value} {xs : List Value} (h : w.ownsRow b e s v n xs) (hb : k < b) : (w.setCell ⟨k, j, none⟩ u).ownsRow b e s v n xs := by
 refine h.kept (set_grown _ _ _) ?_
 cases hv : v.ownBlock with
 | none => exact .inl rfl
 |
  some g =>
  refine .inr fun e => ?_
  injection e with e
  have := (h.lt g hv).1
  simp at e
  omega
theorem below_set {w w' : World} {B k j : Nat} {u : Value} (h : Below B w w') (hk : B ≤ k) (hB : B ≤ w.heap.size) : Below B w (w'.setCell ⟨k, j, none⟩ u) := h.grown (set_grown _ _ _) (Nat.le_trans hB h.size) (fun q hq => by injection hq with hq; simp at hq; omega)
theorem free_at {w : World} {b : Nat} {C : Array Value} {t : TypeId} (h : w.heap[b]? = some (.cells C t (0, 0))) (j : Nat) : w.frozen? ⟨b, j, none⟩ = false := by simp [World.frozen?, h]
theorem own_put {W : World} {base e s n c g j : Nat} {u : Value} {xs : List Value} (h : W.ownsRow base e s (.slice (some ⟨g, 0, none⟩) n c) n xs) : (W.setCell ⟨g, j, none⟩ u).ownsRow base e s (.slice (some ⟨g, 0, none⟩) n c) n (xs.set j u) := by
 obtain ⟨h0, h⟩ := h
 refine ⟨by rw [List.length_set]; exact h0, ?_⟩
 rcases h with ⟨hv, _⟩ | ⟨g', cap, cur, hv, hb, hg, h1, h2, h3, h4⟩
 ·cases hv
 ·injection hv with hv1 _ hv3
  injection hv1 with hv1
  injection hv1 with hv1 _ _
  subst hv1 hv3
  refine .inr ⟨g, c, _, rfl, hb, blk_set hg u, h1, h2, by simpa using h3, ?_⟩
  rw [← h4, Array.toList_setIfInBounds, List.take_set]
end Go.Proofs.YtkhemhiifhggmaaGreatDoor
namespace Go.Proofs.YtkhemhiifhggmaaGreatDoor
open Go.RowKit Go.Maps
set_option linter.unusedVariables false
theorem el_seg : Elem Tryz.prog 22 61 4 32 := Elem.mk_ Tryz.underlying22 (z := .agg #[.int .i64 0, .int .i64 0, .int .i64 0, .int .i64 0]) (by kernel_rfl) rfl (by omega)
def cntR (t : List UInt8) : Option (Int × List UInt8) := if (readCnt t).2.1 = 0 then some ((readCnt t).1, (readCnt t).2.2) else none
def segR (t : List UInt8) : Option (Sg × List UInt8) :=
 (cntR t).bind fun a => (cntR a.2).bind fun b => (cntR b.2).bind fun c => (cntR c.2).bind fun d => some (⟨a.1, b.1, c.1, d.1⟩, d.2)
def segsR : Nat → List UInt8 → Option (List Sg × List UInt8)
 | 0, t => some ([], t)
 | k + 1, t => (segR t).bind fun s => (segsR k s.2).bind fun r => some (s.1 :: r.1, r.2)
structure RdR (w W : World) (rb cb bb pb : Nat) (next : Int) (A : Option Addr) (n cp : Nat) (L : List Sg) (t : List UInt8) (bad : Bool) : Prop where
 nx : NxAt W rb cb bb t bad
 p : W.heap[pb]? = some (.cells #[.int .i64 next, .slice A n cp] 24 (0, 0))
 own : W.ownsRow w.heap.size 61 4 (.slice A n cp) n (L.flatMap Sg.cells)
 len : L.length = n
 bel : Below w.heap.size w W
 lc : w.heap.size ≤ cb
 lb : w.heap.size ≤ bb
 lp : w.heap.size ≤ pb
section
variable {w W W' : World} {rb cb bb pb : Nat} {nxt : Int} {A : Option Addr} {n cp : Nat} {L : List Sg} {t t' : List UInt8} {bad bad' : Bool}
theorem own_but {S : Nat → Prop} {base e s m : Nat} {v : Value} {xs : List Value} (h : W.ownsRow base e s v m xs) (hb : But S W W') (hS : ∀ g cs, W.heap[g]? = some (.cells cs e (0, 0)) → ¬ S g) : W'.ownsRow base e s v m xs := by
 refine ⟨h.1, ?_⟩
 rcases h.2 with hn | ⟨g, cap, cur, rfl, hg, hh, rest⟩
 ·exact .inl hn
 ·exact .inr ⟨g, cap, cur, rfl, hg, hb.at_ hh (hS g cur hh), rest⟩
theorem RdR.next (h : RdR w W rb cb bb pb nxt A n cp L t bad) (hn : NxAt W' rb cb bb t' bad') (hb : But (fun k => k = cb ∨ k = bb) W W') : RdR w W' rb cb bb pb nxt A n cp L t' bad' := by
 have hc : W.heap[cb]? = some (.cells #[.string ⟨t.toArray⟩] 114 (0, 0)) := h.nx.c
 refine ⟨hn, hb.at_ h.p ?_, own_but h.own hb ?_, h.len, h.bel.trans (hb.below h.bel.size ?_), h.lc, h.lb, h.lp⟩
 ·rintro (rfl | rfl)
  ·have := h.p.symm.trans hc
   injection this with this
   injection this with _ this
   cases this
  ·have := h.p.symm.trans h.nx.b
   injection this with this
   injection this with _ this
   cases this
 ·rintro g cs hg (rfl | rfl)
  ·have := hg.symm.trans hc
   injection this with this
   injection this with _ this
   cases this
  ·have := hg.symm.trans h.nx.b
   injection this with this
   injection this with _ this
   cases this
 ·rintro i (rfl | rfl)
  ·exact h.lc
  ·exact h.lb
theorem RdR.below (h : RdR w W rb cb bb pb nxt A n cp L t bad) (hb : Below W.heap.size W W') : RdR w W' rb cb bb pb nxt A n cp L t bad :=
 ⟨h.nx.below hb, (hb.block _ (Array.getElem?_eq_some_iff.1 h.p).1).trans h.p, own_kept h.own hb, h.len, bcall h.bel hb, h.lc, h.lb, h.lp⟩
theorem RdR.push {s : Sg} {g cap : Nat} (h : RdR w W rb cb bb pb nxt A n cp L t bad) {W2 : World} (hW : Below W.heap.size W W2) (hg : W2.grownBy W' (Value.slice A n cp).ownBlock) (ho : W'.ownsRow w.heap.size 61 4 (.slice (some ⟨g, 0, none⟩) (n + 1) cap) (n + 1) (L.flatMap Sg.cells ++ s.cells)) :
  RdR w (W'.setCell ⟨pb, 1, none⟩ (.slice (some ⟨g, 0, none⟩) (n + 1) cap)) rb cb bb pb nxt (some ⟨g, 0, none⟩) (n + 1) cap (L ++ [s]) t bad ∧ W'.heap[pb]? = some (.cells #[.int .i64 nxt, .slice A n cp] 24 (0, 0)) := by
 have hg' := grown_through hW hg
 have hap : ∀ (k : Nat) cs ty, W.heap[k]? = some (.cells cs ty (0, 0)) → ty ≠ 61 → W'.heap[k]? = some (.cells cs ty (0, 0)) := fun k cs ty hk hty =>
  (hg'.block k (Array.getElem?_eq_some_iff.1 hk).1 (by
   intro e
   rcases h.own.2 with ⟨hv, _⟩ | ⟨g0, cap0, cur0, hv, _, hh, _⟩
   ·rw [hv] at e
    simp [Value.ownBlock] at e
   ·rw [hv] at e
    simp [Value.ownBlock] at e
    rw [← e] at hh
    have := hk.symm.trans hh
    injection this with this
    injection this with _ this
    exact hty this)).trans hk
 have hc : W.heap[cb]? = some (.cells #[.string ⟨t.toArray⟩] 114 (0, 0)) := h.nx.c
 have hp' := hap pb _ _ h.p (by decide)
 have hr' := hap rb _ _ h.nx.r (by decide)
 have hb' := hap bb _ _ h.nx.b (by decide)
 have hc' := hap cb _ _ hc (by decide)
 have hs := Below.heap_setCell W' ⟨pb, 1, none⟩ (.slice (some ⟨g, 0, none⟩) (n + 1) cap)
 have hne : ∀ (k : Nat) cs ty, W'.heap[k]? = some (.cells cs ty (0, 0)) → ty ≠ 24 → k ≠ pb := fun k cs ty hk hty e => by
  rw [e] at hk
  have := hk.symm.trans hp'
  injection this with this
  injection this with _ this
  exact hty this
 refine ⟨⟨⟨(hs rb (hne _ _ _ hr' (by decide))).trans hr', (hs bb (hne _ _ _ hb' (by decide))).trans hb', (hs cb (hne _ _ _ hc' (by decide))).trans hc', h.nx.rc, h.nx.rbb, h.nx.cbb⟩, ?_, ?_, by rw [List.length_append, h.len]; rfl, ?_, h.lc, h.lb, h.lp⟩, hp'⟩
 ·have := blk_set (j := 1) hp' (.slice (some ⟨g, 0, none⟩) (n + 1) cap)
  simpa using this
 ·have h2 : W'.ownsRow w.heap.size 61 4 (.slice (some ⟨g, 0, none⟩) (n + 1) cap) (n + 1) ((L ++ [s]).flatMap Sg.cells) := by
   have e : (L ++ [s]).flatMap Sg.cells = L.flatMap Sg.cells ++ s.cells := by simp
   rw [e]
   exact ho
  refine own_but (S := fun k => k = pb) h2 ⟨rfl, rfl, rfl, by simp [World.setCell], fun k hk hn => hs k hn⟩ ?_
  intro g' cs hg2 e
  exact hne g' cs _ hg2 (by decide) e
 ·have hsz := h.bel.size
  refine h.bel.trans ⟨hg'.os, hg'.tape, hg'.output, by simpa [World.setCell] using hg'.size, fun k hk => ?_⟩
  have hkp : k ≠ pb := by have := h.lp; omega
  refine (hs k hkp).trans (hg'.block k (by omega) ?_)
  intro e
  have := (h.own.lt k e.symm).1
  omega
end
theorem segR_some {t : List UInt8} (h1 : (readCnt t).2.1 = 0) (h2 : (readCnt (readCnt t).2.2).2.1 = 0) (h3 : (readCnt (readCnt (readCnt t).2.2).2.2).2.1 = 0) (h4 : (readCnt (readCnt (readCnt (readCnt t).2.2).2.2).2.2).2.1 = 0) :
  segR t = some (⟨(readCnt t).1, (readCnt (readCnt t).2.2).1, (readCnt (readCnt (readCnt t).2.2).2.2).1, (readCnt (readCnt (readCnt (readCnt t).2.2).2.2).2.2).1⟩, (readCnt (readCnt (readCnt (readCnt t).2.2).2.2).2.2).2.2) := by
 unfold segR cntR
 rw [if_pos h1]
 simp only [Option.bind_some]
 rw [if_pos h2]
 simp only [Option.bind_some]
 rw [if_pos h3]
 simp only [Option.bind_some]
 rw [if_pos h4]
 rfl
theorem segR_none {t : List UInt8} (h : ¬ ((readCnt t).2.1 = 0 ∧ (readCnt (readCnt t).2.2).2.1 = 0 ∧ (readCnt (readCnt (readCnt t).2.2).2.2).2.1 = 0 ∧ (readCnt (readCnt (readCnt (readCnt t).2.2).2.2).2.2).2.1 = 0)) : segR t = none := by
 unfold segR cntR
 by_cases h1 : (readCnt t).2.1 = 0
 ·rw [if_pos h1]
  simp only [Option.bind_some]
  by_cases h2 : (readCnt (readCnt t).2.2).2.1 = 0
  ·rw [if_pos h2]
   simp only [Option.bind_some]
   by_cases h3 : (readCnt (readCnt (readCnt t).2.2).2.2).2.1 = 0
   ·rw [if_pos h3]
    simp only [Option.bind_some]
    rw [if_neg fun h4 => h ⟨h1, h2, h3, h4⟩]
    rfl
   ·rw [if_neg h3]
    rfl
  ·rw [if_neg h2]
   rfl
 ·rw [if_neg h1]
  rfl
def RdL (O : Option (List Sg × List UInt8)) (k : Nat) (L : List Sg) (t : List UInt8) (bad : Bool) : Prop :=
 if bad then O = none else O = (segsR k t).map fun r => (L ++ r.1, r.2)
theorem RdL.step {O : Option (List Sg × List UInt8)} {k : Nat} {t : List UInt8} {L : List Sg} (h : RdL O (k + 1) L t false) :
  RdL O k (L ++ [⟨(readCnt t).1, (readCnt (readCnt t).2.2).1, (readCnt (readCnt (readCnt t).2.2).2.2).1, (readCnt (readCnt (readCnt (readCnt t).2.2).2.2).2.2).1⟩]) (readCnt (readCnt (readCnt (readCnt t).2.2).2.2).2.2).2.2
   ((((false || decide ((readCnt t).2.1 ≠ 0)) || decide ((readCnt (readCnt t).2.2).2.1 ≠ 0)) || decide ((readCnt (readCnt (readCnt t).2.2).2.2).2.1 ≠ 0)) || decide ((readCnt (readCnt (readCnt (readCnt t).2.2).2.2).2.2).2.1 ≠ 0)) := by
 have hs : O = ((segR t).bind fun s => (segsR k s.2).bind fun r => some (s.1 :: r.1, r.2)).map fun r => (L ++ r.1, r.2) := h
 by_cases hall : (readCnt t).2.1 = 0 ∧ (readCnt (readCnt t).2.2).2.1 = 0 ∧ (readCnt (readCnt (readCnt t).2.2).2.2).2.1 = 0 ∧ (readCnt (readCnt (readCnt (readCnt t).2.2).2.2).2.2).2.1 = 0
 ·obtain ⟨h1, h2, h3, h4⟩ := hall
  rw [segR_some h1 h2 h3 h4] at hs
  unfold RdL
  rw [if_neg (by simp [h1, h2, h3, h4]), hs]
  simp only [Option.bind_some]
  cases segsR k _ with
  | none => rfl
  | some r => simp
 ·rw [segR_none hall] at hs
  unfold RdL
  rw [if_pos (by
   simp only [Bool.false_or, Bool.or_eq_true, decide_eq_true_eq]
   by_cases h1 : (readCnt t).2.1 = 0
   ·by_cases h2 : (readCnt (readCnt t).2.2).2.1 = 0
    ·by_cases h3 : (readCnt (readCnt (readCnt t).2.2).2.2).2.1 = 0
     ·exact .inr fun h4 => hall ⟨h1, h2, h3, h4⟩
     ·exact .inl (.inr h3)
    ·exact .inl (.inl (.inr h2))
   ·exact .inl (.inl (.inl h1))), hs]
  rfl
end Go.Proofs.YtkhemhiifhggmaaGreatDoor
