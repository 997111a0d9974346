/- glossref20.Files. -/
import Derived.Test.YtkhemhiifhggmaaGreatDoorHPt10
import Derived.Test.YtkhemhiifhggmaaGreatDoorHPt11
import Derived.Test.YtkhemhiifhggmaaGreatDoorHPt6
set_option maxRecDepth 100000
set_option maxHeartbeats 40000000
namespace Go.Proofs.YtkhemhiifhggmaaGreatDoor
open Go.RowKit Go.Maps Go.Sort
set_option linter.unusedVariables false
def LeastP (last : Int) (a : List Sg) (m : Int) : Prop := (m = 0 ∧ ∀ s ∈ a, s.gen ≤ last) ∨ (last < m ∧ (∃ s ∈ a, s.gen = m) ∧ ∀ s ∈ a, last < s.gen → m ≤ s.gen)
theorem LeastP.skip {last m : Int} {a : List Sg} {s : Sg} (h : LeastP last a m) (hs : s.gen ≤ last ∨ (m ≠ 0 ∧ m ≤ s.gen)) : LeastP last (a ++ [s]) m := by
 rcases h with ⟨h1, h2⟩ | ⟨h1, ⟨x, hx, e⟩, h2⟩
 ·left
  refine ⟨h1, fun y hy => ?_⟩
  rcases List.mem_append.1 hy with hy | hy
  ·exact h2 y hy
  ·rw [List.mem_singleton.1 hy]
   rcases hs with hs | hs
   ·exact hs
   ·exact absurd h1 hs.1
 ·right
  refine ⟨h1, ⟨x, List.mem_append_left _ hx, e⟩, fun y hy hl => ?_⟩
  rcases List.mem_append.1 hy with hy | hy
  ·exact h2 y hy hl
  ·rw [List.mem_singleton.1 hy] at hl ⊢
   rcases hs with hs | hs
   ·omega
   ·exact hs.2
theorem LeastP.take {last m : Int} (h0 : 0 ≤ last) {a : List Sg} {s : Sg} (h : LeastP last a m) (h1 : last < s.gen) (h2 : m = 0 ∨ s.gen < m) : LeastP last (a ++ [s]) s.gen := by
 right
 refine ⟨h1, ⟨s, List.mem_append_right _ (List.mem_singleton.2 rfl), rfl⟩, fun y hy hl => ?_⟩
 rcases List.mem_append.1 hy with hy | hy
 ·rcases h with ⟨_, h3⟩ | ⟨hlm, _, h3⟩
  ·have := h3 y hy; omega
  ·have := h3 y hy hl
   rcases h2 with h2 | h2
   ·omega
   ·omega
 ·rw [List.mem_singleton.1 hy]
  exact Int.le_refl _
structure GenP (l : List Sg) (last : Int) (G : List Int) : Prop where
 up : G.Pairwise (· < ·)
 mem : ∀ g ∈ G, 0 < g ∧ g ≤ last ∧ ∃ s ∈ l, s.gen = g
 all : ∀ s ∈ l, 0 < s.gen → s.gen ≤ last → s.gen ∈ G
 few : (G.length : Int) ≤ last
theorem GenP.next {l : List Sg} {last m : Int} {G : List Int} (h : GenP l last G) (h0 : 0 ≤ last) (hm : LeastP last l m) (hm0 : m ≠ 0) : GenP l m (G ++ [m]) := by
 rcases hm with ⟨e, _⟩ | ⟨h1, ⟨x, hx, e⟩, h2⟩
 ·exact absurd e hm0
 ·refine ⟨?_, fun g hg => ?_, fun s hs hp hle => ?_, ?_⟩
  ·rw [List.pairwise_append]
   refine ⟨h.up, List.pairwise_singleton _ _, fun a ha b hb => ?_⟩
   rw [List.mem_singleton.1 hb]
   have := (h.mem a ha).2.1
   omega
  ·rcases List.mem_append.1 hg with hg | hg
   ·obtain ⟨a, b, c⟩ := h.mem g hg
    exact ⟨a, by omega, c⟩
   ·rw [List.mem_singleton.1 hg]
    exact ⟨by omega, Int.le_refl _, x, hx, e⟩
  ·by_cases hl : last < s.gen
   ·have := h2 s hs hl
    exact List.mem_append_right _ (List.mem_singleton.2 (by omega))
   ·exact List.mem_append_left _ (h.all s hs hp (by omega))
  ·rw [List.length_append, List.length_singleton]
   have := h.few
   omega
theorem segsOk_up {next : Int} : ∀ {l : List Sg} {x : Int}, 0 ≤ x → segsOk next x l → l.Pairwise (fun a b => a.id < b.id) ∧ ∀ s ∈ l, x < s.id ∧ s.id < next ∧ 0 ≤ s.gen ∧ s.gen < next
 | [], _, _, _ => ⟨List.Pairwise.nil, fun s hs => by cases hs⟩
 |
  a :: r, x, hx, h => by
  obtain ⟨h1, h2⟩ := h
  obtain ⟨k1, k2, _, _, k5, k6, _⟩ := h1
  obtain ⟨g1, g2⟩ := segsOk_up (x := a.id) (by omega) h2
  refine ⟨List.pairwise_cons.2 ⟨fun s hs => (g2 s hs).1, g1⟩, fun s hs => ?_⟩
  rcases List.mem_cons.1 hs with rfl | hs
  ·exact ⟨k1, k2, k5, k6⟩
  ·have := g2 s hs
   exact ⟨by omega, this.2⟩
theorem name_cross {c d : UInt8} {n m : Int} (hn : 1 ≤ n ∧ n ≤ 999999999) (hm : 1 ≤ m ∧ m ≤ 999999999) (hc : 97 ≤ c.toNat ∧ c.toNat ≤ 122) (hd : 97 ≤ d.toNat ∧ d.toNat ≤ 122) (h : c < d) : nameP c n < nameP d m := by
 rw [name_form hn hc, name_form hm hd, List.cons_lt_cons_iff]
 exact .inl h
def filesQ (G : List Int) (n : Int) (l : List Sg) : List (List UInt8) := G.map (nameP 100) ++ [nameP 112 n] ++ l.map fun s => nameP 115 s.id
theorem filesQ_eq {next n last : Int} {l : List Sg} {G : List Int} (hp : PtOk next l) (hn : 1 ≤ n ∧ n ≤ 999999999) (hG : GenP l last G) (hl : ∀ s ∈ l, s.gen ≤ last) : filesQ G n l = filesZ n l := by
 obtain ⟨u1, u2⟩ := segsOk_up (Int.le_refl 0) hp.2.2
 have hnx := hp.2.1
 have hg : ∀ g ∈ G, 1 ≤ g ∧ g ≤ 999999999 := fun g hg => by
  obtain ⟨a, b, s, hs, e⟩ := hG.mem g hg
  have := (u2 s hs).2.2.2
  omega
 have hi : ∀ s ∈ l, 1 ≤ s.id ∧ s.id ≤ 999999999 := fun s hs => by
  have := u2 s hs
  omega
 obtain ⟨z1, z2⟩ := filesZ_lt n l
 refine slt_ext ?_ z1 fun x => ?_
 ·unfold filesQ
  rw [List.pairwise_append, List.pairwise_append]
  refine ⟨⟨?_, List.pairwise_singleton _ _, fun a ha b hb => ?_⟩, ?_, fun a ha b hb => ?_⟩
  ·rw [List.pairwise_map]
   refine List.Pairwise.imp_of_mem ?_ hG.up
   intro a b ha hb hab
   exact name_lt (hg a ha).1 (hg b hb).2 (by decide) hab
  ·obtain ⟨g, hgm, rfl⟩ := List.mem_map.1 ha
   rw [List.mem_singleton.1 hb]
   exact name_cross (hg g hgm) hn (by decide) (by decide) (by decide)
  ·rw [List.pairwise_map]
   refine List.Pairwise.imp_of_mem ?_ u1
   intro a b ha hb hab
   exact name_lt (hi a ha).1 (hi b hb).2 (by decide) hab
  ·obtain ⟨s, hs, rfl⟩ := List.mem_map.1 hb
   rcases List.mem_append.1 ha with ha | ha
   ·obtain ⟨g, hgm, rfl⟩ := List.mem_map.1 ha
    exact name_cross (hg g hgm) (hi s hs) (by decide) (by decide) (by decide)
   ·rw [List.mem_singleton.1 ha]
    exact name_cross hn (hi s hs) (by decide) (by decide) (by decide)
 ·rw [z2]
  unfold filesQ filesR
  simp only [List.mem_append, List.mem_map, List.mem_cons, List.mem_flatMap, List.not_mem_nil, or_false]
  constructor
  ·rintro ((⟨g, hgm, rfl⟩ | rfl) | ⟨s, hs, rfl⟩)
   ·obtain ⟨a, b, s, hs, e⟩ := hG.mem g hgm
    right
    refine ⟨s, hs, ?_⟩
    unfold segN
    rw [if_pos (by omega), e]
    simp
   ·exact .inl rfl
   ·right
    refine ⟨s, hs, ?_⟩
    unfold segN
    exact List.mem_cons_self ..
  ·rintro (rfl | ⟨s, hs, hx⟩)
   ·exact .inl (.inr rfl)
   ·unfold segN at hx
    rcases List.mem_cons.1 hx with rfl | hx
    ·exact .inr ⟨s, hs, rfl⟩
    ·split at hx
     ·rename_i hpos
      rw [List.mem_singleton.1 hx]
      exact .inl (.inl ⟨s.gen, hG.all s hs hpos (hl s hs), rfl⟩)
     ·cases hx
theorem rfiles_i (w W0 : World) (B : Nat) (hB : B ≤ w.heap.size) (A : Option Addr) (n c : Nat) (l : List Sg) (HS : Hid (SegsIn w B A n l)) (hn : n ≤ 999999999) (last : Int) (h0 : 0 ≤ last) (pb : Nat)
  (HP : Hid (W0.cell? ⟨pb, 1, none⟩ = some (.slice A n c))) (HW : Hid (Below w.heap.size w W0))
  (c0 c1 c2 c4 c5 c10 c37 c38 c39 c40 c41 c42 c43 c44 c45 c46 c47 c48 c49 c50 c51 c52 c53 c54 c55 c56 c57 c58 c59 c60 c61 c62 c63 c64 c65 c66 c67 u9 u11 u12 u13 u14 u15 u16 u17 u18 u19 u20 u21 u22 u23 u24 u25 u26 u27 u28 u29 u30 u31 u32 u33 u34 u35 u36 : Value) (Q0 : Exit → Act → World → Prop) (hQ0 : ∀ c (a a' : Act) w, a.defers = a'.defers → Q0 (.panic c) a w → Q0 (.panic c) a' w)
  (hexit : ∀ (m : Int) (x8 u9 u11 u12 u13 u14 u15 u16 u17 u18 u19 u20 u21 u22 u23 u24 u25 u26 u27 u28 u29 u30 u31 u32 u33 u34 u35 u36 : Value), Hid (LeastP last l m) → Q0 (.exit 2) ⟨List.toArray (c0 :: c1 :: c2 :: .pointer (some ⟨pb, 0, none⟩) :: c4 :: c5 :: .int .i64 last :: .int .i64 m :: x8 :: u9 :: c10 :: u11 :: u12 :: u13 :: u14 :: u15 :: u16 :: u17 :: u18 :: u19 :: u20 :: u21 :: u22 :: u23 :: u24 :: u25 :: u26 :: u27 :: u28 :: u29 :: u30 :: u31 :: u32 :: u33 :: u34 :: u35 :: u36 :: c37 :: c38 :: c39 :: c40 :: c41 :: c42 :: c43 :: c44 :: c45 :: c46 :: c47 :: c48 :: c49 :: c50 :: c51 :: c52 :: c53 :: c54 :: c55 :: c56 :: c57 :: c58 :: c59 :: c60 :: c61 :: c62 :: c63 :: c64 :: c65 :: c66 :: c67 :: []), []⟩ W0) :
  Code.wp Tryz.prog (.loop (loopOf Tryz.f16 1)) Q0 ⟨List.toArray (c0 :: c1 :: c2 :: .pointer (some ⟨pb, 0, none⟩) :: c4 :: c5 :: .int .i64 last :: .int .i64 (0 : Int) :: .int .i64 (0 : Int) :: u9 :: c10 :: u11 :: u12 :: u13 :: u14 :: u15 :: u16 :: u17 :: u18 :: u19 :: u20 :: u21 :: u22 :: u23 :: u24 :: u25 :: u26 :: u27 :: u28 :: u29 :: u30 :: u31 :: u32 :: u33 :: u34 :: u35 :: u36 :: c37 :: c38 :: c39 :: c40 :: c41 :: c42 :: c43 :: c44 :: c45 :: c46 :: c47 :: c48 :: c49 :: c50 :: c51 :: c52 :: c53 :: c54 :: c55 :: c56 :: c57 :: c58 :: c59 :: c60 :: c61 :: c62 :: c63 :: c64 :: c65 :: c66 :: c67 :: []), []⟩ W0 := by
 have hlen := HS.out.2
 conv => arg 2; arg 1; whnf
 go_loopw [7, 8] (fun mv iv wr => ∃ (i : Nat) (m : Int), i ≤ n ∧ mv = .int .i64 m ∧ iv = .int .i64 (i : Int) ∧ Hid (LeastP last (l.take i) m) ∧ wr = W0) (fun _ iv _ => n - (intOf iv).toNat)
 case atStart => exact ⟨0, 0, Nat.zero_le _, rfl, rfl, .inl ⟨rfl, fun s hs => by simp at hs⟩, rfl⟩
 case round =>
  obtain ⟨i, m, hi, rfl, rfl, HM, hww⟩ := hrel
  subst hww
  have hp1 := HP.out
  by_cases hin : i < n
  ·obtain ⟨s, hs⟩ : ∃ s, l[i]? = some s := ⟨l[i]'(by omega), List.getElem?_eq_getElem _⟩
   have hone : l.take (i + 1) = l.take i ++ [s] := by rw [List.take_add_one, hs]; rfl
   obtain ⟨b, off, rfl, hb, c0, c1, c2, c3⟩ := (HS.out.keep (HW.out.mono hB)).at_ hs
   have q0 : decide ((i : Int) < (n : Int)) = true := decide_eq_true (by omega)
   have HSK := Lib.hid (fun h : s.gen ≤ last ∨ (m ≠ 0 ∧ m ≤ s.gen) => HM.out.skip (s := s) h)
   have HTK := Lib.hid (fun (h1 : last < s.gen) (h2 : m = 0 ∨ s.gen < m) => LeastP.take h0 HM.out (s := s) h1 h2)
   rw [← hone] at HSK HTK
   obtain ⟨g, hg⟩ : ∃ g, s.gen = g := ⟨_, rfl⟩
   rw [hg] at c2 HSK HTK
   clear hs hone hg HM hexit c0 c1 c3
   by_cases h1 : last < g
   ·have p0 : decide (g > last) = true := decide_eq_true h1
    by_cases h2 : m = 0
    ·have HMN := Lib.hid (HTK.out h1 (.inl h2))
     have p1 : (m == 0) = true := by simpa using h2
     clear HSK HTK h1 h2
     go_wp2_with fail
     go_roundw
     case rel => exact ⟨i + 1, g, by omega, rfl, by go_num, HMN, trivial⟩
     case measure => simp [intOf]; omega
    ·have p1 : (m == 0) = false := by simpa using h2
     by_cases h3 : g < m
     ·have HMN := Lib.hid (HTK.out h1 (.inr h3))
      have p2 : decide (g < m) = true := decide_eq_true h3
      clear HSK HTK h1 h2 h3
      go_wp2_with fail
      go_roundw
      case rel => exact ⟨i + 1, g, by omega, rfl, by go_num, HMN, trivial⟩
      case measure => simp [intOf]; omega
     ·have HMN := Lib.hid (HSK.out (.inr ⟨h2, by omega⟩))
      have p2 : decide (g < m) = false := decide_eq_false h3
      clear HSK HTK h1 h2 h3
      go_wp2_with fail
      go_roundw
      case rel => exact ⟨i + 1, m, by omega, rfl, by go_num, HMN, trivial⟩
      case measure => simp [intOf]; omega
   ·have p0 : decide (g > last) = false := decide_eq_false h1
    have HMN := Lib.hid (HSK.out (.inl (by omega)))
    clear HSK HTK h1
    go_wp2_with fail
    go_roundw
    case rel => exact ⟨i + 1, m, by omega, rfl, by go_num, HMN, trivial⟩
    case measure => simp [intOf]; omega
  ·obtain rfl : i = n := by omega
   have q0 : decide ((i : Int) < (i : Int)) = false := decide_eq_false (by omega)
   rw [List.take_of_length_le (by omega)] at HM
   go_wp2_with fail
   first
    | exact HM
    | exact hexit m _ _ _ _ _ _ _ _ _ _ _ _ _ _ _ _ _ _ _ _ _ _ _ _ _ _ _ _ HM
theorem rfiles_o (w W0 : World) (B : Nat) (hB : B ≤ w.heap.size) (A0 : Option Addr) (n c : Nat) (l : List Sg) (HS : Hid (SegsIn w B A0 n l)) (hn : n ≤ 999999999) (HU : Hid (∀ s ∈ l, s.gen ≤ 999999999)) (pb : Nat)
  (HP : Hid (∀ V, Below (w.heap.size + 1) W0 V → V.cell? ⟨pb, 1, none⟩ = some (.slice A0 n c))) (HW : Hid (Below w.heap.size w W0 ∧ w.heap.size + 1 ≤ W0.heap.size))
  (c0 c1 c2 c4 c10 c45 c46 c47 c48 c49 c50 c51 c52 c53 c54 c55 c56 c57 c58 c59 c60 c61 c62 c63 c64 c65 c66 c67 u7 u8 u9 u11 u12 u13 u14 u15 u16 u17 u18 u19 u20 u21 u22 u23 u24 u25 u26 u27 u28 u29 u30 u31 u32 u33 u34 u35 u36 u37 u38 u39 u40 u41 u42 u43 u44 : Value) (Q0 : Exit → Act → World → Prop) (hQ0 : ∀ c (a a' : Act) w, a.defers = a'.defers → Q0 (.panic c) a w → Q0 (.panic c) a' w)
  (hexit : ∀ (V : World) (last : Int) (G : List Int) (A : Option Addr) (m cp : Nat) (x6 u7 u8 u9 u11 u12 u13 u14 u15 u16 u17 u18 u19 u20 u21 u22 u23 u24 u25 u26 u27 u28 u29 u30 u31 u32 u33 u34 u35 u36 u37 u38 u39 u40 u41 u42 u43 u44 : Value), Hid (m ≤ 999999999) → Hid (GenP l last G ∧ ∀ s ∈ l, s.gen ≤ last) → Hid (Below (w.heap.size + 1) W0 V) → Hid (V.ownsRow (w.heap.size + 1) 9 1 (.slice A m cp) m ((G.map (nameP 100)).map encStr)) → Q0 (.exit 0) ⟨List.toArray (c0 :: c1 :: c2 :: .pointer (some ⟨pb, 0, none⟩) :: c4 :: .slice A m cp :: x6 :: u7 :: u8 :: u9 :: c10 :: u11 :: u12 :: u13 :: u14 :: u15 :: u16 :: u17 :: u18 :: u19 :: u20 :: u21 :: u22 :: u23 :: u24 :: u25 :: u26 :: u27 :: u28 :: u29 :: u30 :: u31 :: u32 :: u33 :: u34 :: u35 :: u36 :: u37 :: u38 :: u39 :: u40 :: u41 :: u42 :: u43 :: u44 :: c45 :: c46 :: c47 :: c48 :: c49 :: c50 :: c51 :: c52 :: c53 :: c54 :: c55 :: c56 :: c57 :: c58 :: c59 :: c60 :: c61 :: c62 :: c63 :: c64 :: c65 :: c66 :: c67 :: []), []⟩ V) :
  Code.wp Tryz.prog (.loop (loopOf Tryz.f16 0)) Q0 ⟨List.toArray (c0 :: c1 :: c2 :: .pointer (some ⟨pb, 0, none⟩) :: c4 :: .slice none 0 0 :: .int .i64 (0 : Int) :: u7 :: u8 :: u9 :: c10 :: u11 :: u12 :: u13 :: u14 :: u15 :: u16 :: u17 :: u18 :: u19 :: u20 :: u21 :: u22 :: u23 :: u24 :: u25 :: u26 :: u27 :: u28 :: u29 :: u30 :: u31 :: u32 :: u33 :: u34 :: u35 :: u36 :: u37 :: u38 :: u39 :: u40 :: u41 :: u42 :: u43 :: u44 :: c45 :: c46 :: c47 :: c48 :: c49 :: c50 :: c51 :: c52 :: c53 :: c54 :: c55 :: c56 :: c57 :: c58 :: c59 :: c60 :: c61 :: c62 :: c63 :: c64 :: c65 :: c66 :: c67 :: []), []⟩ W0 := by
 have hlen := HS.out.2
 conv => arg 2; arg 1; whnf
 go_loopw [5, 6] (fun rv lv wr => ∃ (last : Int) (G : List Int) (A : Option Addr) (m cp : Nat), rv = .slice A m cp ∧ lv = .int .i64 last ∧ 0 ≤ last ∧ last ≤ 999999999 ∧ Hid (G.length = m) ∧ Hid (GenP l last G) ∧ Hid (Below (w.heap.size + 1) W0 wr) ∧ Hid (wr.ownsRow (w.heap.size + 1) 9 1 (.slice A m cp) m ((G.map (nameP 100)).map encStr))) (fun _ lv _ => (1000000000 - intOf lv).toNat)
 case atStart => exact ⟨0, [], none, 0, 0, rfl, rfl, Int.le_refl _, by omega, rfl, ⟨List.Pairwise.nil, (fun g hg => by cases hg), (fun s _ h1 h2 => by omega), Int.le_refl _⟩, Lib.hid ((brefl W0).mono HW.out.2), ⟨by simp, .inl ⟨rfl, rfl⟩⟩⟩
 case round =>
  obtain ⟨last, G, A, m, cp, rfl, rfl, h0, h9, HGL, HG, HB, HR⟩ := hrel
  have HBW : Hid (Below w.heap.size w wr) := HW.out.1.trans (HB.out.mono (Nat.le_succ _))
  have hbs := HB.out.size
  have hws := HW.out.2
  have hm9 : m ≤ 999999999 := by have := HG.out.few; have := HGL.out; omega
  go_wp2_with fail
  refine rfiles_i w wr B hB A0 n c l HS hn last h0 pb (Lib.hid (HP.out wr HB.out)) HBW _ _ _ _ _ _ _ _ _ _ _ _ _ _ _ _ _ _ _ _ _ _ _ _ _ _ _ _ _ _ _ _ _ _ _ _ _ _ _ _ _ _ _ _ _ _ _ _ _ _ _ _ _ _ _ _ _ _ _ _ _ _ _ _ _ (fun c a a' w hd h => hQ0 c a a' w hd h) ?_
  intro g x8 u9 u11 u12 u13 u14 u15 u16 u17 u18 u19 u20 u21 u22 u23 u24 u25 u26 u27 u28 u29 u30 u31 u32 u33 u34 u35 u36 HM
  by_cases hg : g = 0
  ·have hall : ∀ s ∈ l, s.gen ≤ last := by
    rcases HM.out with ⟨_, h⟩ | ⟨h, _⟩
    ·exact h
    ·omega
   have HGX : Hid (GenP l last G ∧ ∀ s ∈ l, s.gen ≤ last) := ⟨HG.out, hall⟩
   have HM9 := Lib.hid hm9
   subst hg
   clear hall HM HG
   go_wp2_with fail
   exact hexit wr last G A m cp _ _ _ _ _ _ _ _ _ _ _ _ _ _ _ _ _ _ _ _ _ _ _ _ _ _ _ _ _ _ _ _ _ _ _ _ _ _ HM9 HGX HB HR
  ·have hg2 : last < g ∧ g ≤ 999999999 := by
    rcases HM.out with ⟨h, _⟩ | ⟨h, ⟨s, hs, e⟩, _⟩
    ·exact absurd h hg
    ·exact ⟨h, by rw [← e]; exact HU.out s hs⟩
   have q1 : (g == 0) = false := by simpa using hg
   have HGN := Lib.hid (HG.out.next h0 HM.out hg)
   have HN : Hid (∀ V, Calls Tryz.prog 13 #[.int .u8 100, .int .i64 g] V fun e w' => e = .returned (.string ⟨(nameP 100 g).toArray⟩) ∧ Below V.heap.size V w') := fun V => rname_any V 100 g
   have HRN : Hid (((G ++ [g]).map (nameP 100)).map encStr = (G.map (nameP 100)).map encStr ++ [.string ⟨(nameP 100 g).toArray⟩]) := by show _ = _; simp [encStr]
   have HLN : Hid ((G ++ [g]).length = m + 1) := by show _ = _; rw [List.length_append, List.length_singleton, HGL.out]
   obtain ⟨ng, hng⟩ : ∃ ng, nameP 100 g = ng := ⟨_, rfl⟩
   rw [hng] at HN HRN
   clear hng HM HG hexit hg
   go_wp2_with fail
   refine (HN.out _).mono ?_
   rintro e w1 ⟨rfl, hb1⟩
   have HB1 := Lib.hid (HB.out.trans (hb1.mono (by omega)))
   have HR1 := Lib.hid (own_kept HR.out hb1)
   have hs1 := hb1.size
   clear hb1
   go_wp2_with (at_builtin; refine wpList_pushm W0 w1 _ rfl _ _ _ rfl el_strs _ _ _ rfl HR1.out (m := 1) rfl (by simp) rfl (by simp [Value.oneCell']) (by unfold maxLen; omega) (by omega) (by omega) HB1.out ?_; intro v2 w2 hown9 hb9 hg9 hor9; obtain ⟨A2, p2, rfl, _⟩ := own_shape hown9; have HR2 := Lib.hid hown9; have HW2 := Lib.hid hb9; clear hown9 hb9 hg9 hor9)
   go_roundw
   case rel => exact ⟨g, G ++ [g], A2, m + 1, p2, rfl, rfl, by omega, by omega, HLN, HGN, HW2, by rw [HRN.out]; exact HR2⟩
   case measure => simp [intOf]; omega
theorem rfiles_s (w W0 : World) (B : Nat) (hB : B ≤ w.heap.size) (A0 : Option Addr) (n c : Nat) (l : List Sg) (HS : Hid (SegsIn w B A0 n l)) (hn : n ≤ 999999999) (pb : Nat)
  (HP : Hid (∀ V, Below (w.heap.size + 1) W0 V → V.cell? ⟨pb, 1, none⟩ = some (.slice A0 n c))) (HW : Hid (Below w.heap.size w W0 ∧ w.heap.size + 1 ≤ W0.heap.size)) (A : Option Addr) (m cp : Nat) (hm : m ≤ 1000000000) (R : List (List UInt8)) (HR0 : Hid (W0.ownsRow (w.heap.size + 1) 9 1 (.slice A m cp) m (R.map encStr)))
  (c0 c1 c2 c4 c6 c7 c8 c9 c11 c12 c13 c14 c15 c16 c17 c18 c19 c20 c21 c22 c23 c24 c25 c26 c27 c28 c29 c30 c31 c32 c33 c34 c35 c36 c37 c38 c39 c40 c41 c42 c43 c44 c45 c46 c47 c48 c49 c67 u50 u51 u52 u53 u54 u55 u56 u57 u58 u59 u60 u61 u62 u63 u64 u65 u66 : Value) (Q0 : Exit → Act → World → Prop) (hQ0 : ∀ c (a a' : Act) w, a.defers = a'.defers → Q0 (.panic c) a w → Q0 (.panic c) a' w)
  (hexit : ∀ (V : World) (A : Option Addr) (k cp : Nat) (x10 u50 u51 u52 u53 u54 u55 u56 u57 u58 u59 u60 u61 u62 u63 u64 u65 u66 : Value), Hid (k ≤ 2000000000) → Hid (Below (w.heap.size + 1) W0 V) → Hid (V.ownsRow (w.heap.size + 1) 9 1 (.slice A k cp) k ((R ++ l.map fun s => nameP 115 s.id).map encStr)) → Q0 (.exit 4) ⟨List.toArray (c0 :: c1 :: c2 :: .pointer (some ⟨pb, 0, none⟩) :: c4 :: .slice A k cp :: c6 :: c7 :: c8 :: c9 :: x10 :: c11 :: c12 :: c13 :: c14 :: c15 :: c16 :: c17 :: c18 :: c19 :: c20 :: c21 :: c22 :: c23 :: c24 :: c25 :: c26 :: c27 :: c28 :: c29 :: c30 :: c31 :: c32 :: c33 :: c34 :: c35 :: c36 :: c37 :: c38 :: c39 :: c40 :: c41 :: c42 :: c43 :: c44 :: c45 :: c46 :: c47 :: c48 :: c49 :: u50 :: u51 :: u52 :: u53 :: u54 :: u55 :: u56 :: u57 :: u58 :: u59 :: u60 :: u61 :: u62 :: u63 :: u64 :: u65 :: u66 :: c67 :: []), []⟩ V) :
  Code.wp Tryz.prog (.loop (loopOf Tryz.f16 2)) Q0 ⟨List.toArray (c0 :: c1 :: c2 :: .pointer (some ⟨pb, 0, none⟩) :: c4 :: .slice A m cp :: c6 :: c7 :: c8 :: c9 :: .int .i64 (0 : Int) :: c11 :: c12 :: c13 :: c14 :: c15 :: c16 :: c17 :: c18 :: c19 :: c20 :: c21 :: c22 :: c23 :: c24 :: c25 :: c26 :: c27 :: c28 :: c29 :: c30 :: c31 :: c32 :: c33 :: c34 :: c35 :: c36 :: c37 :: c38 :: c39 :: c40 :: c41 :: c42 :: c43 :: c44 :: c45 :: c46 :: c47 :: c48 :: c49 :: u50 :: u51 :: u52 :: u53 :: u54 :: u55 :: u56 :: u57 :: u58 :: u59 :: u60 :: u61 :: u62 :: u63 :: u64 :: u65 :: u66 :: c67 :: []), []⟩ W0 := by
 have hlen := HS.out.2
 conv => arg 2; arg 1; whnf
 go_loopw [5, 10] (fun rv iv wr => ∃ (i k : Nat) (A : Option Addr) (cp : Nat), i ≤ n ∧ k = m + i ∧ rv = .slice A k cp ∧ iv = .int .i64 (i : Int) ∧ Hid (Below (w.heap.size + 1) W0 wr) ∧ Hid (wr.ownsRow (w.heap.size + 1) 9 1 (.slice A k cp) k ((R ++ (l.take i).map fun s => nameP 115 s.id).map encStr))) (fun _ iv _ => n - (intOf iv).toNat)
 case atStart => exact ⟨0, m, A, cp, Nat.zero_le _, rfl, rfl, rfl, Lib.hid ((brefl W0).mono HW.out.2), by rw [List.take_zero, List.map_nil, List.append_nil]; exact HR0⟩
 case round =>
  clear HR0
  obtain ⟨i, k, A, cp, hi, hk, rfl, rfl, HB, HR⟩ := hrel
  have HBW : Hid (Below w.heap.size w wr) := HW.out.1.trans (HB.out.mono (Nat.le_succ _))
  have hbs := HB.out.size
  have hws := HW.out.2
  have HKE := Lib.hid hk
  have hk2 : k ≤ 2000000000 := by omega
  clear hk
  have hp1 := HP.out wr HB.out
  by_cases hin : i < n
  ·obtain ⟨s, hs⟩ : ∃ s, l[i]? = some s := ⟨l[i]'(by omega), List.getElem?_eq_getElem _⟩
   obtain ⟨b, off, rfl, hb, c0, c1, c2, c3⟩ := (HS.out.keep (HBW.out.mono hB)).at_ hs
   have q0 : decide ((i : Int) < (n : Int)) = true := decide_eq_true (by omega)
   have HRN : Hid ((R ++ (l.take (i + 1)).map fun s => nameP 115 s.id).map encStr = (R ++ (l.take i).map fun s => nameP 115 s.id).map encStr ++ [.string ⟨(nameP 115 s.id).toArray⟩]) := by
    show _ = _
    rw [List.take_add_one, hs]
    simp [encStr]
   obtain ⟨g, hg⟩ : ∃ g, s.id = g := ⟨_, rfl⟩
   rw [hg] at c0 HRN
   have HN : Hid (∀ V, Calls Tryz.prog 13 #[.int .u8 115, .int .i64 g] V fun e w' => e = .returned (.string ⟨(nameP 115 g).toArray⟩) ∧ Below V.heap.size V w') := fun V => rname_any V 115 g
   obtain ⟨ng, hng⟩ : ∃ ng, nameP 115 g = ng := ⟨_, rfl⟩
   rw [hng] at HN HRN
   clear hng hs hg hexit c1 c2 c3
   go_wp2_with fail
   refine (HN.out _).mono ?_
   rintro e w1 ⟨rfl, hb1⟩
   have HB1 := Lib.hid (HB.out.trans (hb1.mono (by omega)))
   have HR1 := Lib.hid (own_kept HR.out hb1)
   have hs1 := hb1.size
   clear hb1
   go_wp2_with (at_builtin; refine wpList_pushm W0 w1 _ rfl _ _ _ rfl el_strs _ _ _ rfl HR1.out (m := 1) rfl (by simp) rfl (by simp [Value.oneCell']) (by unfold maxLen; omega) (by omega) (by omega) HB1.out ?_; intro v2 w2 hown9 hb9 hg9 hor9; obtain ⟨A2, p2, rfl, _⟩ := own_shape hown9; have HR2 := Lib.hid hown9; have HW2 := Lib.hid hb9; clear hown9 hb9 hg9 hor9)
   go_roundw
   case rel => exact ⟨i + 1, k + 1, A2, p2, by omega, by have := HKE.out; omega, rfl, by go_num, HW2, by rw [HRN.out]; exact HR2⟩
   case measure => simp [intOf]; omega
  ·obtain rfl : i = n := by omega
   have q0 : decide ((i : Int) < (i : Int)) = false := decide_eq_false (by omega)
   rw [List.take_of_length_le (by omega)] at HR
   have HK2 := Lib.hid hk2
   go_wp2_with fail
   exact hexit wr A k cp _ _ _ _ _ _ _ _ _ _ _ _ _ _ _ _ _ _ HK2 HB HR
theorem rfiles_any (w : World) (B : Nat) (hB : B ≤ w.heap.size) (nn next : Int) (hnn : 1 ≤ nn ∧ nn ≤ 999999999) (A : Option Addr) (n c : Nat) (l : List Sg) (h : SegsIn w B A n l) (hok : PtOk next l) :
  Calls Tryz.prog 16 #[.int .i64 nn, .agg #[.int .i64 next, .slice A n c]] w fun e w' => ∃ A' k c', e = .returned (.slice A' k c') ∧ k ≤ 2000000000 ∧ Sl w' w'.heap.size 1 A' k (((filesZ nn l).map bs).map .string) ∧ Below w.heap.size w w' := by
 have HS := Lib.hid h
 have HOK := Lib.hid hok
 have hlen := h.2
 have hl9 := ptOk_len hok
 have HU : Hid (∀ s ∈ l, s.gen ≤ 999999999) := fun s hs => by
  have h1 := ((segsOk_up (Int.le_refl 0) hok.2.2).2 s hs).2.2.2
  have h2 := hok.2.1
  omega
 obtain ⟨W1, hW1⟩ : ∃ W1, w.alloc (.cells #[.int .i64 next, .slice A n c] 24) = W1 := ⟨_, rfl⟩
 have hx : W1.heap[w.heap.size]? = some (.cells #[.int .i64 next, .slice A n c] 24 (0, 0)) := by rw [← hW1]; exact heap_alloc_new _ _
 have hs1 : W1.heap.size = w.heap.size + 1 := by rw [← hW1]; simp
 have HX : Hid (∀ V, Below (w.heap.size + 1) W1 V → V.cell? ⟨w.heap.size, 1, none⟩ = some (.slice A n c)) := fun V hv => by
  obtain ⟨k0, k1, _, _⟩ := cells2 ((hv.block _ (by omega)).trans hx)
  exact k1
 have HWE := Lib.hid hW1
 have HB : Hid (Below w.heap.size w W1 ∧ w.heap.size + 1 ≤ W1.heap.size) := by
  show _ ∧ _
  rw [hs1, ← hW1]
  exact ⟨bnew (brefl w) _, Nat.le_refl _⟩
 have HNN := Lib.hid hnn
 clear hx hW1 hs1 h hok hnn
 go_enter Tryz.func16, Tryz.ntmps16
 go_wp2_with fail
 rw [HWE.out]
 refine rfiles_o w W1 B hB A n c l HS (by omega) HU w.heap.size HX HB _ _ _ _ _ _ _ _ _ _ _ _ _ _ _ _ _ _ _ _ _ _ _ _ _ _ _ _ _ _ _ _ _ _ _ _ _ _ _ _ _ _ _ _ _ _ _ _ _ _ _ _ _ _ _ _ _ _ _ _ _ _ _ _ _ _ (fun c a a' w hd h => by cases a; cases a'; cases hd; exact h) ?_
 intro V last G A1 m1 c1 x6 u7 u8 u9 u11 u12 u13 u14 u15 u16 u17 u18 u19 u20 u21 u22 u23 u24 u25 u26 u27 u28 u29 u30 u31 u32 u33 u34 u35 u36 u37 u38 u39 u40 u41 u42 u43 u44 HM9 HG HBV HRV
 have HN : Hid (∀ V, Calls Tryz.prog 13 #[.int .u8 112, .int .i64 nn] V fun e w' => e = .returned (.string ⟨(nameP 112 nn).toArray⟩) ∧ Below V.heap.size V w') := fun V => rname_any V 112 nn
 have hbs := HBV.out.size
 have hws := HB.out.2
 have hm9 := HM9.out
 go_wp2_with fail
 refine (HN.out _).mono ?_
 rintro e w1 ⟨rfl, hb1⟩
 have HB1 := Lib.hid (HBV.out.trans (hb1.mono (by omega)))
 have HR1 := Lib.hid (own_kept HRV.out hb1)
 have hs1 := hb1.size
 clear hb1
 go_wp2_with (at_builtin; refine wpList_pushm W1 w1 _ rfl _ _ _ rfl el_strs _ _ _ rfl HR1.out (m := 1) rfl (by simp) rfl (by simp [Value.oneCell']) (by unfold maxLen; omega) (by omega) (by omega) HB1.out ?_; intro v2 w2 hown9 hb9 hg9 hor9; obtain ⟨A2, p2, rfl, _⟩ := own_shape hown9; have HR2 := Lib.hid hown9; have HW2 := Lib.hid hb9; clear hown9 hb9 hg9 hor9)
 have HR3 : Hid (w2.ownsRow (w.heap.size + 1) 9 1 (.slice A2 (m1 + 1) p2) (m1 + 1) ((G.map (nameP 100) ++ [nameP 112 nn]).map encStr)) := by
  have e : (G.map (nameP 100) ++ [nameP 112 nn]).map encStr = (G.map (nameP 100)).map encStr ++ [.string ⟨(nameP 112 nn).toArray⟩] := by simp [encStr]
  show World.ownsRow _ _ _ _ _ _ _
  rw [e]
  exact HR2.out
 refine rfiles_s w w2 B hB A n c l HS (by omega) w.heap.size (Lib.hid fun V hv => HX.out V (HW2.out.trans hv)) (Lib.hid ⟨HB.out.1.trans (HW2.out.mono (Nat.le_succ _)), Nat.le_trans hws HW2.out.size⟩) A2 (m1 + 1) p2 (by omega) _ HR3 _ _ _ _ _ _ _ _ _ _ _ _ _ _ _ _ _ _ _ _ _ _ _ _ _ _ _ _ _ _ _ _ _ _ _ _ _ _ _ _ _ _ _ _ _ _ _ _ _ _ _ _ _ _ _ _ _ _ _ _ _ _ _ _ _ _ (fun c a a' w hd h => by cases a; cases a'; cases hd; exact h) ?_
 intro V2 A3 k3 c3 x10 u50 u51 u52 u53 u54 u55 u56 u57 u58 u59 u60 u61 u62 u63 u64 u65 u66 HK3 HB3 HR4
 have HE := Lib.hid (filesQ_eq HOK.out HNN.out HG.out.1 HG.out.2)
 go_wp2_with fail
 go_ret
 refine ⟨A3, k3, c3, rfl, HK3.out, ?_, HB.out.1.trans ((HW2.out.trans HB3.out).mono (Nat.le_succ _))⟩
 rw [← HE.out]
 exact own_sl HR4.out
end Go.Proofs.YtkhemhiifhggmaaGreatDoor
namespace Go.Proofs.YtkhemhiifhggmaaGreatDoor
open Go.RowKit Go.Maps
set_option linter.unusedVariables false
theorem lastOf_pos {next : Int} : ∀ {l : List Sg} {x : Int}, 0 ≤ x → segsOk next x l → 0 ≤ lastOf x l
 | [], _, h, _ => h
 | s :: r, x, h, hs => lastOf_pos (x := s.id) (by have := hs.1.1; omega) hs.2
theorem rcheck_o (w W0 : World) (B : Nat) (hB : B ≤ w.heap.size) (A : Option Addr) (n c : Nat) (l : List Sg) (HS : Hid (SegsIn w B A n l)) (hn : n ≤ 4398046511104) (next : Int) (pb : Nat) (hpb : w.heap.size = pb)
  (HP : Hid (∀ W, Below (w.heap.size + 1) W0 W → W.cell? ⟨pb, 0, none⟩ = some (.int .i64 next) ∧ W.cell? ⟨pb, 1, none⟩ = some (.slice A n c))) (HW : Hid (Below w.heap.size w W0 ∧ w.heap.size + 1 ≤ W0.heap.size))
  (c0 c5 c6 c7 c8 c9 c10 c11 c12 u2 u4 u13 u14 u15 u16 u17 u18 u19 u20 u21 u22 u23 u24 u25 u26 u27 u28 u29 u30 u31 u32 u33 u34 u35 u36 u37 u38 u39 u40 u41 u42 u43 u44 u45 u46 u47 u48 u49 u50 u51 u52 u53 u54 u55 u56 u57 u58 u59 u60 u61 u62 u63 u64 u65 u66 u67 u68 u69 u70 u71 u72 u73 u74 u75 u76 u77 u78 u79 u80 u81 u82 u83 u84 u85 u86 u87 u88 u89 u90 u91 u92 u93 u94 u95 u96 u97 : Value) (Q0 : Exit → Act → World → Prop) (hQ0 : ∀ c (a a' : Act) w, a.defers = a'.defers → Q0 (.panic c) a w → Q0 (.panic c) a' w)
  (hret : ∀ (W : World) (x3 u4 u13 u14 u15 u16 u17 u18 u19 u20 u21 u22 u23 u24 u25 u26 u27 u28 u29 u30 u31 u32 u33 u34 u35 u36 u37 u38 u39 u40 u41 u42 u43 u44 u45 u46 u47 u48 u49 u50 u51 u52 u53 u54 u55 u56 u57 u58 u59 u60 u61 u62 u63 u64 u65 u66 u67 u68 u69 u70 u71 u72 u73 u74 u75 u76 u77 u78 u79 u80 u81 u82 u83 u84 u85 u86 u87 u88 u89 u90 u91 u92 u93 u94 u95 u96 u97 : Value), Hid (Below w.heap.size w W) → Hid (¬ segsOk next 0 l) → Q0 .ret ⟨List.toArray (c0 :: .pointer (some ⟨pb, 0, none⟩) :: .int .i64 1 :: x3 :: u4 :: c5 :: c6 :: c7 :: c8 :: c9 :: c10 :: c11 :: c12 :: u13 :: u14 :: u15 :: u16 :: u17 :: u18 :: u19 :: u20 :: u21 :: u22 :: u23 :: u24 :: u25 :: u26 :: u27 :: u28 :: u29 :: u30 :: u31 :: u32 :: u33 :: u34 :: u35 :: u36 :: u37 :: u38 :: u39 :: u40 :: u41 :: u42 :: u43 :: u44 :: u45 :: u46 :: u47 :: u48 :: u49 :: u50 :: u51 :: u52 :: u53 :: u54 :: u55 :: u56 :: u57 :: u58 :: u59 :: u60 :: u61 :: u62 :: u63 :: u64 :: u65 :: u66 :: u67 :: u68 :: u69 :: u70 :: u71 :: u72 :: u73 :: u74 :: u75 :: u76 :: u77 :: u78 :: u79 :: u80 :: u81 :: u82 :: u83 :: u84 :: u85 :: u86 :: u87 :: u88 :: u89 :: u90 :: u91 :: u92 :: u93 :: u94 :: u95 :: u96 :: u97 :: []), []⟩ W)
  (hexit : ∀ (W : World) (x3 u2 u4 u13 u14 u15 u16 u17 u18 u19 u20 u21 u22 u23 u24 u25 u26 u27 u28 u29 u30 u31 u32 u33 u34 u35 u36 u37 u38 u39 u40 u41 u42 u43 u44 u45 u46 u47 u48 u49 u50 u51 u52 u53 u54 u55 u56 u57 u58 u59 u60 u61 u62 u63 u64 u65 u66 u67 u68 u69 u70 u71 u72 u73 u74 u75 u76 u77 u78 u79 u80 u81 u82 u83 u84 u85 u86 u87 u88 u89 u90 u91 u92 u93 u94 u95 u96 u97 : Value), Hid (Below w.heap.size w W) → Hid (segsOk next 0 l) → Q0 (.exit 0) ⟨List.toArray (c0 :: .pointer (some ⟨pb, 0, none⟩) :: u2 :: x3 :: u4 :: c5 :: c6 :: c7 :: c8 :: c9 :: c10 :: c11 :: c12 :: u13 :: u14 :: u15 :: u16 :: u17 :: u18 :: u19 :: u20 :: u21 :: u22 :: u23 :: u24 :: u25 :: u26 :: u27 :: u28 :: u29 :: u30 :: u31 :: u32 :: u33 :: u34 :: u35 :: u36 :: u37 :: u38 :: u39 :: u40 :: u41 :: u42 :: u43 :: u44 :: u45 :: u46 :: u47 :: u48 :: u49 :: u50 :: u51 :: u52 :: u53 :: u54 :: u55 :: u56 :: u57 :: u58 :: u59 :: u60 :: u61 :: u62 :: u63 :: u64 :: u65 :: u66 :: u67 :: u68 :: u69 :: u70 :: u71 :: u72 :: u73 :: u74 :: u75 :: u76 :: u77 :: u78 :: u79 :: u80 :: u81 :: u82 :: u83 :: u84 :: u85 :: u86 :: u87 :: u88 :: u89 :: u90 :: u91 :: u92 :: u93 :: u94 :: u95 :: u96 :: u97 :: []), []⟩ W) :
  Code.wp Tryz.prog (.loop (loopOf Tryz.f11 0)) Q0 ⟨List.toArray (c0 :: .pointer (some ⟨pb, 0, none⟩) :: u2 :: .int .i64 (0 : Int) :: u4 :: c5 :: c6 :: c7 :: c8 :: c9 :: c10 :: c11 :: c12 :: u13 :: u14 :: u15 :: u16 :: u17 :: u18 :: u19 :: u20 :: u21 :: u22 :: u23 :: u24 :: u25 :: u26 :: u27 :: u28 :: u29 :: u30 :: u31 :: u32 :: u33 :: u34 :: u35 :: u36 :: u37 :: u38 :: u39 :: u40 :: u41 :: u42 :: u43 :: u44 :: u45 :: u46 :: u47 :: u48 :: u49 :: u50 :: u51 :: u52 :: u53 :: u54 :: u55 :: u56 :: u57 :: u58 :: u59 :: u60 :: u61 :: u62 :: u63 :: u64 :: u65 :: u66 :: u67 :: u68 :: u69 :: u70 :: u71 :: u72 :: u73 :: u74 :: u75 :: u76 :: u77 :: u78 :: u79 :: u80 :: u81 :: u82 :: u83 :: u84 :: u85 :: u86 :: u87 :: u88 :: u89 :: u90 :: u91 :: u92 :: u93 :: u94 :: u95 :: u96 :: u97 :: []), []⟩ W0 := by
 have hlen := HS.out.2
 conv => arg 2; arg 1; whnf
 go_loopw [3] (fun iv wr => ∃ i : Nat, i ≤ n ∧ iv = .int .i64 (i : Int) ∧ Hid (Below (w.heap.size + 1) W0 wr) ∧ Hid (segsOk next 0 (l.take i))) (fun iv _ => n - (intOf iv).toNat)
 case atStart => exact ⟨0, Nat.zero_le _, rfl, Lib.hid ((brefl W0).mono HW.out.2), Lib.hid trivial⟩
 case round =>
  obtain ⟨i, hi, rfl, HB, HI⟩ := hrel
  have hbs := HB.out.size
  have hws := HW.out.2
  have HBW : Hid (Below w.heap.size w wr) := HW.out.1.trans (HB.out.mono (by omega))
  obtain ⟨hpw, hpw1⟩ := HP.out wr HB.out
  by_cases hin : i < n
  ·obtain ⟨s, hs⟩ : ∃ s, l[i]? = some s := ⟨l[i]'(by omega), List.getElem?_eq_getElem _⟩
   have HSW := Lib.hid (HS.out.keep (HBW.out.mono hB))
   obtain ⟨b, off, rfl, hb, c0, c1, c2, c3⟩ := HSW.out.at_ hs
   have q0 : decide ((i : Int) < (n : Int)) = true := decide_eq_true (by omega)
   have HTK : Hid (l.take (i + 1) = l.take i ++ [s]) := by show _ = _; rw [List.take_add_one, hs]; rfl
   have HSPL : Hid (l = l.take (i + 1) ++ l.drop (i + 1)) := (List.take_append_drop ..).symm
   obtain ⟨LO, hLO⟩ : ∃ LO, lastOf 0 (l.take i) = LO := ⟨_, rfl⟩
   have HLO := Lib.hid hLO
   obtain ⟨id, docs, gen, gone⟩ := s
   simp only at c0 c1 c2 c3
   obtain ⟨W1, hW1⟩ : ∃ W1, wr.alloc (.cells #[.int .i64 id, .int .i64 docs, .int .i64 gen, .int .i64 gone] 61) = W1 := ⟨_, rfl⟩
   have hba : Below wr.heap.size wr W1 := by rw [← hW1]; exact bnew (brefl wr) _
   have hx1 : W1.heap[wr.heap.size]? = some (.cells #[.int .i64 id, .int .i64 docs, .int .i64 gen, .int .i64 gone] 61 (0, 0)) := by rw [← hW1]; exact heap_alloc_new _ _
   have HBN : Hid (Below (w.heap.size + 1) W0 W1) := HB.out.trans (hba.mono (by omega))
   have HBA2 := Lib.hid (HBW.out.trans (hba.mono HBW.out.size))
   have s0 := cell_of_row W1 wr.heap.size 0 _ _ (0, 0) hx1
   have s1 := cell_of_row W1 wr.heap.size 1 _ _ (0, 0) hx1
   have s2 := cell_of_row W1 wr.heap.size 2 _ _ (0, 0) hx1
   have s3 := cell_of_row W1 wr.heap.size 3 _ _ (0, 0) hx1
   simp at s0 s1 s2 s3
   obtain ⟨k0, k1⟩ := HP.out W1 HBN.out
   have HBAD : Hid (¬ Sg.ok next LO ⟨id, docs, gen, gone⟩ → ¬ segsOk next 0 l) := fun hno hall => hno (by
    rw [HSPL.out, HTK.out, List.append_assoc, segsOk_append] at hall
    have h2 := hall.2
    rw [HLO.out] at h2
    exact h2.1)
   have hlo0 : 0 ≤ LO := by
    rw [← hLO]
    exact lastOf_pos (Int.le_refl _) HI.out
   have HWE := Lib.hid hW1
   clear hs hW1 hba hx1
   by_cases h00 : i = 0
   ·have pi : decide (0 < i) = false := decide_eq_false (by omega)
    have hLO0 : LO = 0 := by rw [← hLO, h00]; rfl
    subst hLO0
    have H00 := Lib.hid h00
    clear hLO h00
    by_cases h0 : id < 1
    ·have p0 : decide (id < 1) = true := decide_eq_true h0
     have HNO := HBAD.out (fun h => by unfold Sg.ok at h; simp only at h; omega)
     have HNO := Lib.hid HNO
     clear h0 hexit
     go_wp2_with fail
     rw [HWE.out]
     go_quiet (fail)
     go_wp2_with fail
     exact hret _ _ _ _ _ _ _ _ _ _ _ _ _ _ _ _ _ _ _ _ _ _ _ _ _ _ _ _ _ _ _ _ _ _ _ _ _ _ _ _ _ _ _ _ _ _ _ _ _ _ _ _ _ _ _ _ _ _ _ _ _ _ _ _ _ _ _ _ _ _ _ _ _ _ _ _ _ _ _ _ _ _ _ _ _ _ _ _ (Lib.hid (below_drewN HBA2.out nq)) HNO
    have p0 : decide (id < 1) = false := decide_eq_false h0
    by_cases h1 : id ≥ next
    ·have p1 : decide (id ≥ next) = true := decide_eq_true h1
     have HNO := HBAD.out (fun h => by unfold Sg.ok at h; simp only at h; omega)
     have HNO := Lib.hid HNO
     clear h1 hexit
     go_wp2_with fail
     rw [HWE.out]
     go_quiet (fail)
     go_wp2_with fail
     exact hret _ _ _ _ _ _ _ _ _ _ _ _ _ _ _ _ _ _ _ _ _ _ _ _ _ _ _ _ _ _ _ _ _ _ _ _ _ _ _ _ _ _ _ _ _ _ _ _ _ _ _ _ _ _ _ _ _ _ _ _ _ _ _ _ _ _ _ _ _ _ _ _ _ _ _ _ _ _ _ _ _ _ _ _ _ _ _ _ (Lib.hid (below_drewN HBA2.out nq)) HNO
    have p1 : decide (id ≥ next) = false := decide_eq_false h1
    by_cases h2 : docs < 1
    ·have p2 : decide (docs < 1) = true := decide_eq_true h2
     have HNO := HBAD.out (fun h => by unfold Sg.ok at h; simp only at h; omega)
     have HNO := Lib.hid HNO
     clear h2 hexit
     go_wp2_with fail
     rw [HWE.out]
     go_quiet (fail)
     go_wp2_with fail
     exact hret _ _ _ _ _ _ _ _ _ _ _ _ _ _ _ _ _ _ _ _ _ _ _ _ _ _ _ _ _ _ _ _ _ _ _ _ _ _ _ _ _ _ _ _ _ _ _ _ _ _ _ _ _ _ _ _ _ _ _ _ _ _ _ _ _ _ _ _ _ _ _ _ _ _ _ _ _ _ _ _ _ _ _ _ _ _ _ _ (Lib.hid (below_drewN HBA2.out nq)) HNO
    have p2 : decide (docs < 1) = false := decide_eq_false h2
    by_cases h3 : docs > 1048576
    ·have p3 : decide (docs > 1048576) = true := decide_eq_true h3
     have HNO := HBAD.out (fun h => by unfold Sg.ok at h; simp only at h; omega)
     have HNO := Lib.hid HNO
     clear h3 hexit
     go_wp2_with fail
     rw [HWE.out]
     go_quiet (fail)
     go_wp2_with fail
     exact hret _ _ _ _ _ _ _ _ _ _ _ _ _ _ _ _ _ _ _ _ _ _ _ _ _ _ _ _ _ _ _ _ _ _ _ _ _ _ _ _ _ _ _ _ _ _ _ _ _ _ _ _ _ _ _ _ _ _ _ _ _ _ _ _ _ _ _ _ _ _ _ _ _ _ _ _ _ _ _ _ _ _ _ _ _ _ _ _ (Lib.hid (below_drewN HBA2.out nq)) HNO
    have p3 : decide (docs > 1048576) = false := decide_eq_false h3
    by_cases h4 : gone < 0
    ·have p4 : decide (gone < 0) = true := decide_eq_true h4
     have HNO := HBAD.out (fun h => by unfold Sg.ok at h; simp only at h; omega)
     have HNO := Lib.hid HNO
     clear h4 hexit
     go_wp2_with fail
     rw [HWE.out]
     go_quiet (fail)
     go_wp2_with fail
     exact hret _ _ _ _ _ _ _ _ _ _ _ _ _ _ _ _ _ _ _ _ _ _ _ _ _ _ _ _ _ _ _ _ _ _ _ _ _ _ _ _ _ _ _ _ _ _ _ _ _ _ _ _ _ _ _ _ _ _ _ _ _ _ _ _ _ _ _ _ _ _ _ _ _ _ _ _ _ _ _ _ _ _ _ _ _ _ _ _ (Lib.hid (below_drewN HBA2.out nq)) HNO
    have p4 : decide (gone < 0) = false := decide_eq_false h4
    by_cases h5 : gone > docs
    ·have p5 : decide (gone > docs) = true := decide_eq_true h5
     have HNO := HBAD.out (fun h => by unfold Sg.ok at h; simp only at h; omega)
     have HNO := Lib.hid HNO
     clear h5 hexit
     go_wp2_with fail
     rw [HWE.out]
     go_quiet (fail)
     go_wp2_with fail
     exact hret _ _ _ _ _ _ _ _ _ _ _ _ _ _ _ _ _ _ _ _ _ _ _ _ _ _ _ _ _ _ _ _ _ _ _ _ _ _ _ _ _ _ _ _ _ _ _ _ _ _ _ _ _ _ _ _ _ _ _ _ _ _ _ _ _ _ _ _ _ _ _ _ _ _ _ _ _ _ _ _ _ _ _ _ _ _ _ _ (Lib.hid (below_drewN HBA2.out nq)) HNO
    have p5 : decide (gone > docs) = false := decide_eq_false h5
    by_cases o0 : gone = 0
    ·by_cases g0 : gen = 0
     ·have p8 : (gone == 0) = true := by simpa using o0
      have p9 : (gen != 0) = false := by simpa using g0
      have p10 : decide (gone > 0) = false := decide_eq_false (by omega)
      have HOK : Hid (segsOk next 0 (l.take (i + 1))) := by
       show segsOk _ _ _
       rw [HTK.out, segsOk_append, HLO.out]
       refine ⟨HI.out, ?_, trivial⟩
       unfold Sg.ok
       simp only
       omega
      clear hret hexit
      clear o0 g0
      go_wp2_with fail
      rw [HWE.out]
      go_quiet (fail)
      go_wp2_with fail
      skip
      all_goals
       go_roundw
       case rel => exact ⟨i + 1, by omega, by go_num, below_drewN HBN.out nq, HOK⟩
       case measure => simp [intOf]; omega
     ·have p8 : (gone == 0) = true := by simpa using o0
      have p9 : (gen != 0) = true := by simpa using g0
      have HNO := Lib.hid (HBAD.out (fun h => by unfold Sg.ok at h; simp only at h; omega))
      clear hexit
      clear o0 g0
      go_wp2_with fail
      rw [HWE.out]
      go_quiet (fail)
      go_wp2_with fail
      skip
      all_goals exact hret _ _ _ _ _ _ _ _ _ _ _ _ _ _ _ _ _ _ _ _ _ _ _ _ _ _ _ _ _ _ _ _ _ _ _ _ _ _ _ _ _ _ _ _ _ _ _ _ _ _ _ _ _ _ _ _ _ _ _ _ _ _ _ _ _ _ _ _ _ _ _ _ _ _ _ _ _ _ _ _ _ _ _ _ _ _ _ _ (Lib.hid (below_drewN HBA2.out nq)) HNO
    ·have p8 : (gone == 0) = false := by simpa using o0
     have p10 : decide (gone > 0) = true := decide_eq_true (by omega)
     by_cases g1 : gen < 1
     ·have p11 : decide (gen < 1) = true := decide_eq_true g1
      have HNO := Lib.hid (HBAD.out (fun h => by unfold Sg.ok at h; simp only at h; omega))
      clear hexit
      clear o0 g1
      go_wp2_with fail
      rw [HWE.out]
      go_quiet (fail)
      go_wp2_with fail
      skip
      all_goals exact hret _ _ _ _ _ _ _ _ _ _ _ _ _ _ _ _ _ _ _ _ _ _ _ _ _ _ _ _ _ _ _ _ _ _ _ _ _ _ _ _ _ _ _ _ _ _ _ _ _ _ _ _ _ _ _ _ _ _ _ _ _ _ _ _ _ _ _ _ _ _ _ _ _ _ _ _ _ _ _ _ _ _ _ _ _ _ _ _ (Lib.hid (below_drewN HBA2.out nq)) HNO
     ·by_cases g2 : gen ≥ next
      ·have p11 : decide (gen < 1) = false := decide_eq_false g1
       have p12 : decide (gen ≥ next) = true := decide_eq_true g2
       have HNO := Lib.hid (HBAD.out (fun h => by unfold Sg.ok at h; simp only at h; omega))
       clear hexit
       clear o0 g1 g2
       go_wp2_with fail
       rw [HWE.out]
       go_quiet (fail)
       go_wp2_with fail
       skip
       all_goals exact hret _ _ _ _ _ _ _ _ _ _ _ _ _ _ _ _ _ _ _ _ _ _ _ _ _ _ _ _ _ _ _ _ _ _ _ _ _ _ _ _ _ _ _ _ _ _ _ _ _ _ _ _ _ _ _ _ _ _ _ _ _ _ _ _ _ _ _ _ _ _ _ _ _ _ _ _ _ _ _ _ _ _ _ _ _ _ _ _ (Lib.hid (below_drewN HBA2.out nq)) HNO
      ·have p11 : decide (gen < 1) = false := decide_eq_false g1
       have p12 : decide (gen ≥ next) = false := decide_eq_false g2
       have HOK : Hid (segsOk next 0 (l.take (i + 1))) := by
        show segsOk _ _ _
        rw [HTK.out, segsOk_append, HLO.out]
        refine ⟨HI.out, ?_, trivial⟩
        unfold Sg.ok
        simp only
        omega
       clear hret hexit
       clear o0 g1 g2
       go_wp2_with fail
       rw [HWE.out]
       go_quiet (fail)
       go_wp2_with fail
       skip
       all_goals
        go_roundw
        case rel => exact ⟨i + 1, by omega, by go_num, below_drewN HBN.out nq, HOK⟩
        case measure => simp [intOf]; omega
   ·obtain ⟨j, rfl⟩ : ∃ j, i = j + 1 := ⟨i - 1, by omega⟩
    have pi : decide (((j + 1 : Nat) : Int) > 0) = true := decide_eq_true (by omega)
    obtain ⟨s', hs'⟩ : ∃ s', l[j]? = some s' := ⟨l[j]'(by omega), List.getElem?_eq_getElem _⟩
    have hlo : s'.id = LO := by rw [← hLO, List.take_add_one, hs']; exact (lastOf_snoc _ _ _).symm
    obtain ⟨b', off', e', _, d0, _, _, _⟩ := (HS.out.keep (HBA2.out.mono hB)).at_ hs'
    injection e' with e'
    injection e' with e1 e2
    subst e1 e2
    rw [hlo] at d0
    have ij1 : ((j : Int) + 1) - 1 = (j : Int) := by omega
    have ij2 : wrap64 ((j : Int) + 1 - 1) = (j : Int) := by rw [ij1]; unfold wrap64; omega
    clear hs' hlo hLO
    by_cases h0 : id < 1
    ·have p0 : decide (id < 1) = true := decide_eq_true h0
     have HNO := HBAD.out (fun h => by unfold Sg.ok at h; simp only at h; omega)
     have HNO := Lib.hid HNO
     clear h0 hexit
     go_wp2_with fail
     rw [HWE.out]
     go_quiet (fail)
     go_wp2_with fail
     exact hret _ _ _ _ _ _ _ _ _ _ _ _ _ _ _ _ _ _ _ _ _ _ _ _ _ _ _ _ _ _ _ _ _ _ _ _ _ _ _ _ _ _ _ _ _ _ _ _ _ _ _ _ _ _ _ _ _ _ _ _ _ _ _ _ _ _ _ _ _ _ _ _ _ _ _ _ _ _ _ _ _ _ _ _ _ _ _ _ (Lib.hid (below_drewN HBA2.out nq)) HNO
    have p0 : decide (id < 1) = false := decide_eq_false h0
    by_cases h1 : id ≥ next
    ·have p1 : decide (id ≥ next) = true := decide_eq_true h1
     have HNO := HBAD.out (fun h => by unfold Sg.ok at h; simp only at h; omega)
     have HNO := Lib.hid HNO
     clear h1 hexit
     go_wp2_with fail
     rw [HWE.out]
     go_quiet (fail)
     go_wp2_with fail
     exact hret _ _ _ _ _ _ _ _ _ _ _ _ _ _ _ _ _ _ _ _ _ _ _ _ _ _ _ _ _ _ _ _ _ _ _ _ _ _ _ _ _ _ _ _ _ _ _ _ _ _ _ _ _ _ _ _ _ _ _ _ _ _ _ _ _ _ _ _ _ _ _ _ _ _ _ _ _ _ _ _ _ _ _ _ _ _ _ _ (Lib.hid (below_drewN HBA2.out nq)) HNO
    have p1 : decide (id ≥ next) = false := decide_eq_false h1
    by_cases h2 : id ≤ LO
    ·have p2 : decide (id ≤ LO) = true := decide_eq_true h2
     have HNO := HBAD.out (fun h => by unfold Sg.ok at h; simp only at h; omega)
     have HNO := Lib.hid HNO
     clear h2 hexit
     go_wp2_with fail
     rw [HWE.out]
     go_quiet (fail)
     go_wp2_with fail
     exact hret _ _ _ _ _ _ _ _ _ _ _ _ _ _ _ _ _ _ _ _ _ _ _ _ _ _ _ _ _ _ _ _ _ _ _ _ _ _ _ _ _ _ _ _ _ _ _ _ _ _ _ _ _ _ _ _ _ _ _ _ _ _ _ _ _ _ _ _ _ _ _ _ _ _ _ _ _ _ _ _ _ _ _ _ _ _ _ _ (Lib.hid (below_drewN HBA2.out nq)) HNO
    have p2 : decide (id ≤ LO) = false := decide_eq_false h2
    by_cases h3 : docs < 1
    ·have p3 : decide (docs < 1) = true := decide_eq_true h3
     have HNO := HBAD.out (fun h => by unfold Sg.ok at h; simp only at h; omega)
     have HNO := Lib.hid HNO
     clear h3 hexit
     go_wp2_with fail
     rw [HWE.out]
     go_quiet (fail)
     go_wp2_with fail
     exact hret _ _ _ _ _ _ _ _ _ _ _ _ _ _ _ _ _ _ _ _ _ _ _ _ _ _ _ _ _ _ _ _ _ _ _ _ _ _ _ _ _ _ _ _ _ _ _ _ _ _ _ _ _ _ _ _ _ _ _ _ _ _ _ _ _ _ _ _ _ _ _ _ _ _ _ _ _ _ _ _ _ _ _ _ _ _ _ _ (Lib.hid (below_drewN HBA2.out nq)) HNO
    have p3 : decide (docs < 1) = false := decide_eq_false h3
    by_cases h4 : docs > 1048576
    ·have p4 : decide (docs > 1048576) = true := decide_eq_true h4
     have HNO := HBAD.out (fun h => by unfold Sg.ok at h; simp only at h; omega)
     have HNO := Lib.hid HNO
     clear h4 hexit
     go_wp2_with fail
     rw [HWE.out]
     go_quiet (fail)
     go_wp2_with fail
     exact hret _ _ _ _ _ _ _ _ _ _ _ _ _ _ _ _ _ _ _ _ _ _ _ _ _ _ _ _ _ _ _ _ _ _ _ _ _ _ _ _ _ _ _ _ _ _ _ _ _ _ _ _ _ _ _ _ _ _ _ _ _ _ _ _ _ _ _ _ _ _ _ _ _ _ _ _ _ _ _ _ _ _ _ _ _ _ _ _ (Lib.hid (below_drewN HBA2.out nq)) HNO
    have p4 : decide (docs > 1048576) = false := decide_eq_false h4
    by_cases h5 : gone < 0
    ·have p5 : decide (gone < 0) = true := decide_eq_true h5
     have HNO := HBAD.out (fun h => by unfold Sg.ok at h; simp only at h; omega)
     have HNO := Lib.hid HNO
     clear h5 hexit
     go_wp2_with fail
     rw [HWE.out]
     go_quiet (fail)
     go_wp2_with fail
     exact hret _ _ _ _ _ _ _ _ _ _ _ _ _ _ _ _ _ _ _ _ _ _ _ _ _ _ _ _ _ _ _ _ _ _ _ _ _ _ _ _ _ _ _ _ _ _ _ _ _ _ _ _ _ _ _ _ _ _ _ _ _ _ _ _ _ _ _ _ _ _ _ _ _ _ _ _ _ _ _ _ _ _ _ _ _ _ _ _ (Lib.hid (below_drewN HBA2.out nq)) HNO
    have p5 : decide (gone < 0) = false := decide_eq_false h5
    by_cases h6 : gone > docs
    ·have p6 : decide (gone > docs) = true := decide_eq_true h6
     have HNO := HBAD.out (fun h => by unfold Sg.ok at h; simp only at h; omega)
     have HNO := Lib.hid HNO
     clear h6 hexit
     go_wp2_with fail
     rw [HWE.out]
     go_quiet (fail)
     go_wp2_with fail
     exact hret _ _ _ _ _ _ _ _ _ _ _ _ _ _ _ _ _ _ _ _ _ _ _ _ _ _ _ _ _ _ _ _ _ _ _ _ _ _ _ _ _ _ _ _ _ _ _ _ _ _ _ _ _ _ _ _ _ _ _ _ _ _ _ _ _ _ _ _ _ _ _ _ _ _ _ _ _ _ _ _ _ _ _ _ _ _ _ _ (Lib.hid (below_drewN HBA2.out nq)) HNO
    have p6 : decide (gone > docs) = false := decide_eq_false h6
    by_cases o0 : gone = 0
    ·by_cases g0 : gen = 0
     ·have p8 : (gone == 0) = true := by simpa using o0
      have p9 : (gen != 0) = false := by simpa using g0
      have p10 : decide (gone > 0) = false := decide_eq_false (by omega)
      have HOK : Hid (segsOk next 0 (l.take (j + 1 + 1))) := by
       show segsOk _ _ _
       rw [HTK.out, segsOk_append, HLO.out]
       refine ⟨HI.out, ?_, trivial⟩
       unfold Sg.ok
       simp only
       omega
      clear hret hexit
      clear o0 g0
      go_wp2_with fail
      rw [HWE.out]
      go_quiet (fail)
      go_wp2_with fail
      skip
      all_goals
       go_roundw
       case rel => exact ⟨j + 1 + 1, by omega, by go_num, below_drewN HBN.out nq, HOK⟩
       case measure => simp [intOf]; omega
     ·have p8 : (gone == 0) = true := by simpa using o0
      have p9 : (gen != 0) = true := by simpa using g0
      have HNO := Lib.hid (HBAD.out (fun h => by unfold Sg.ok at h; simp only at h; omega))
      clear hexit
      clear o0 g0
      go_wp2_with fail
      rw [HWE.out]
      go_quiet (fail)
      go_wp2_with fail
      skip
      all_goals exact hret _ _ _ _ _ _ _ _ _ _ _ _ _ _ _ _ _ _ _ _ _ _ _ _ _ _ _ _ _ _ _ _ _ _ _ _ _ _ _ _ _ _ _ _ _ _ _ _ _ _ _ _ _ _ _ _ _ _ _ _ _ _ _ _ _ _ _ _ _ _ _ _ _ _ _ _ _ _ _ _ _ _ _ _ _ _ _ _ (Lib.hid (below_drewN HBA2.out nq)) HNO
    ·have p8 : (gone == 0) = false := by simpa using o0
     have p10 : decide (gone > 0) = true := decide_eq_true (by omega)
     by_cases g1 : gen < 1
     ·have p11 : decide (gen < 1) = true := decide_eq_true g1
      have HNO := Lib.hid (HBAD.out (fun h => by unfold Sg.ok at h; simp only at h; omega))
      clear hexit
      clear o0 g1
      go_wp2_with fail
      rw [HWE.out]
      go_quiet (fail)
      go_wp2_with fail
      skip
      all_goals exact hret _ _ _ _ _ _ _ _ _ _ _ _ _ _ _ _ _ _ _ _ _ _ _ _ _ _ _ _ _ _ _ _ _ _ _ _ _ _ _ _ _ _ _ _ _ _ _ _ _ _ _ _ _ _ _ _ _ _ _ _ _ _ _ _ _ _ _ _ _ _ _ _ _ _ _ _ _ _ _ _ _ _ _ _ _ _ _ _ (Lib.hid (below_drewN HBA2.out nq)) HNO
     ·by_cases g2 : gen ≥ next
      ·have p11 : decide (gen < 1) = false := decide_eq_false g1
       have p12 : decide (gen ≥ next) = true := decide_eq_true g2
       have HNO := Lib.hid (HBAD.out (fun h => by unfold Sg.ok at h; simp only at h; omega))
       clear hexit
       clear o0 g1 g2
       go_wp2_with fail
       rw [HWE.out]
       go_quiet (fail)
       go_wp2_with fail
       skip
       all_goals exact hret _ _ _ _ _ _ _ _ _ _ _ _ _ _ _ _ _ _ _ _ _ _ _ _ _ _ _ _ _ _ _ _ _ _ _ _ _ _ _ _ _ _ _ _ _ _ _ _ _ _ _ _ _ _ _ _ _ _ _ _ _ _ _ _ _ _ _ _ _ _ _ _ _ _ _ _ _ _ _ _ _ _ _ _ _ _ _ _ (Lib.hid (below_drewN HBA2.out nq)) HNO
      ·have p11 : decide (gen < 1) = false := decide_eq_false g1
       have p12 : decide (gen ≥ next) = false := decide_eq_false g2
       have HOK : Hid (segsOk next 0 (l.take (j + 1 + 1))) := by
        show segsOk _ _ _
        rw [HTK.out, segsOk_append, HLO.out]
        refine ⟨HI.out, ?_, trivial⟩
        unfold Sg.ok
        simp only
        omega
       clear hret hexit
       clear o0 g1 g2
       go_wp2_with fail
       rw [HWE.out]
       go_quiet (fail)
       go_wp2_with fail
       skip
       all_goals
        go_roundw
        case rel => exact ⟨j + 1 + 1, by omega, by go_num, below_drewN HBN.out nq, HOK⟩
        case measure => simp [intOf]; omega
  ·obtain rfl : i = n := by omega
   have q0 : decide ((i : Int) < (i : Int)) = false := decide_eq_false (by omega)
   rw [← hlen, List.take_length] at HI
   go_wp2_with fail
   exact hexit wr _ _ _ _ _ _ _ _ _ _ _ _ _ _ _ _ _ _ _ _ _ _ _ _ _ _ _ _ _ _ _ _ _ _ _ _ _ _ _ _ _ _ _ _ _ _ _ _ _ _ _ _ _ _ _ _ _ _ _ _ _ _ _ _ _ _ _ _ _ _ _ _ _ _ _ _ _ _ _ _ _ _ _ _ _ _ _ _ HBW HI
end Go.Proofs.YtkhemhiifhggmaaGreatDoor
namespace Go.Proofs.YtkhemhiifhggmaaGreatDoor
open Go.RowKit Go.Maps
set_option linter.unusedVariables false
theorem rcheck_any (w : World) (B : Nat) (hB : B ≤ w.heap.size) (A : Option Addr) (n c : Nat) (l : List Sg) (HS : Hid (SegsIn w B A n l)) (hn : n ≤ 4398046511104) (next : Int) :
  Calls Tryz.prog 11 #[.agg #[.int .i64 next, .slice A n c]] w fun e w' => e = .returned (.int .i64 (checkP next l)) ∧ Below w.heap.size w w' := by
 have hpb := bnew (brefl w) (.cells #[.int .i64 next, .slice A n c] 24)
 have hnw := heap_alloc_new w (.cells #[.int .i64 next, .slice A n c] 24)
 by_cases h1 : next < 1
 ·have p0 : decide (next < 1) = true := decide_eq_true h1
  have HC : Hid (checkP next l = 1) := if_neg (fun h => by have := h.1; omega)
  have HB := Lib.hid hpb
  clear hpb hnw h1
  go_enter Tryz.func11, Tryz.ntmps11
  go_wp2_with fail
  go_ret
  exact ⟨by rw [HC.out]; rfl, HB.out⟩
 ·have p0 : decide (next < 1) = false := decide_eq_false h1
  by_cases h2 : next > 999999999
  ·have p1 : decide (next > 999999999) = true := decide_eq_true h2
   have HC : Hid (checkP next l = 1) := if_neg (fun h => by have := h.2.1; omega)
   have HB := Lib.hid hpb
   clear hpb hnw h1 h2
   go_enter Tryz.func11, Tryz.ntmps11
   go_wp2_with fail
   go_ret
   exact ⟨by rw [HC.out]; rfl, HB.out⟩
  ·have p1 : decide (next > 999999999) = false := decide_eq_false h2
   have HB := Lib.hid hpb
   have HNW := Lib.hid hnw
   clear hpb hnw
   go_enter Tryz.func11, Tryz.ntmps11
   go_wp2_with fail
   refine rcheck_o w _ B hB A n c l HS hn next w.heap.size rfl ?_ ?_ _ _ _ _ _ _ _ _ _ _ _ _ _ _ _ _ _ _ _ _ _ _ _ _ _ _ _ _ _ _ _ _ _ _ _ _ _ _ _ _ _ _ _ _ _ _ _ _ _ _ _ _ _ _ _ _ _ _ _ _ _ _ _ _ _ _ _ _ _ _ _ _ _ _ _ _ _ _ _ _ _ _ _ _ _ _ _ _ _ _ _ _ _ _ _ _ _ (fun c a a' w hd h => by cases a; cases a'; cases hd; exact h) ?_ ?_
   ·refine Lib.hid fun W h => ⟨?_, ?_⟩
    ·exact (h.cell (p := ⟨w.heap.size, 0, none⟩) (by show w.heap.size < _; omega)).trans (by simp)
    ·exact (h.cell (p := ⟨w.heap.size, 1, none⟩) (by show w.heap.size < _; omega)).trans (by simp)
   ·exact Lib.hid ⟨HB.out, by simp⟩
   ·intro W x3 u4 u13 u14 u15 u16 u17 u18 u19 u20 u21 u22 u23 u24 u25 u26 u27 u28 u29 u30 u31 u32 u33 u34 u35 u36 u37 u38 u39 u40 u41 u42 u43 u44 u45 u46 u47 u48 u49 u50 u51 u52 u53 u54 u55 u56 u57 u58 u59 u60 u61 u62 u63 u64 u65 u66 u67 u68 u69 u70 u71 u72 u73 u74 u75 u76 u77 u78 u79 u80 u81 u82 u83 u84 u85 u86 u87 u88 u89 u90 u91 u92 u93 u94 u95 u96 u97 HBW HO
    have HC : Hid (checkP next l = 1) := if_neg (fun h => HO.out h.2.2)
    go_wp2_with fail
    go_ret
    exact ⟨by rw [HC.out]; rfl, HBW.out⟩
   ·intro W x3 u2 u4 u13 u14 u15 u16 u17 u18 u19 u20 u21 u22 u23 u24 u25 u26 u27 u28 u29 u30 u31 u32 u33 u34 u35 u36 u37 u38 u39 u40 u41 u42 u43 u44 u45 u46 u47 u48 u49 u50 u51 u52 u53 u54 u55 u56 u57 u58 u59 u60 u61 u62 u63 u64 u65 u66 u67 u68 u69 u70 u71 u72 u73 u74 u75 u76 u77 u78 u79 u80 u81 u82 u83 u84 u85 u86 u87 u88 u89 u90 u91 u92 u93 u94 u95 u96 u97 HBW HO
    have HC : Hid (checkP next l = 0) := if_pos ⟨by omega, by omega, HO.out⟩
    go_wp2_with fail
    go_ret
    exact ⟨by rw [HC.out]; rfl, HBW.out⟩
end Go.Proofs.YtkhemhiifhggmaaGreatDoor
