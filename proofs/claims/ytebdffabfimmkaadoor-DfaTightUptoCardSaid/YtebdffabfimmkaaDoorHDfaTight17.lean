/- Rows of the call's own, of one type, no two in one block. -/
import Derived.Test.YtebdffabfimmkaaDoorHDfaTight13
import Derived.Test.YtebdffabfimmkaaDoorHDfaTight10
import Derived.Test.YtebdffabfimmkaaDoorHDfaTight16
import Derived.Test.YtebdffabfimmkaaDoorHDfaTight14
import Derived.Test.YtebdffabfimmkaaDoorHDfaTight15
namespace Go.Proofs.YtebdffabfimmkaaDoor
open Go.RowKit

structure GRow where
  v : Value
  n : Nat
  xs : List Value
def GRow.nil : GRow := ⟨.slice none 0 0, 0, []⟩
def GRow.own (W : World) (base e s : Nat) (x : GRow) : Prop := W.ownsRow base e s x.v x.n x.xs
theorem GRow.own_nil (W : World) (base e s : Nat) : GRow.nil.own W base e s := ⟨by simp [GRow.nil], .inl ⟨rfl, rfl⟩⟩
/-- Two rows lie apart. -/
def GAp (x y : GRow) : Prop := x.v.ownBlock = none ∨ y.v.ownBlock = none ∨ x.v.ownBlock ≠ y.v.ownBlock
theorem GAp.symm {x y : GRow} (h : GAp x y) : GAp y x := by
  rcases h with h | h | h
  · exact .inr (.inl h)
  · exact .inl h
  · exact .inr (.inr fun e => h e.symm)
structure GFam (W : World) (base e s : Nat) (F : List GRow) : Prop where
  own : ∀ x ∈ F, x.own W base e s
  ap : F.Pairwise GAp
section
variable {W W2 : World} {base e s : Nat} {F a b : List GRow} {x y : GRow}
theorem GFam.below (h : GFam W base e s F) (hb : Below W.heap.size W W2) : GFam W2 base e s F := ⟨fun x hx => own_kept (h.own x hx) hb, h.ap⟩
theorem GAp.kept {x z : GRow} (h : GAp z x) : z.v.ownBlock = none ∨ z.v.ownBlock ≠ x.v.ownBlock := by
  rcases h with h | h | h
  · exact .inl h
  · cases hz : z.v.ownBlock with
    | none => exact .inl rfl
    | some g => exact .inr (by rw [h]; simp)
  · exact .inr h
theorem GFam.grow (h : GFam W base e s (a ++ x :: b)) (hg : W.grownBy W2 x.v.ownBlock) (hy : y.own W2 base e s) (hm : y.v.ownBlock = x.v.ownBlock ∨ ∃ g, y.v.ownBlock = some g ∧ W.heap.size ≤ g) : GFam W2 base e s (a ++ y :: b) := by
  obtain ⟨p1, p2, p3⟩ := List.pairwise_append.1 h.ap
  obtain ⟨p4, p5⟩ := List.pairwise_cons.1 p2
  have hzx : ∀ z, z ∈ a ∨ z ∈ b → GAp z x := fun z hz => by
    rcases hz with hz | hz
    · exact p3 z hz x (List.mem_cons_self ..)
    · exact (p4 z hz).symm
  have hown : ∀ z, z ∈ a ∨ z ∈ b → z.own W base e s := fun z hz => h.own z (by
    rcases hz with hz | hz
    · exact List.mem_append_left _ hz
    · exact List.mem_append_right _ (List.mem_cons_of_mem _ hz))
  have hzy : ∀ z, z ∈ a ∨ z ∈ b → GAp z y := fun z hz => by
    rcases hm with hm | ⟨g, hm, hgs⟩
    · have := hzx z hz
      unfold GAp at this ⊢
      rw [hm]
      exact this
    · cases hzb : z.v.ownBlock with
      | none => exact .inl hzb
      | some k =>
        refine .inr (.inr ?_)
        rw [hzb, hm]
        intro e
        injection e with e
        have := (World.ownsRow.lt (hown z hz) k hzb).2
        omega
  refine ⟨fun z hz => ?_, List.pairwise_append.2 ⟨p1, List.pairwise_cons.2 ⟨fun z hz => (hzy z (.inr hz)).symm, p5⟩, fun z hz u hu => ?_⟩⟩
  · rcases List.mem_append.1 hz with hz | hz
    · exact World.ownsRow.kept (hown z (.inl hz)) hg (hzx z (.inl hz)).kept
    · rcases List.mem_cons.1 hz with rfl | hz
      · exact hy
      · exact World.ownsRow.kept (hown z (.inr hz)) hg (hzx z (.inr hz)).kept
  · rcases List.mem_cons.1 hu with rfl | hu
    · exact hzy z (.inl hz)
    · exact p3 z hz u (List.mem_cons_of_mem _ hu)
/-- The row ahead grows. -/
theorem GFam.head (h : GFam W base e s (x :: F)) (hg : W.grownBy W2 x.v.ownBlock) (hy : y.own W2 base e s) (hm : y.v.ownBlock = x.v.ownBlock ∨ ∃ g, y.v.ownBlock = some g ∧ W.heap.size ≤ g) : GFam W2 base e s (y :: F) := GFam.grow (a := []) h hg hy hm
/-- What grows another row, or changes another block, keeps them. -/
theorem GFam.kept {row : Option Nat} (h : GFam W base e s F) (hg : W.grownBy W2 row) (hn : ∀ x ∈ F, x.v.ownBlock = none ∨ x.v.ownBlock ≠ row) : GFam W2 base e s F := ⟨fun x hx => World.ownsRow.kept (h.own x hx) hg (hn x hx), h.ap⟩
theorem GFam.nil (W : World) (base e s : Nat) : GFam W base e s [] := ⟨fun _ hx => absurd hx List.not_mem_nil, List.Pairwise.nil⟩
/-- A row that is nothing yet. -/
theorem GFam.cons_nil (h : GFam W base e s F) : GFam W base e s (GRow.nil :: F) := ⟨fun x hx => by
  rcases List.mem_cons.1 hx with rfl | hx
  · exact GRow.own_nil _ _ _ _
  · exact h.own x hx, List.pairwise_cons.2 ⟨fun z _ => .inl rfl, h.ap⟩⟩
/-- The row ahead is put behind the others. -/
theorem GFam.turn (h : GFam W base e s (x :: F)) : GFam W base e s (F ++ [x]) := by
  obtain ⟨h1, h2⟩ := List.pairwise_cons.1 h.ap
  refine ⟨fun z hz => h.own z ?_, List.pairwise_append.2 ⟨h2, List.pairwise_singleton _ _, fun z hz u hu => ?_⟩⟩
  · rcases List.mem_append.1 hz with hz | hz
    · exact List.mem_cons_of_mem _ hz
    · rw [List.mem_singleton.1 hz]; exact List.mem_cons_self ..
  · rw [List.mem_singleton.1 hu]
    exact (h1 z hz).symm
theorem GFam.tail (h : GFam W base e s (x :: F)) : GFam W base e s F := ⟨fun z hz => h.own z (List.mem_cons_of_mem _ hz), (List.pairwise_cons.1 h.ap).2⟩
end
theorem own_types' {w : World} {b1 b2 e1 e2 s1 s2 n1 n2 : Nat} {v1 v2 : Value} {x1 x2 : List Value} (h1 : w.ownsRow b1 e1 s1 v1 n1 x1) (h2 : w.ownsRow b2 e2 s2 v2 n2 x2) (he : e2 ≠ e1) : v2.ownBlock = none ∨ v2.ownBlock ≠ v1.ownBlock := own_types h1 h2 fun e => he e.symm
/-- A row that a call has made. -/
theorem GFam.fresh {W W2 : World} {base e s : Nat} {F : List GRow} {y : GRow} (h : GFam W base e s F) (hb : Below W.heap.size W W2) (hbase : base ≤ W.heap.size) (hy : y.own W2 W.heap.size e s) : GFam W2 base e s (y :: F) := by
  refine ⟨fun z hz => ?_, List.pairwise_cons.2 ⟨fun z hz => ?_, h.ap⟩⟩
  · rcases List.mem_cons.1 hz with rfl | hz
    · exact own_lower hy hbase
    · exact own_kept (h.own z hz) hb
  · have := own_apart (h.own z hz) hy (Nat.le_refl _)
    rcases this with h1 | h1
    · exact .inl h1
    · exact .inr (.inr h1)
/-- Two rows change places. -/
theorem GFam.swap {W : World} {base e s : Nat} {F : List GRow} {x y : GRow} (h : GFam W base e s (x :: y :: F)) : GFam W base e s (y :: x :: F) := by
  obtain ⟨h1, h2⟩ := List.pairwise_cons.1 h.ap
  obtain ⟨h3, h4⟩ := List.pairwise_cons.1 h2
  refine ⟨fun z hz => h.own z (by simp only [List.mem_cons] at hz ⊢; rcases hz with h | h | h <;> simp [h]), List.pairwise_cons.2 ⟨fun z hz => ?_, List.pairwise_cons.2 ⟨fun z hz => h1 z (List.mem_cons_of_mem _ hz), h4⟩⟩⟩
  rcases List.mem_cons.1 hz with rfl | hz
  · exact (h1 y (List.mem_cons_self ..)).symm
  · exact h3 z hz
/-- A block of a map is no block of cells. -/
theorem map_not_cells {H : Type} {W : World} {kb m k t : Nat} {f : Nat × Nat} {cs : Array Value} {kt : TypeId} {R : Value → Option (DataW H × List MemPlace)} {N : DataW H} (hm : W.ownsMap Tryd.prog kt R kb m N) (hk : W.heap[k]? = some (.cells cs t f)) : k ≠ kb := by
  intro e
  subst e
  obtain ⟨es, clock, hb, _⟩ := hm
  rw [hk] at hb
  cases hb
theorem row_not_map' {H : Type} {W : World} {b e s n kb m : Nat} {x : Value} {xs : List Value} {kt : TypeId} {R : Value → Option (DataW H × List MemPlace)} {N : DataW H} (h : W.ownsRow b e s x n xs) (hm : W.ownsMap Tryd.prog kt R kb m N) : x.ownBlock = none ∨ x.ownBlock ≠ some kb := by
  rcases h.2 with ⟨rfl, _⟩ | ⟨g, cap, cur, rfl, _, hg, _⟩
  · exact .inl rfl
  · refine .inr fun e => ?_
    simp only [Value.ownBlock, Option.some.injEq] at e
    exact map_not_cells hm hg e
end Go.Proofs.YtebdffabfimmkaaDoor
/- The reference's unlike: rows of rows of bools. -/
namespace Go.Proofs.YtebdffabfimmkaaDoor
open Go.RowKit Go.Maps

structure Br where
  A : Option Addr
  c : Nat
  l : List Bool
def Br.val (x : Br) : Value := .slice x.A x.l.length x.c
def Br.row (x : Br) : GRow := ⟨x.val, x.l.length, x.l.map .bool⟩
/-- Rows of bools that are read. -/
structure Mat (w : World) (B : Nat) (A : Option Addr) (n : Nat) (R : List Br) : Prop where
  len : R.length = n
  sl : Sl w B 1 A n (R.map Br.val)
  ar : ∀ x ∈ R, Sl w B 1 x.A x.l.length (x.l.map .bool) ∧ x.l.length = n
section
variable {w w' : World} {B B' n : Nat} {A : Option Addr} {R : List Br}
theorem Mat.keep (h : Mat w B A n R) (hb : Below B w w') (hB : B ≤ B') : Mat w' B' A n R :=
  ⟨h.len, (h.sl.below hb).more hB, fun x hx => ⟨((h.ar x hx).1.below hb).more hB, (h.ar x hx).2⟩⟩
theorem Mat.cell (h : Mat w B A n R) {i k : Nat} (hi : i < n) (hk : k < n) : ∃ b, cellF (R.map (·.l)) i k = some b := by
  obtain ⟨x, hx⟩ : ∃ x, R[i]? = some x := ⟨R[i]'(by rw [h.len]; exact hi), List.getElem?_eq_getElem _⟩
  have hl := (h.ar x (List.mem_of_getElem? hx)).2
  unfold cellF
  rw [List.getElem?_map, hx]
  exact ⟨x.l[k]'(by omega), List.getElem?_eq_getElem _⟩
theorem Mat.get (h : Mat w B A n R) {i k : Nat} {b : Bool} (hi : cellF (R.map (·.l)) i k = some b) : ∃ ob oo xc rb ro, A = some ⟨ob, oo, none⟩ ∧ ob < B ∧ w.cell? ⟨ob, oo + i, none⟩ = some (.slice (some ⟨rb, ro, none⟩) n xc) ∧ rb < B ∧ w.cell? ⟨rb, ro + k, none⟩ = some (.bool b) := by
  unfold cellF at hi
  obtain ⟨r, hr, hk⟩ := Option.bind_eq_some_iff.1 hi
  rw [List.getElem?_map] at hr
  obtain ⟨x, hx, rfl⟩ := Option.map_eq_some_iff.1 hr
  have h1 := (List.getElem?_eq_some_iff.1 hx).1
  obtain ⟨h2, h3⟩ := h.ar x (List.mem_of_getElem? hx)
  have h4 := (List.getElem?_eq_some_iff.1 hk).1
  obtain ⟨ob, oo, rfl, hob, hc⟩ := h.sl.at_ (show 0 < n by omega)
  obtain ⟨rb, ro, hA, hrb, hrc⟩ := h2.at_ (show 0 < x.l.length by omega)
  have h5 := hc i x.val (by rw [List.getElem?_map, hx]; rfl)
  unfold Br.val at h5
  rw [hA, h3] at h5
  exact ⟨ob, oo, x.c, rb, ro, rfl, hob, h5, hrb, hrc k (.bool b) (by rw [List.getElem?_map, hk]; rfl)⟩
end
theorem unl_any {d : List St} {L : List Bool} {F : List (List Bool)} {i k c : Nat} (hc : c < 256) (h : unl d L F i k c = true) : unlB d L F i k = true := List.any_eq_true.2 ⟨c, List.mem_range.2 hc, h⟩
theorem unl_next {d : List St} {L : List Bool} {F : List (List Bool)} {i k c : Nat} (h : (List.range c).any (unl d L F i k) = false) (h' : unl d L F i k c = false) : (List.range (c + 1)).any (unl d L F i k) = false := by
  rw [List.range_succ, List.any_append, h]
  simp [h']
set_option maxRecDepth 100000 in
set_option maxHeartbeats 8000000 in
theorem unlike_any (w : World) (B : Nat) (hB : B ≤ w.heap.size) (A : Option Addr) (n c : Nat) (H : List Sh) (h : StsIn w B A n c H) (hg : Good (H.map (·.d))) (Ag : Option Addr) (cg : Nat) (L : List Bool) (hL : Sl w w.heap.size 1 Ag n (L.map .bool)) (Am : Option Addr) (cm : Nat) (R : List Br) (hM : Mat w w.heap.size Am n R) (i k : Nat) (hi : i < n) (hk : k < n) :
    Calls Tryd.prog 50 #[.slice A n c, .slice Ag n cg, .slice Am n cm, .int .i64 (i : Int), .int .i64 (k : Int)] w fun e w' => e = .returned (.bool (unlB (H.map (·.d)) L (R.map (·.l)) i k)) ∧ Below w.heap.size w w' := by
  have HS := Lib.hid h
  have HL := Lib.hid hL
  have HM := Lib.hid hM
  have HG := Lib.hid hg
  obtain ⟨d, hd⟩ : ∃ d, H.map (·.d) = d := ⟨_, rfl⟩
  have HD := Lib.hid hd
  have hdl : d.length = n := by rw [← hd, List.length_map]; exact h.len
  have HDL := Lib.hid hdl
  have hcm : n ≤ 20000 := by rw [← hdl, ← hd]; exact hg.few
  rw [hd] at HG ⊢
  clear h hL hM hg hd hdl
  go_enter Tryd.func50, Tryd.ntmps50
  go_wp2_with fail
  go_loopw [11] (fun cv wr => ∃ ch : Nat, ch ≤ 256 ∧ cv = .int .i64 ch ∧ Hid ((List.range ch).any (unl d L (R.map (·.l)) i k) = false) ∧ Hid (Below w.heap.size w wr)) (fun cv _ => 256 - (intOf cv).toNat)
  case atStart => exact ⟨0, by omega, rfl, rfl, brefl w⟩
  case round =>
    obtain ⟨ch, hch, rfl, HN, HB⟩ := hrel
    by_cases hlt : ch < 256
    · have hlt2 : (ch : Int) < 256 := by omega
      go_wp2_with fail
      refine (to_any wr B (Nat.le_trans hB HB.out.size) A n c H (HS.out.keep (HB.out.mono hB) (Nat.le_refl _)) (by rw [HD.out]; exact HG.out) Ag cg L ((HL.out.below HB.out).more HB.out.size) i ch hi).mono ?_
      rintro e w1 ⟨rfl, hb1⟩
      have HB1 := Lib.hid (bcall HB.out hb1)
      clear hb1
      go_wp2_with fail
      refine (to_any w1 B (Nat.le_trans hB HB1.out.size) A n c H (HS.out.keep (HB1.out.mono hB) (Nat.le_refl _)) (by rw [HD.out]; exact HG.out) Ag cg L ((HL.out.below HB1.out).more HB1.out.size) k ch hk).mono ?_
      rintro e w2 ⟨rfl, hb2⟩
      have HB2 := Lib.hid (bcall HB1.out hb2)
      clear hb2 HB1
      rw [HD.out]
      have HX : ∀ {j : Nat}, j < n → ∀ x, toG d L j ch = some x → x < n := fun {j} hj x hx => by
        unfold toG at hx
        split at hx
        · rename_i y hy
          split at hx
          · cases hx
          · injection hx with hx
            rw [← hx, ← HDL.out]
            exact HG.out.within j (by rw [HDL.out]; exact hj) ch y hy
        · cases hx
      have HU : Hid (unl d L (R.map (·.l)) i k ch = match toG d L i ch, toG d L k ch with
        | none, none => false
        | some x, some y => (cellF (R.map (·.l)) x y).getD true
        | _, _ => true) := rfl
      have HXi := Lib.hid (HX hi)
      have HXk := Lib.hid (HX hk)
      have hzi : toZ d L i ch = match toG d L i ch with | some y => (y : Int) | none => -1 := rfl
      have hzk : toZ d L k ch = match toG d L k ch with | some y => (y : Int) | none => -1 := rfl
      clear HX
      cases hgi : toG d L i ch with
      | none =>
        rw [hgi] at hzi HU
        cases hgk : toG d L k ch with
        | none =>
          rw [hgk] at hzk HU
          simp only at hzi hzk
          rw [hzi, hzk]
          have HNN : Hid ((List.range (ch + 1)).any (unl d L (R.map (·.l)) i k) = false) := unl_next HN.out HU.out
          clear hzi hzk hgi hgk HXi HXk HU
          go_wp2_with fail
          go_roundw
          case rel => exact ⟨ch + 1, by omega, by go_num, HNN, HB2⟩
          case measure => simp [intOf]; omega
        | some y =>
          rw [hgk] at hzk HU
          simp only at hzi hzk
          rw [hzi, hzk]
          have HE : Hid (unlB d L (R.map (·.l)) i k = true) := unl_any hlt HU.out
          have q0 : decide ((y : Int) < 0) = false := decide_eq_false (by omega)
          clear hzi hzk hgi hgk HXi HXk HU
          go_wp2_with fail
          go_ret
          exact ⟨by rw [HE.out]; rfl, HB2.out⟩
      | some x =>
        rw [hgi] at hzi HU
        have hx := HXi.out x hgi
        have q1 : decide ((x : Int) < 0) = false := decide_eq_false (by omega)
        cases hgk : toG d L k ch with
        | none =>
          rw [hgk] at hzk HU
          simp only at hzi hzk
          rw [hzi, hzk]
          have HE : Hid (unlB d L (R.map (·.l)) i k = true) := unl_any hlt HU.out
          clear hzi hzk hgi hgk HXi HXk HU
          go_wp2_with fail
          go_ret
          exact ⟨by rw [HE.out]; rfl, HB2.out⟩
        | some y =>
          rw [hgk] at hzk HU
          simp only at hzi hzk
          rw [hzi, hzk]
          have hy := HXk.out y hgk
          have q0 : decide ((y : Int) < 0) = false := decide_eq_false (by omega)
          have HW := Lib.hid (HM.out.keep HB2.out HB2.out.size)
          obtain ⟨b, hb⟩ := HW.out.cell hx hy
          obtain ⟨ob, oo, xc, rb, ro, rfl, hob, m0, hrb, m1⟩ := HW.out.get hb
          have hx2 : (x : Int) < (n : Int) := by omega
          have hy2 : (y : Int) < (n : Int) := by omega
          have HC := Lib.hid hb
          clear hzi hzk hgi hgk HXi HXk hb
          cases b
          · have HNN : Hid ((List.range (ch + 1)).any (unl d L (R.map (·.l)) i k) = false) := unl_next HN.out (by rw [HU.out]; show (cellF _ x y).getD true = false; rw [HC.out]; rfl)
            clear HU HC
            go_wp2_with fail
            go_roundw
            case rel => exact ⟨ch + 1, by omega, by go_num, HNN, HB2⟩
            case measure => simp [intOf]; omega
          · have HE : Hid (unlB d L (R.map (·.l)) i k = true) := unl_any hlt (by rw [HU.out]; show (cellF _ x y).getD true = true; rw [HC.out]; rfl)
            clear HU HC
            go_wp2_with fail
            go_ret
            exact ⟨by rw [HE.out]; rfl, HB2.out⟩
    · obtain rfl : ch = 256 := by omega
      have HE : Hid (unlB d L (R.map (·.l)) i k = false) := HN.out
      clear HN
      go_wp2_with fail
      go_ret
      exact ⟨by rw [HE.out]; rfl, HB.out⟩
end Go.Proofs.YtebdffabfimmkaaDoor
/- States met byte by byte, with their arcs: the reference's way, for any walk (plain Lean). -/
namespace Go.Proofs.YtebdffabfimmkaaDoor

variable {σ : Type}
theorem Bfs.num_more {W : Bfs σ} {met more : List σ} {x : σ} {c k : Nat} (h : W.num met x c = some k) : W.num (met ++ more) x c = some k := by
  unfold Bfs.num at h ⊢
  obtain ⟨y, hy, hf⟩ := Option.bind_eq_some_iff.1 h
  rw [hy]
  show findI _ (met ++ more) = some k
  rw [findI_append, hf]
/-- In the midst of one state's bytes. -/
structure ByP (W : Bfs σ) (x : σ) (met0 : List σ) (c : Nat) (met : List σ) (arcs : List Arc3) : Prop where
  row : met = W.row x met0 c
  arcs : arcs = runs (W.num met x) c
  has : ∀ c', c' < c → ∀ y, W.step x c' = some y → ∃ k, W.num met x c' = some k
theorem ByP.start (W : Bfs σ) (x : σ) (met : List σ) : ByP W x met 0 met [] := ⟨rfl, rfl, fun c h => absurd h (by omega)⟩
section
variable {W : Bfs σ} {x y : σ} {met0 met : List σ} {c k : Nat} {arcs : List Arc3}
theorem ByP.none_ (h : ByP W x met0 c met arcs) (hn : W.step x c = none) : ByP W x met0 (c + 1) met arcs := by
  refine ⟨by rw [Bfs.row, hn]; exact h.row, ?_, fun c' hc y hy => ?_⟩
  · have hnum : W.num met x c = none := by unfold Bfs.num; rw [hn]; rfl
    rw [runs, hnum]
    exact h.arcs
  · by_cases e : c' < c
    · exact h.has c' e y hy
    · obtain rfl : c' = c := by omega
      rw [hn] at hy
      cases hy
theorem ByP.old (h : ByP W x met0 c met arcs) (hy : W.step x c = some y) (hf : findI (fun z => W.eqv z y) met = some k) : ByP W x met0 (c + 1) met (growA arcs (c : Int) (k : Int)) := by
  have hnum : W.num met x c = some k := by unfold Bfs.num; rw [hy]; exact hf
  refine ⟨by rw [Bfs.row, hy]; simp only; rw [← h.row, hf], by rw [runs, hnum, h.arcs], fun c' hc y' hy' => ?_⟩
  by_cases e : c' < c
  · exact h.has c' e y' hy'
  · obtain rfl : c' = c := by omega
    exact ⟨k, hnum⟩
theorem ByP.new (he : ∀ z, W.eqv (W.rep z) z = true) (h : ByP W x met0 c met arcs) (hy : W.step x c = some y) (hf : findI (fun z => W.eqv z y) met = none) : ByP W x met0 (c + 1) (met ++ [W.rep y]) (growA arcs (c : Int) (met.length : Int)) := by
  have hnum : W.num (met ++ [W.rep y]) x c = some met.length := by
    unfold Bfs.num
    rw [hy]
    show findI _ (met ++ [W.rep y]) = _
    rw [findI_append, hf]
    simp [findI, he]
  have hold : ∀ c', c' < c → W.num (met ++ [W.rep y]) x c' = W.num met x c' := fun c' hc => by
    cases hs : W.step x c' with
    | none => unfold Bfs.num; rw [hs]; rfl
    | some z =>
      obtain ⟨k, hk⟩ := h.has c' hc z hs
      rw [hk]
      exact Bfs.num_more hk
  refine ⟨by rw [Bfs.row, hy]; simp only; rw [← h.row, hf], ?_, fun c' hc y' hy' => ?_⟩
  · rw [runs, hnum, h.arcs, runs_congr c hold]
  · by_cases e : c' < c
    · obtain ⟨k, hk⟩ := h.has c' e y' hy'
      exact ⟨k, Bfs.num_more hk⟩
    · obtain rfl : c' = c := by omega
      exact ⟨_, hnum⟩
end
/-- Behind i states. -/
structure ByA (W : Bfs σ) (fin : σ → Bool) (x0 : σ) (i : Nat) (met : List σ) (ds : List St) : Prop where
  run : met = W.run i 0 [x0]
  le : i ≤ met.length
  out : ds = (met.take i).map fun x => (fin x, runs (W.num met x) 256)
  has : ∀ j x, j < i → met[j]? = some x → ∀ c, c < 256 → ∀ y, W.step x c = some y → ∃ k, W.num met x c = some k
theorem ByA.start (W : Bfs σ) (fin : σ → Bool) (x0 : σ) : ByA W fin x0 0 [x0] [] := ⟨rfl, Nat.zero_le _, rfl, fun j x h => absurd h (by omega)⟩
theorem ByA.step {W : Bfs σ} {fin : σ → Bool} {x0 x : σ} {i : Nat} {met met1 : List σ} {ds : List St} {arcs : List Arc3} (h : ByA W fin x0 i met ds) (hx : met[i]? = some x) (hb : ByP W x met 256 met1 arcs) : ByA W fin x0 (i + 1) met1 (ds ++ [(fin x, arcs)]) := by
  obtain ⟨more, hm⟩ := W.row_pre x met 256
  rw [← hb.row] at hm
  have hil := (List.getElem?_eq_some_iff.1 hx).1
  have hrun : met1 = W.run (i + 1) 0 [x0] := by
    rw [W.run_succ, Nat.zero_add, ← h.run, hx]
    exact hb.row
  have hpre : ∀ j, j < i → met1[j]? = met[j]? := fun j hj => by rw [hm, List.getElem?_append_left (by omega)]
  have hx1 : met1[i]? = some x := by rw [hm, List.getElem?_append_left hil]; exact hx
  refine ⟨hrun, by rw [hm, List.length_append]; omega, ?_, fun j z hj hz c hc y hy => ?_⟩
  · rw [List.take_add_one, hx1]
    show _ = ((met1.take i ++ [x]).map _)
    rw [List.map_append, h.out]
    congr 1
    · have e : met1.take i = met.take i := by rw [hm, List.take_append_of_le_length (by omega)]
      rw [e]
      refine List.map_congr_left fun z hz => ?_
      obtain ⟨j, hj⟩ := List.mem_iff_getElem?.1 hz
      have hji : j < i := by
        have := (List.getElem?_eq_some_iff.1 hj).1
        rw [List.length_take] at this
        omega
      rw [List.getElem?_take_of_lt hji] at hj
      refine congrArg (Prod.mk (fin z)) (runs_congr 256 fun c hc => ?_)
      cases hs : W.step z c with
      | none => unfold Bfs.num; rw [hs]; rfl
      | some y =>
        obtain ⟨k, hk⟩ := h.has j z hji hj c hc y hs
        rw [hk, hm]
        exact (Bfs.num_more hk).symm
    · rw [hb.arcs]
      rfl
  · by_cases e : j < i
    · rw [hpre j e] at hz
      obtain ⟨k, hk⟩ := h.has j z e hz c hc y hy
      rw [hm]
      exact ⟨k, Bfs.num_more hk⟩
    · obtain rfl : j = i := by omega
      rw [hx1] at hz
      injection hz with hz
      subst hz
      exact hb.has c hc y hy
theorem ByA.last {W : Bfs σ} {fin : σ → Bool} {x0 : σ} {i : Nat} {met : List σ} {ds : List St} (h : ByA W fin x0 i met ds) (hi : met.length ≤ i) : ds = W.out fin met ∧ met = W.run i 0 [x0] ∧ (W.run i 0 [x0])[i]? = none := by
  refine ⟨?_, h.run, ?_⟩
  · rw [h.out, List.take_of_length_le hi]
    rfl
  · rw [← h.run]
    exact List.getElem?_eq_none hi
/-- The reference's least automaton is the least. -/
theorem ByA.least {d : List St} {i : Nat} {met : List Nat} {ds : List St} (h : ByA (leastW (auOf d) id) (auOf d).fin 0 i met ds) (hi : met.length ≤ i) (hl : (auOf d).live 0) : LeastIs (auOf d) 0 ds := by
  obtain ⟨h1, h2, h3⟩ := h.last hi
  refine .inl ⟨hl, id, fun y => Leq.refl _ _, i, h3, ?_⟩
  rw [h1, h2]
  rfl
/-- What is made by plain states takes what they take, and is an automaton. -/
theorem ByA.leq [DecidableEq σ] {W : Bfs σ} (hW : Plain W) {fin : σ → Bool} {x0 : σ} {i : Nat} {met : List σ} {ds : List St} (h : ByA W fin x0 i met ds) (hi : met.length ≤ i) : Leq (auOf ds) 0 ⟨fin, W.step⟩ x0 := by
  obtain ⟨h1, h2, h3⟩ := h.last hi
  rw [h1]
  intro s
  refine out_leq W fin (fun z y hzy => ?_) (fun y hy => ?_) s 0 x0 ?_
  · rw [hW.eqv, decide_eq_true_eq] at hzy
    rw [hzy]
    exact Leq.refl _ _
  · rw [h2] at hy ⊢
    obtain ⟨j, hj⟩ := List.mem_iff_getElem?.1 hy
    have h4 := (List.getElem?_eq_some_iff.1 hj).1
    have h5 := List.getElem?_eq_none_iff.1 h3
    exact Bfs.run_met W hW.refl x0 i j y (by omega) hj
  · rw [h2]
    exact run_head W x0 i
theorem ByA.good {W : Bfs σ} {fin : σ → Bool} {x0 : σ} {i : Nat} {met : List σ} {ds : List St} (h : ByA W fin x0 i met ds) (hi : met.length ≤ i) (hl : met.length ≤ 20000) : Good ds := by
  obtain ⟨h1, h2, _⟩ := h.last hi
  rw [h1]
  refine out_good W fin (fun e => ?_) hl
  have := run_head W x0 i
  rw [← h2, e] at this
  cases this
end Go.Proofs.YtebdffabfimmkaaDoor
