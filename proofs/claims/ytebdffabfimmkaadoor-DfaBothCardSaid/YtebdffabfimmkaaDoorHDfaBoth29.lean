/- The reference's automata in the making: states that are made, and the one under way. -/
import Derived.Test.YtebdffabfimmkaaDoorHDfaBoth13
import Derived.Test.YtebdffabfimmkaaDoorHDfaBoth28
import Derived.Test.YtebdffabfimmkaaDoorHDfaBoth17
import Derived.Test.YtebdffabfimmkaaDoorHDfaBoth11
import Derived.Test.YtebdffabfimmkaaDoorHDfaBoth15
namespace Go.Proofs.YtebdffabfimmkaaDoor
open Go.RowKit Go.Maps

structure OutR (w W : World) (Ao : Option Addr) (q co : Nat) (hs : List Sh) : Prop where
  bel : Below w.heap.size w W
  out : W.ownsRow w.heap.size 39 2 (.slice Ao q co) q (hs.flatMap Sh.hdr)
  fam : GFam W w.heap.size 41 3 (hs.map Sh.row)
structure GrR (w W : World) (sp : Nat) (fin : Bool) (Ao : Option Addr) (q co : Nat) (Ac : Option Addr) (pc cc : Nat) (arcs : List Arc3) (hs : List Sh) : Prop where
  bel : Below w.heap.size w W
  out : W.ownsRow w.heap.size 39 2 (.slice Ao q co) q (hs.flatMap Sh.hdr)
  fam : GFam W w.heap.size 41 3 (⟨.slice Ac pc cc, pc, arcsC arcs⟩ :: hs.map Sh.row)
  blk : W.heap[sp]? = some (.cells #[.bool fin, .slice Ac pc cc] 39 (0, 0))
  lo : w.heap.size ≤ sp
  ne : (Value.slice Ao q co).ownBlock = none ∨ (Value.slice Ao q co).ownBlock ≠ some sp
section
variable {w W W' : World} {sp : Nat} {fin : Bool} {Ao : Option Addr} {q co : Nat} {Ac : Option Addr} {pc cc : Nat} {arcs new : List Arc3} {hs : List Sh}
theorem OutR.keep (h : OutR w W Ao q co hs) (hb : Below W.heap.size W W') : OutR w W' Ao q co hs := ⟨bcall h.bel hb, own_kept h.out hb, h.fam.below hb⟩
theorem OutR.start (w : World) : OutR w w none 0 0 [] := ⟨brefl w, ⟨rfl, .inl ⟨rfl, rfl⟩⟩, GFam.nil _ _ _ _⟩
theorem OutR.sts (h : OutR w W Ao q co hs) (hq : hs.length = q) : OwnSts W w.heap.size (.slice Ao q co) hs := ⟨by rw [hq]; exact h.out, h.fam⟩
/-- A row of another type that grows. -/
theorem OutR.other {b e s n : Nat} {v : Value} {xs : List Value} (h : OutR w W Ao q co hs) (ho : W.ownsRow b e s v n xs) (he1 : e ≠ 39) (he2 : e ≠ 41) (hb : w.heap.size ≤ b) (hg : W.grownBy W' v.ownBlock) : OutR w W' Ao q co hs :=
  ⟨h.bel.grown hg h.bel.size (fun r hr => Nat.le_trans hb (ho.lt r hr).1), h.out.kept hg (own_types ho h.out he1), h.fam.kept hg fun x hx => own_types ho (h.fam.own x hx) he2⟩
/-- A new state. -/
theorem OutR.open_ (h : OutR w W Ao q co hs) (fin : Bool) : GrR w (W.alloc (.cells #[.bool fin, .slice none 0 0] 39)) W.heap.size fin Ao q co none 0 0 [] hs := by
  have hb := bnew (brefl W) (.cells #[.bool fin, .slice none 0 0] 39)
  refine ⟨bcall h.bel hb, own_kept h.out hb, (h.fam.below hb).cons_nil, heap_alloc_new W _, h.bel.size, ?_⟩
  cases hv : (Value.slice Ao q co).ownBlock with
  | none => exact .inl rfl
  | some g =>
    refine .inr fun e => ?_
    injection e with e
    have := (h.out.lt g hv).2
    omega
theorem GrR.keep (h : GrR w W sp fin Ao q co Ac pc cc arcs hs) (hb : Below W.heap.size W W') : GrR w W' sp fin Ao q co Ac pc cc arcs hs :=
  ⟨bcall h.bel hb, own_kept h.out hb, h.fam.below hb, (hb.block sp (Array.getElem?_eq_some_iff.1 h.blk).1).trans h.blk, h.lo, h.ne⟩
theorem GrR.cells (h : GrR w W sp fin Ao q co Ac pc cc arcs hs) : W.cell? ⟨sp, 0, none⟩ = some (.bool fin) ∧ W.cell? ⟨sp, 1, none⟩ = some (.slice Ac pc cc) ∧ W.frozen? ⟨sp, 1, none⟩ = false ∧ sp < W.heap.size :=
  ⟨cell_of_row _ sp 0 _ _ (0, 0) h.blk, cell_of_row _ sp 1 _ _ (0, 0) h.blk, free_at h.blk _, (Array.getElem?_eq_some_iff.1 h.blk).1⟩
theorem GrR.row (h : GrR w W sp fin Ao q co Ac pc cc arcs hs) : W.ownsRow w.heap.size 41 3 (.slice Ac pc cc) pc (arcsC arcs) := h.fam.own ⟨.slice Ac pc cc, pc, arcsC arcs⟩ (List.mem_cons_self ..)
theorem GrR.len (h : GrR w W sp fin Ao q co Ac pc cc arcs hs) : arcs.length = pc := by
  have := h.row.1
  rw [arcsC_len] at this
  omega
theorem GrR.other {b e s n : Nat} {v : Value} {xs : List Value} (h : GrR w W sp fin Ao q co Ac pc cc arcs hs) (ho : W.ownsRow b e s v n xs) (he1 : e ≠ 39) (he2 : e ≠ 41) (hb : w.heap.size ≤ b) (hg : W.grownBy W' v.ownBlock) : GrR w W' sp fin Ao q co Ac pc cc arcs hs :=
  ⟨h.bel.grown hg h.bel.size (fun r hr => Nat.le_trans hb (ho.lt r hr).1), h.out.kept hg (own_types ho h.out he1), h.fam.kept hg fun x hx => own_types ho (h.fam.own x hx) he2, blk_kept ho hg h.blk (fun e' => he1 e'.symm), h.lo, h.ne⟩
/-- The arcs have grown, and are put back. -/
theorem GrR.grow {A2 : Option Addr} {p2 c2 : Nat} (h : GrR w W sp fin Ao q co Ac pc cc arcs hs) (hown : W'.ownsRow w.heap.size 41 3 (.slice A2 p2 c2) p2 (arcsC new)) (hg : W.grownBy W' (Value.slice Ac pc cc).ownBlock) (hor : (Value.slice A2 p2 c2).ownBlock = (Value.slice Ac pc cc).ownBlock ∨ ∃ g, (Value.slice A2 p2 c2).ownBlock = some g ∧ W.heap.size ≤ g) :
    (W'.cell? ⟨sp, 1, none⟩ = some (.slice Ac pc cc) ∧ W'.frozen? ⟨sp, 1, none⟩ = false ∧ sp < W'.heap.size) ∧ GrR w (W'.setCell ⟨sp, 1, none⟩ (.slice A2 p2 c2)) sp fin Ao q co A2 p2 c2 new hs ∧
    ∀ {b e s n : Nat} {v : Value} {xs : List Value}, e ≠ 39 → e ≠ 41 → W.ownsRow b e s v n xs → (W'.setCell ⟨sp, 1, none⟩ (.slice A2 p2 c2)).ownsRow b e s v n xs := by
  have hr := h.row
  have hblk : W'.heap[sp]? = some (.cells #[.bool fin, .slice Ac pc cc] 39 (0, 0)) := blk_kept hr hg h.blk (by decide)
  have hbel : Below w.heap.size w W' := h.bel.grown hg h.bel.size (fun r hq => (hr.lt r hq).1)
  have hout := h.out.kept hg (own_types hr h.out (by decide))
  have hfam : GFam W' w.heap.size 41 3 (⟨.slice A2 p2 c2, p2, arcsC new⟩ :: hs.map Sh.row) := h.fam.head hg hown hor
  refine ⟨⟨cell_of_row _ sp 1 _ _ (0, 0) hblk, free_at hblk _, (Array.getElem?_eq_some_iff.1 hblk).1⟩, ⟨below_set hbel h.lo (Nat.le_refl _), hout.kept (set_grown _ _ _) h.ne, hfam.kept (set_grown _ _ _) fun x hx => row_not_cells (hfam.own x hx) hblk (by decide), ?_, h.lo, h.ne⟩, fun h1 h2 h3 => own_other (h3.kept hg (own_types hr h3 (fun e => h2 e.symm))) hblk (fun e => h1 e.symm)⟩
  have h4 := blk_set (j := 1) hblk (.slice A2 p2 c2)
  exact h4
/-- The state is put behind the others. -/
theorem GrR.close {A9 : Option Addr} {c9 : Nat} (h : GrR w W sp fin Ao q co Ac pc cc arcs hs) (hg : W.grownBy W' (Value.slice Ao q co).ownBlock) (hy : W'.ownsRow w.heap.size 39 2 (.slice A9 (q + 1) c9) (q + 1) (hs.flatMap Sh.hdr ++ [.bool fin, .slice Ac pc cc])) :
    OutR w W' A9 (q + 1) c9 (hs ++ [⟨(fin, arcs), Ac, cc⟩]) ∧ ∀ {b e s n : Nat} {v : Value} {xs : List Value}, e ≠ 39 → W.ownsRow b e s v n xs → W'.ownsRow b e s v n xs := by
  have hl := h.len
  have hrow : Sh.row ⟨(fin, arcs), Ac, cc⟩ = ⟨.slice Ac pc cc, pc, arcsC arcs⟩ := by
    unfold Sh.row
    simp only [hl]
  have hhdr : Sh.hdr ⟨(fin, arcs), Ac, cc⟩ = [.bool fin, .slice Ac pc cc] := by
    unfold Sh.hdr
    simp only [hl]
  refine ⟨⟨h.bel.grown hg h.bel.size (fun r hr => (h.out.lt r hr).1), ?_, ?_⟩, fun he ho => ho.kept hg (own_types h.out ho (fun e => he e.symm))⟩
  · rw [List.flatMap_append, List.flatMap_cons, List.flatMap_nil, List.append_nil, hhdr]
    exact hy
  · have h1 := (h.fam.kept hg fun z hz => own_types h.out (h.fam.own z hz) (by decide)).turn
    rw [List.map_append, List.map_cons, List.map_nil, hrow]
    exact h1
end
theorem growA_hi {l : List Arc3} {c k : Nat} (hc : c ≤ 256) (h : ∀ a ∈ l, 0 ≤ a.2.1 ∧ a.2.1 ≤ 256) : ∀ a ∈ growA l (c : Int) (k : Int), 0 ≤ a.2.1 ∧ a.2.1 ≤ 256 := by
  intro a ha
  unfold growA at ha
  split at ha
  · rename_i b hb
    split at ha
    · rcases List.mem_append.1 ha with ha | ha
      · exact h a (List.dropLast_subset _ ha)
      · rw [List.mem_singleton.1 ha]
        exact ⟨by show (0 : Int) ≤ (c : Int); omega, by show (c : Int) ≤ 256; omega⟩
    · rcases List.mem_append.1 ha with ha | ha
      · exact h a ha
      · rw [List.mem_singleton.1 ha]
        exact ⟨by show (0 : Int) ≤ (c : Int); omega, by show (c : Int) ≤ 256; omega⟩
  · rw [List.mem_singleton.1 ha]
    exact ⟨by show (0 : Int) ≤ (c : Int); omega, by show (c : Int) ≤ 256; omega⟩
theorem growA_len (l : List Arc3) (c k : Int) : (growA l c k).length ≤ l.length + 1 := by
  unfold growA
  split
  · split
    · rw [List.length_append, List.length_dropLast, List.length_singleton]
      omega
    · rw [List.length_append, List.length_singleton]
      omega
  · rw [List.length_singleton]
    omega
end Go.Proofs.YtebdffabfimmkaaDoor
/- The least automaton takes what its state takes, and is an automaton (plain Lean). -/
namespace Go.Proofs.YtebdffabfimmkaaDoor

/-- States that take nothing need not be entered. -/
theorem acc_live {σ : Type} (M : Au σ) : ∀ (s : List Nat) (x : σ), (⟨M.fin, M.stepL⟩ : Au σ).acc x s = M.acc x s
  | [], x => rfl
  | c :: r, x => by
    rw [Au.acc, Au.acc]
    by_cases hc : c < 256
    · rw [if_pos hc, if_pos hc]
      show (match M.stepL x c with | some y => _ | none => _) = _
      unfold Au.stepL
      cases hx : M.step x c with
      | none => rfl
      | some y =>
        simp only
        by_cases hl : M.live y
        · rw [if_pos hl]
          exact acc_live M r y
        · rw [if_neg hl]
          simp only
          cases ha : M.acc y r with
          | false => rfl
          | true => exact absurd ⟨r, ha⟩ hl
    · rw [if_neg hc, if_neg hc]
open Classical in
theorem LeastIs.leq {σ : Type} {M : Au σ} {x : σ} {out : List St} (h : LeastIs M x out) : Leq (auOf out) 0 M x := by
  rcases h with ⟨hl, r, hr, f, hf, rfl⟩ | ⟨hl, rfl⟩
  · intro s
    have hrefl : ∀ y, (leastW M r).eqv ((leastW M r).rep y) y = true := fun y => decide_eq_true (hr y)
    have hh := run_head (leastW M r) x f
    have := out_leq (leastW M r) M.fin (met := (leastW M r).run f 0 [x]) (fun z y hzy => fun s => by
      have hzy : Leq M z M y := of_decide_eq_true hzy
      exact (acc_live M s z).trans ((hzy s).trans (acc_live M s y).symm)) (fun y hy => by
      obtain ⟨j, hj⟩ := List.mem_iff_getElem?.1 hy
      have h1 := (List.getElem?_eq_some_iff.1 hj).1
      have h2 := List.getElem?_eq_none_iff.1 hf
      exact Bfs.run_met _ hrefl x f j y (by omega) hj) s 0 x hh
    exact this.trans (acc_live M s x)
  · intro s
    have : M.acc x s = false := by
      cases ha : M.acc x s with
      | false => rfl
      | true => exact absurd ⟨s, ha⟩ hl
    rw [this]
    cases s with
    | nil => rfl
    | cons c r =>
      rw [Au.acc]
      split
      · rfl
      · rfl
theorem LeastIs.ne {σ : Type} {M : Au σ} {x : σ} {out : List St} (h : LeastIs M x out) : 0 < out.length := by
  rcases h with ⟨hl, r, hr, f, hf, rfl⟩ | ⟨hl, rfl⟩
  · have hh := (List.getElem?_eq_some_iff.1 (run_head (leastW M r) x f)).1
    unfold leastOf Bfs.out
    rw [List.length_map]
    exact hh
  · exact Nat.zero_lt_one
theorem LeastIs.good {σ : Type} {M : Au σ} {x : σ} {out : List St} (h : LeastIs M x out) (hl : out.length ≤ 20000) : Good out := by
  have hn := h.ne
  rcases h with ⟨_, r, hr, f, hf, rfl⟩ | ⟨_, rfl⟩
  · have hh := (List.getElem?_eq_some_iff.1 (run_head (leastW M r) x f)).1
    refine out_good _ _ (fun e => ?_) (by unfold leastOf Bfs.out at hl; rwa [List.length_map] at hl)
    rw [e] at hh
    cases hh
  · exact (good_iff _).1 (by decide)
end Go.Proofs.YtebdffabfimmkaaDoor
/- States met byte by byte, with their arcs: the reference's way, for any walk (plain Lean). -/
namespace Go.Proofs.YtebdffabfimmkaaDoor

variable {σ : Type}
theorem Bfs.num_more {W : Bfs σ} {met more : List σ} {x : σ} {c k : Nat} (h : W.num met x c = some k) : W.num (met ++ more) x c = some k := by
  unfold Bfs.num at h ⊢
  obtain ⟨y, hy, hf⟩ := Option.bind_eq_some_iff.1 h
  rw [hy]
  show findI _ (met ++ more) = some k
  rw [findI_append, hf]
/-- In the midst of one state's bytes. -/
structure ByP (W : Bfs σ) (x : σ) (met0 : List σ) (c : Nat) (met : List σ) (arcs : List Arc3) : Prop where
  row : met = W.row x met0 c
  arcs : arcs = runs (W.num met x) c
  has : ∀ c', c' < c → ∀ y, W.step x c' = some y → ∃ k, W.num met x c' = some k
theorem ByP.start (W : Bfs σ) (x : σ) (met : List σ) : ByP W x met 0 met [] := ⟨rfl, rfl, fun c h => absurd h (by omega)⟩
section
variable {W : Bfs σ} {x y : σ} {met0 met : List σ} {c k : Nat} {arcs : List Arc3}
theorem ByP.none_ (h : ByP W x met0 c met arcs) (hn : W.step x c = none) : ByP W x met0 (c + 1) met arcs := by
  refine ⟨by rw [Bfs.row, hn]; exact h.row, ?_, fun c' hc y hy => ?_⟩
  · have hnum : W.num met x c = none := by unfold Bfs.num; rw [hn]; rfl
    rw [runs, hnum]
    exact h.arcs
  · by_cases e : c' < c
    · exact h.has c' e y hy
    · obtain rfl : c' = c := by omega
      rw [hn] at hy
      cases hy
theorem ByP.old (h : ByP W x met0 c met arcs) (hy : W.step x c = some y) (hf : findI (fun z => W.eqv z y) met = some k) : ByP W x met0 (c + 1) met (growA arcs (c : Int) (k : Int)) := by
  have hnum : W.num met x c = some k := by unfold Bfs.num; rw [hy]; exact hf
  refine ⟨by rw [Bfs.row, hy]; simp only; rw [← h.row, hf], by rw [runs, hnum, h.arcs], fun c' hc y' hy' => ?_⟩
  by_cases e : c' < c
  · exact h.has c' e y' hy'
  · obtain rfl : c' = c := by omega
    exact ⟨k, hnum⟩
theorem ByP.new (he : ∀ z, W.eqv (W.rep z) z = true) (h : ByP W x met0 c met arcs) (hy : W.step x c = some y) (hf : findI (fun z => W.eqv z y) met = none) : ByP W x met0 (c + 1) (met ++ [W.rep y]) (growA arcs (c : Int) (met.length : Int)) := by
  have hnum : W.num (met ++ [W.rep y]) x c = some met.length := by
    unfold Bfs.num
    rw [hy]
    show findI _ (met ++ [W.rep y]) = _
    rw [findI_append, hf]
    simp [findI, he]
  have hold : ∀ c', c' < c → W.num (met ++ [W.rep y]) x c' = W.num met x c' := fun c' hc => by
    cases hs : W.step x c' with
    | none => unfold Bfs.num; rw [hs]; rfl
    | some z =>
      obtain ⟨k, hk⟩ := h.has c' hc z hs
      rw [hk]
      exact Bfs.num_more hk
  refine ⟨by rw [Bfs.row, hy]; simp only; rw [← h.row, hf], ?_, fun c' hc y' hy' => ?_⟩
  · rw [runs, hnum, h.arcs, runs_congr c hold]
  · by_cases e : c' < c
    · obtain ⟨k, hk⟩ := h.has c' e y' hy'
      exact ⟨k, Bfs.num_more hk⟩
    · obtain rfl : c' = c := by omega
      exact ⟨_, hnum⟩
end
/-- Behind i states. -/
structure ByA (W : Bfs σ) (fin : σ → Bool) (x0 : σ) (i : Nat) (met : List σ) (ds : List St) : Prop where
  run : met = W.run i 0 [x0]
  le : i ≤ met.length
  out : ds = (met.take i).map fun x => (fin x, runs (W.num met x) 256)
  has : ∀ j x, j < i → met[j]? = some x → ∀ c, c < 256 → ∀ y, W.step x c = some y → ∃ k, W.num met x c = some k
theorem ByA.start (W : Bfs σ) (fin : σ → Bool) (x0 : σ) : ByA W fin x0 0 [x0] [] := ⟨rfl, Nat.zero_le _, rfl, fun j x h => absurd h (by omega)⟩
theorem ByA.step {W : Bfs σ} {fin : σ → Bool} {x0 x : σ} {i : Nat} {met met1 : List σ} {ds : List St} {arcs : List Arc3} (h : ByA W fin x0 i met ds) (hx : met[i]? = some x) (hb : ByP W x met 256 met1 arcs) : ByA W fin x0 (i + 1) met1 (ds ++ [(fin x, arcs)]) := by
  obtain ⟨more, hm⟩ := W.row_pre x met 256
  rw [← hb.row] at hm
  have hil := (List.getElem?_eq_some_iff.1 hx).1
  have hrun : met1 = W.run (i + 1) 0 [x0] := by
    rw [W.run_succ, Nat.zero_add, ← h.run, hx]
    exact hb.row
  have hpre : ∀ j, j < i → met1[j]? = met[j]? := fun j hj => by rw [hm, List.getElem?_append_left (by omega)]
  have hx1 : met1[i]? = some x := by rw [hm, List.getElem?_append_left hil]; exact hx
  refine ⟨hrun, by rw [hm, List.length_append]; omega, ?_, fun j z hj hz c hc y hy => ?_⟩
  · rw [List.take_add_one, hx1]
    show _ = ((met1.take i ++ [x]).map _)
    rw [List.map_append, h.out]
    congr 1
    · have e : met1.take i = met.take i := by rw [hm, List.take_append_of_le_length (by omega)]
      rw [e]
      refine List.map_congr_left fun z hz => ?_
      obtain ⟨j, hj⟩ := List.mem_iff_getElem?.1 hz
      have hji : j < i := by
        have := (List.getElem?_eq_some_iff.1 hj).1
        rw [List.length_take] at this
        omega
      rw [List.getElem?_take_of_lt hji] at hj
      refine congrArg (Prod.mk (fin z)) (runs_congr 256 fun c hc => ?_)
      cases hs : W.step z c with
      | none => unfold Bfs.num; rw [hs]; rfl
      | some y =>
        obtain ⟨k, hk⟩ := h.has j z hji hj c hc y hs
        rw [hk, hm]
        exact (Bfs.num_more hk).symm
    · rw [hb.arcs]
      rfl
  · by_cases e : j < i
    · rw [hpre j e] at hz
      obtain ⟨k, hk⟩ := h.has j z e hz c hc y hy
      rw [hm]
      exact ⟨k, Bfs.num_more hk⟩
    · obtain rfl : j = i := by omega
      rw [hx1] at hz
      injection hz with hz
      subst hz
      exact hb.has c hc y hy
theorem ByA.last {W : Bfs σ} {fin : σ → Bool} {x0 : σ} {i : Nat} {met : List σ} {ds : List St} (h : ByA W fin x0 i met ds) (hi : met.length ≤ i) : ds = W.out fin met ∧ met = W.run i 0 [x0] ∧ (W.run i 0 [x0])[i]? = none := by
  refine ⟨?_, h.run, ?_⟩
  · rw [h.out, List.take_of_length_le hi]
    rfl
  · rw [← h.run]
    exact List.getElem?_eq_none hi
/-- The reference's least automaton is the least. -/
theorem ByA.least {d : List St} {i : Nat} {met : List Nat} {ds : List St} (h : ByA (leastW (auOf d) id) (auOf d).fin 0 i met ds) (hi : met.length ≤ i) (hl : (auOf d).live 0) : LeastIs (auOf d) 0 ds := by
  obtain ⟨h1, h2, h3⟩ := h.last hi
  refine .inl ⟨hl, id, fun y => Leq.refl _ _, i, h3, ?_⟩
  rw [h1, h2]
  rfl
/-- What is made by plain states takes what they take, and is an automaton. -/
theorem ByA.leq [DecidableEq σ] {W : Bfs σ} (hW : Plain W) {fin : σ → Bool} {x0 : σ} {i : Nat} {met : List σ} {ds : List St} (h : ByA W fin x0 i met ds) (hi : met.length ≤ i) : Leq (auOf ds) 0 ⟨fin, W.step⟩ x0 := by
  obtain ⟨h1, h2, h3⟩ := h.last hi
  rw [h1]
  intro s
  refine out_leq W fin (fun z y hzy => ?_) (fun y hy => ?_) s 0 x0 ?_
  · rw [hW.eqv, decide_eq_true_eq] at hzy
    rw [hzy]
    exact Leq.refl _ _
  · rw [h2] at hy ⊢
    obtain ⟨j, hj⟩ := List.mem_iff_getElem?.1 hy
    have h4 := (List.getElem?_eq_some_iff.1 hj).1
    have h5 := List.getElem?_eq_none_iff.1 h3
    exact Bfs.run_met W hW.refl x0 i j y (by omega) hj
  · rw [h2]
    exact run_head W x0 i
theorem ByA.good {W : Bfs σ} {fin : σ → Bool} {x0 : σ} {i : Nat} {met : List σ} {ds : List St} (h : ByA W fin x0 i met ds) (hi : met.length ≤ i) (hl : met.length ≤ 20000) : Good ds := by
  obtain ⟨h1, h2, _⟩ := h.last hi
  rw [h1]
  refine out_good W fin (fun e => ?_) hl
  have := run_head W x0 i
  rw [← h2, e] at this
  cases this
end Go.Proofs.YtebdffabfimmkaaDoor
