/- The reference's apart in memory: rows of rows of bools of the call's own. -/
import Derived.Test.YtebdffabfimmkaaDoorHDfaBoth33
import Derived.Test.YtebdffabfimmkaaDoorHDfaBoth34
import Derived.Test.YtebdffabfimmkaaDoorHDfaBoth12
import Derived.Test.YtebdffabfimmkaaDoorHDfaBoth32
import Derived.Test.YtebdffabfimmkaaDoorHDfaBoth6
import Derived.StillTailTactics
namespace Go.Proofs.YtebdffabfimmkaaDoor
open Go.RowKit Go.Maps

structure ApR (w W : World) (ob oc n : Nat) (R : List Br) : Prop where
  out : W.ownsRow w.heap.size 68 1 (.slice (some ⟨ob, 0, none⟩) n oc) n (R.map Br.val)
  fam : GFam W w.heap.size 4 1 (R.map Br.row)
  bel : Below w.heap.size w W
section
variable {w W W' : World} {ob oc n : Nat} {R : List Br}
theorem ApR.keep (h : ApR w W ob oc n R) (hb : Below W.heap.size W W') : ApR w W' ob oc n R := ⟨own_kept h.out hb, h.fam.below hb, bcall h.bel hb⟩
theorem ApR.len (h : ApR w W ob oc n R) : R.length = n := by
  have := h.out.1
  rw [List.length_map] at this
  omega
theorem ApR.own (h : ApR w W ob oc n R) {x : Br} (hx : x ∈ R) : W.ownsRow w.heap.size 4 1 (.slice x.A x.l.length x.c) x.l.length (x.l.map .bool) := h.fam.own x.row (List.mem_map.2 ⟨x, hx, rfl⟩)
theorem ApR.mat (h : ApR w W ob oc n R) (hl : ∀ x ∈ R, x.l.length = n) : Mat W W.heap.size (some ⟨ob, 0, none⟩) n R :=
  ⟨h.len, Sl.of_own h.out, fun x hx => ⟨Sl.of_own (h.own hx), hl x hx⟩⟩
theorem ApR.row (h : ApR w W ob oc n R) {i : Nat} {x : Br} (hx : R[i]? = some x) : W.cell? ⟨ob, i, none⟩ = some (.slice x.A x.l.length x.c) ∧ W.frozen? ⟨ob, i, none⟩ = false ∧ ob < W.heap.size := by
  obtain ⟨_, q2, cs, q3⟩ := own_blk h.out
  exact ⟨own_cell h.out (by rw [List.getElem?_map, hx]; rfl), free_at q3 _, q2⟩
theorem ApR.get (h : ApR w W ob oc n R) {i k : Nat} {x : Br} {b : Bool} (hx : R[i]? = some x) (hk : x.l[k]? = some b) : ∃ g, x.A = some ⟨g, 0, none⟩ ∧ g < W.heap.size ∧ W.cell? ⟨g, k, none⟩ = some (.bool b) ∧ W.frozen? ⟨g, k, none⟩ = false := by
  have ho := h.own (List.mem_of_getElem? hx)
  have hl := (List.getElem?_eq_some_iff.1 hk).1
  obtain ⟨g, hA, _, _⟩ := own_head ho (by omega)
  rw [hA] at ho
  obtain ⟨q1, q2, cs, q3⟩ := own_blk ho
  exact ⟨g, hA, q2, own_cell ho (by rw [List.getElem?_map, hk]; rfl), free_at q3 _⟩
/-- A bool is set. -/
theorem ApR.put (h : ApR w W ob oc n R) {i : Nat} {x : Br} {g : Nat} (hx : R[i]? = some x) (hA : x.A = some ⟨g, 0, none⟩) (k : Nat) (b : Bool) : ApR w (W.setCell ⟨g, k, none⟩ (.bool b)) ob oc n (R.set i ⟨x.A, x.c, x.l.set k b⟩) := by
  have ho := h.own (List.mem_of_getElem? hx)
  rw [hA] at ho
  obtain ⟨q1, q2, cs, q3⟩ := own_blk ho
  refine ⟨?_, ?_, below_set h.bel q1 (Nat.le_refl _)⟩
  · have h1 := own_other (j := k) (u := .bool b) h.out q3 (by decide)
    have e : (R.set i ⟨x.A, x.c, x.l.set k b⟩).map Br.val = R.map Br.val := by
      rw [List.map_set]
      have e2 : (⟨x.A, x.c, x.l.set k b⟩ : Br).val = x.val := by unfold Br.val; simp
      rw [e2]
      apply List.ext_getElem?
      intro j
      by_cases hj : i = j
      · subst hj
        rw [List.getElem?_set_self (by rw [List.length_map]; exact (List.getElem?_eq_some_iff.1 hx).1), List.getElem?_map, hx]
        rfl
      · rw [List.getElem?_set_ne hj]
    rw [e]
    exact h1
  · rw [List.map_set]
    have hxr : (R.map Br.row)[i]? = some x.row := by rw [List.getElem?_map, hx]; rfl
    have h1 := h.fam
    rw [set_split hxr]
    rw [split_at hxr] at h1
    have hv : x.row.v.ownBlock = some g := by show (Value.slice x.A _ _).ownBlock = _; rw [hA]; rfl
    refine h1.grow (W2 := W.setCell ⟨g, k, none⟩ (.bool b)) (by rw [hv]; exact set_grown _ _ _) ?_ (.inl (by show (Value.slice x.A _ _).ownBlock = _; rw [hA, hv]; rfl))
    have h2 := own_put (j := k) (u := .bool b) ho
    show (W.setCell _ _).ownsRow _ _ 1 (Value.slice x.A (x.l.set k b).length x.c) (x.l.set k b).length ((x.l.set k b).map .bool)
    rw [hA, List.length_set, List.map_set]
    exact h2
/-- A row is made. -/
theorem ApR.make (h : ApR w W ob oc n R) {i : Nat} {x : Br} (hx : R[i]? = some x) (hxA : x.A = none) (hn : n ≤ 1099511627776) {o : Obj} (ho : Obj.cells (madeCells #[.bool false] n) 4 = o) : ApR w ((W.setCell ⟨ob, i, none⟩ (.slice (some ⟨W.heap.size, 0, none⟩) n n)).alloc o) ob oc n (R.set i ⟨some ⟨W.heap.size, 0, none⟩, n, List.replicate n false⟩) := by
  subst ho
  obtain ⟨q1, q2, cs, q3⟩ := own_blk h.out
  have hb1 := below_set (k := ob) (j := i) (u := .slice (some ⟨W.heap.size, 0, none⟩) n n) h.bel q1 (Nat.le_refl _)
  have hsz : (W.setCell ⟨ob, i, none⟩ (.slice (some ⟨W.heap.size, 0, none⟩) n n)).heap.size = W.heap.size := by simp [World.setCell]
  have hf1 := h.fam.kept (set_grown W ⟨ob, i, none⟩ (.slice (some ⟨W.heap.size, 0, none⟩) n n)) fun z hz => own_types h.out (h.fam.own z hz) (by decide)
  have ho1 := own_put (j := i) (u := .slice (some ⟨W.heap.size, 0, none⟩) n n) h.out
  generalize W.setCell ⟨ob, i, none⟩ (.slice (some ⟨W.heap.size, 0, none⟩) n n) = W1 at *
  have hba := bnew (brefl W1) (.cells (madeCells #[.bool false] n) 4)
  have hr := own_made W1 (.bool false) n hn 4 rfl (Nat.le_refl W1.heap.size)
  refine ⟨?_, ?_, bcall hb1 hba⟩
  · rw [List.map_set]
    have e2 : (⟨some ⟨W.heap.size, 0, none⟩, n, List.replicate n false⟩ : Br).val = .slice (some ⟨W.heap.size, 0, none⟩) n n := by unfold Br.val; simp
    rw [e2]
    exact own_kept ho1 hba
  · rw [List.map_set]
    have hxr : (R.map Br.row)[i]? = some x.row := by rw [List.getElem?_map, hx]; rfl
    have hv : x.row.v.ownBlock = none := by show (Value.slice x.A _ _).ownBlock = _; rw [hxA]; rfl
    rw [split_at hxr] at hf1
    have h2 := hf1.grow (W2 := W1.alloc (.cells (madeCells #[.bool false] n) 4)) (y := (⟨some ⟨W.heap.size, 0, none⟩, n, List.replicate n false⟩ : Br).row) (by rw [hv]; exact World.grownBy_alloc W1 _ _) (by
      show (W1.alloc _).ownsRow _ _ 1 (Value.slice (some ⟨W.heap.size, 0, none⟩) (List.replicate n false).length n) (List.replicate n false).length ((List.replicate n false).map .bool)
      rw [List.length_replicate, List.map_replicate, ← hsz]
      exact own_lower hr hb1.size) (.inr ⟨W.heap.size, rfl, by rw [hsz]; exact Nat.le_refl _⟩)
    rw [← set_split hxr] at h2
    exact h2
end
end Go.Proofs.YtebdffabfimmkaaDoor
/- The reference's apart: the first marks of one state. -/
namespace Go.Proofs.YtebdffabfimmkaaDoor
open Go.RowKit Go.Maps

/-- One row is filled. -/
def IniR (d : List St) (R0 R : List Br) (n i k : Nat) : Prop := IniP d (R.map (·.l)) i k ∧ (∃ x, R[i]? = some x ∧ x.l.length = n) ∧ ∀ j, j ≠ i → R[j]? = R0[j]?
set_option linter.unusedVariables false in
set_option maxRecDepth 100000 in
set_option maxHeartbeats 8000000 in
theorem apart_j (w W0 : World) (B : Nat) (hB : B ≤ w.heap.size) (A : Option Addr) (n c : Nat) (H : List Sh) (HS : Hid (StsIn w B A n c H)) (d : List St) (HD : Hid (H.map (·.d) = d)) (hlen : H.length = n) (hcm : n ≤ 20000) (i : Nat) (hi : i < n)
    (ob oc : Nat) (R0 : List Br) (HR0 : Hid (ApR w W0 ob oc n R0)) (HP0 : Hid (IniR d R0 R0 n i 0))
    (c1 c2 c3 c4 c8 c9 c10 c11 c12 c13 c14 c15 c16 c17 c18 c19 c20 c21 c22 c23 c24 c25 c49 c50 c51 c52 c53 c54 c55 c56 c57 c58 c59 c60 c61 c62 c63 c64 c65 c66 c67 c68 c69 c70 c71 c72 c73 c74 c75 c76 c77 c78 c79 c80 c81 c82 c83 c84 u26 u27 u28 u29 u30 u31 u32 u33 u34 u35 u36 u37 u38 u39 u40 u41 u42 u43 u44 u45 u46 u47 u48 : Value) (Q0 : Exit → Act → World → Prop) (hQ0 : ∀ c (a a' : Act) w, a.defers = a'.defers → Q0 (.panic c) a w → Q0 (.panic c) a' w)
    (hexit : ∀ (R : List Br) (W : World) (x7 u26 u27 u28 u29 u30 u31 u32 u33 u34 u35 u36 u37 u38 u39 u40 u41 u42 u43 u44 u45 u46 u47 u48 : Value), Hid (ApR w W ob oc n R) → Hid (IniR d R0 R n i n) → Q0 (.exit 2) ⟨List.toArray (.slice A n c :: c1 :: c2 :: c3 :: c4 :: .slice (some ⟨ob, 0, none⟩) n oc :: .int .i64 (i : Int) :: x7 :: c8 :: c9 :: c10 :: c11 :: c12 :: c13 :: c14 :: c15 :: c16 :: c17 :: c18 :: c19 :: c20 :: c21 :: c22 :: c23 :: c24 :: c25 :: u26 :: u27 :: u28 :: u29 :: u30 :: u31 :: u32 :: u33 :: u34 :: u35 :: u36 :: u37 :: u38 :: u39 :: u40 :: u41 :: u42 :: u43 :: u44 :: u45 :: u46 :: u47 :: u48 :: c49 :: c50 :: c51 :: c52 :: c53 :: c54 :: c55 :: c56 :: c57 :: c58 :: c59 :: c60 :: c61 :: c62 :: c63 :: c64 :: c65 :: c66 :: c67 :: c68 :: c69 :: c70 :: c71 :: c72 :: c73 :: c74 :: c75 :: c76 :: c77 :: c78 :: c79 :: c80 :: c81 :: c82 :: c83 :: c84 :: []), []⟩ W) :
    Code.wp Tryd.prog (.loop (loopOf Tryd.f39 1)) Q0 ⟨List.toArray (.slice A n c :: c1 :: c2 :: c3 :: c4 :: .slice (some ⟨ob, 0, none⟩) n oc :: .int .i64 (i : Int) :: .int .i64 (0 : Int) :: c8 :: c9 :: c10 :: c11 :: c12 :: c13 :: c14 :: c15 :: c16 :: c17 :: c18 :: c19 :: c20 :: c21 :: c22 :: c23 :: c24 :: c25 :: u26 :: u27 :: u28 :: u29 :: u30 :: u31 :: u32 :: u33 :: u34 :: u35 :: u36 :: u37 :: u38 :: u39 :: u40 :: u41 :: u42 :: u43 :: u44 :: u45 :: u46 :: u47 :: u48 :: c49 :: c50 :: c51 :: c52 :: c53 :: c54 :: c55 :: c56 :: c57 :: c58 :: c59 :: c60 :: c61 :: c62 :: c63 :: c64 :: c65 :: c66 :: c67 :: c68 :: c69 :: c70 :: c71 :: c72 :: c73 :: c74 :: c75 :: c76 :: c77 :: c78 :: c79 :: c80 :: c81 :: c82 :: c83 :: c84 :: []), []⟩ W0 := by
  have hll : d.length = n := by rw [← HD.out, List.length_map]; exact hlen
  have HLL := Lib.hid hll
  clear hll
  obtain ⟨x, hx⟩ : ∃ x, H[i]? = some x := ⟨H[i]'(by omega), List.getElem?_eq_getElem _⟩
  have HX := Lib.hid hx
  have HXD : Hid (d[i]? = some x.d) := by show _ = _; rw [← HD.out, List.getElem?_map, hx]; rfl
  clear hx
  obtain ⟨fi, hfi⟩ : ∃ f, x.d.1 = f := ⟨_, rfl⟩
  have HFI := Lib.hid hfi
  clear hfi
  conv => arg 2; arg 1; whnf
  go_loopw [7] (fun kv wr => ∃ (k : Nat) (R : List Br), k ≤ n ∧ kv = .int .i64 k ∧ Hid (ApR w wr ob oc n R) ∧ Hid (IniR d R0 R n i k)) (fun kv _ => n - (intOf kv).toNat)
  case atStart => exact ⟨0, R0, Nat.zero_le _, rfl, HR0, HP0⟩
  case round =>
    clear HR0 HP0
    obtain ⟨k, R, hk, rfl, HR, HP⟩ := hrel
    by_cases hkn : k < n
    · obtain ⟨y, hy⟩ : ∃ y, H[k]? = some y := ⟨H[k]'(by omega), List.getElem?_eq_getElem _⟩
      obtain ⟨b, off, rfl, hb, hcell⟩ := (HS.out.keep (HR.out.bel.mono hB) (Nat.le_refl _)).at_ (by omega)
      obtain ⟨k0, _⟩ := hcell i x HX.out
      obtain ⟨k1, _⟩ := hcell k y hy
      have HYD : Hid (d[k]? = some y.d) := by show _ = _; rw [← HD.out, List.getElem?_map, hy]; rfl
      have hbs := HR.out.bel.size
      have hbw : b < wr.heap.size := by omega
      have hi2 : (i : Int) < (n : Int) := by omega
      have hk2 : (k : Int) < (n : Int) := by omega
      obtain ⟨fk, hfk⟩ : ∃ f, y.d.1 = f := ⟨_, rfl⟩
      rw [HFI.out] at k0
      rw [hfk] at k1
      obtain ⟨r, hr, hrl⟩ := HP.out.2.1
      obtain ⟨o0, o1, o2⟩ := HR.out.row hr
      rw [hrl] at o0
      obtain ⟨bk, hbk⟩ : ∃ b, r.l[k]? = some b := ⟨r.l[k]'(by omega), List.getElem?_eq_getElem _⟩
      obtain ⟨g, hg, hgw, o3, o4⟩ := HR.out.get hr hbk
      rw [hg] at o0
      have HRN := Lib.hid ((HR.out.keep (brefl wr).drew).put hr hg k (fi != fk))
      have e3 : wr.drew.cell? ⟨g, k, none⟩ = some (.bool bk) := o3
      have e4 : wr.drew.frozen? ⟨g, k, none⟩ = false := o4
      have e5 : g < wr.drew.heap.size := hgw
      have HPN : Hid (IniR d R0 (R.set i ⟨r.A, r.c, r.l.set k (fi != fk)⟩) n i (k + 1)) := by
        refine ⟨?_, ⟨⟨r.A, r.c, r.l.set k (fi != fk)⟩, List.getElem?_set_self (List.getElem?_eq_some_iff.1 hr).1, by simp [hrl]⟩, fun j hj => by rw [List.getElem?_set_ne (fun e => hj e.symm)]; exact HP.out.2.2 j hj⟩
        rw [List.map_set, ← HFI.out, ← hfk]
        exact HP.out.1.one HXD.out HYD.out (by rw [List.getElem?_map, hr]; rfl) (by rw [hrl, HLL.out])
      clear hcell hy HYD hr hrl hg HR HP hfk hbk
      cases fi <;> cases fk
      all_goals
        go_wp2_with fail
        go_still_tail 17, (by kernel_rfl)
        change wpList _ _ _ _ _ wr.drew
        generalize wr.drew = W2 at *
        go_wp2_with fail
        go_roundw
        case rel => exact ⟨k + 1, _, by omega, by go_num, HRN, HPN⟩
        case measure => simp [intOf]; omega
    · obtain rfl : k = n := by omega
      have q0 : decide ((k : Int) < (k : Int)) = false := decide_eq_false (by omega)
      go_wp2_with fail
      exact hexit R wr _ _ _ _ _ _ _ _ _ _ _ _ _ _ _ _ _ _ _ _ _ _ _ _ HR HP
end Go.Proofs.YtebdffabfimmkaaDoor
/- The reference's apart: the inner loop. -/
namespace Go.Proofs.YtebdffabfimmkaaDoor
open Go.RowKit Go.Maps

/-- In the midst of telling apart. -/
def ApK (d : List St) (L : List Bool) (R : List Br) (more : Bool) (i k gk : Nat) : Prop := ApP d (R.map (·.l)) ∧ (more = false → ApTo d L (R.map (·.l)) i k) ∧ 2 * offF (R.map (·.l)) + (if more then 1 else 0) + 1 ≤ gk
set_option linter.unusedVariables false in
set_option maxRecDepth 100000 in
set_option maxHeartbeats 8000000 in
theorem apart_k (w W0 : World) (B : Nat) (hB : B ≤ w.heap.size) (A : Option Addr) (n c : Nat) (H : List Sh) (HS : Hid (StsIn w B A n c H)) (d : List St) (HD : Hid (H.map (·.d) = d)) (HG : Hid (Good d)) (hlen : H.length = n) (hcm : n ≤ 20000) (Ag : Option Addr) (cg : Nat) (L : List Bool) (HL : Hid (Sl w w.heap.size 1 Ag n (L.map .bool))) (HGo : Hid (Gone d L)) (i : Nat) (hi : i < n)
    (ob oc gk : Nat) (R : List Br) (more : Bool) (HR0 : Hid (ApR w W0 ob oc n R)) (HP0 : Hid (ApK d L R more i 0 gk))
    (c2 c3 c4 c6 c7 c11 c12 c13 c14 c15 c16 c17 c18 c19 c20 c21 c22 c23 c24 c25 c26 c27 c28 c29 c30 c31 c32 c33 c34 c35 c36 c37 c38 c39 c40 c41 c42 c43 c44 c45 c46 c47 c48 c49 c50 c51 c52 c53 c54 c55 c84 u56 u57 u58 u59 u60 u61 u62 u63 u64 u65 u66 u67 u68 u69 u70 u71 u72 u73 u74 u75 u76 u77 u78 u79 u80 u81 u82 u83 : Value) (Q0 : Exit → Act → World → Prop) (hQ0 : ∀ c (a a' : Act) w, a.defers = a'.defers → Q0 (.panic c) a w → Q0 (.panic c) a' w)
    (hexit : ∀ (R : List Br) (more : Bool) (W : World) (x10 u56 u57 u58 u59 u60 u61 u62 u63 u64 u65 u66 u67 u68 u69 u70 u71 u72 u73 u74 u75 u76 u77 u78 u79 u80 u81 u82 u83 : Value), Hid (ApR w W ob oc n R) → Hid (ApK d L R more (i + 1) 0 gk) → Q0 (.exit 8) ⟨List.toArray (.slice A n c :: .slice Ag n cg :: c2 :: c3 :: c4 :: .slice (some ⟨ob, 0, none⟩) n oc :: c6 :: c7 :: .bool more :: .int .i64 (i : Int) :: x10 :: c11 :: c12 :: c13 :: c14 :: c15 :: c16 :: c17 :: c18 :: c19 :: c20 :: c21 :: c22 :: c23 :: c24 :: c25 :: c26 :: c27 :: c28 :: c29 :: c30 :: c31 :: c32 :: c33 :: c34 :: c35 :: c36 :: c37 :: c38 :: c39 :: c40 :: c41 :: c42 :: c43 :: c44 :: c45 :: c46 :: c47 :: c48 :: c49 :: c50 :: c51 :: c52 :: c53 :: c54 :: c55 :: u56 :: u57 :: u58 :: u59 :: u60 :: u61 :: u62 :: u63 :: u64 :: u65 :: u66 :: u67 :: u68 :: u69 :: u70 :: u71 :: u72 :: u73 :: u74 :: u75 :: u76 :: u77 :: u78 :: u79 :: u80 :: u81 :: u82 :: u83 :: c84 :: []), []⟩ W) :
    Code.wp Tryd.prog (.loop (loopOf Tryd.f39 4)) Q0 ⟨List.toArray (.slice A n c :: .slice Ag n cg :: c2 :: c3 :: c4 :: .slice (some ⟨ob, 0, none⟩) n oc :: c6 :: c7 :: .bool more :: .int .i64 (i : Int) :: .int .i64 (0 : Int) :: c11 :: c12 :: c13 :: c14 :: c15 :: c16 :: c17 :: c18 :: c19 :: c20 :: c21 :: c22 :: c23 :: c24 :: c25 :: c26 :: c27 :: c28 :: c29 :: c30 :: c31 :: c32 :: c33 :: c34 :: c35 :: c36 :: c37 :: c38 :: c39 :: c40 :: c41 :: c42 :: c43 :: c44 :: c45 :: c46 :: c47 :: c48 :: c49 :: c50 :: c51 :: c52 :: c53 :: c54 :: c55 :: u56 :: u57 :: u58 :: u59 :: u60 :: u61 :: u62 :: u63 :: u64 :: u65 :: u66 :: u67 :: u68 :: u69 :: u70 :: u71 :: u72 :: u73 :: u74 :: u75 :: u76 :: u77 :: u78 :: u79 :: u80 :: u81 :: u82 :: u83 :: c84 :: []), []⟩ W0 := by
  have hll : d.length = n := by rw [← HD.out, List.length_map]; exact hlen
  have HLL := Lib.hid hll
  clear hll
  conv => arg 2; arg 1; whnf
  go_loopw [8, 10] (fun mv kv wr => ∃ (k : Nat) (R : List Br) (more : Bool), k ≤ n ∧ mv = .bool more ∧ kv = .int .i64 k ∧ Hid (ApR w wr ob oc n R) ∧ Hid (ApK d L R more i k gk)) (fun _ kv _ => n - (intOf kv).toNat)
  case atStart => exact ⟨0, R, more, Nat.zero_le _, rfl, rfl, HR0, HP0⟩
  case round =>
    clear HR0 HP0
    obtain ⟨k, R, more, hk, rfl, rfl, HR, HP⟩ := hrel
    by_cases hkn : k < n
    · have hbs := HR.out.bel.size
      have hi2 : (i : Int) < (n : Int) := by omega
      have hk2 : (k : Int) < (n : Int) := by omega
      have hRn := HR.out.len
      obtain ⟨r, hr⟩ : ∃ r, R[i]? = some r := ⟨R[i]'(by omega), List.getElem?_eq_getElem _⟩
      have hrl : r.l.length = n := by rw [← HLL.out]; exact HP.out.1.row r.l (List.mem_map_of_mem (List.mem_of_getElem? hr))
      have HMA : Hid (∀ x ∈ R, x.l.length = n) := fun x hx => by rw [← HLL.out]; exact HP.out.1.row x.l (List.mem_map_of_mem hx)
      obtain ⟨b, hb⟩ : ∃ b, r.l[k]? = some b := ⟨r.l[k]'(by omega), List.getElem?_eq_getElem _⟩
      have HCE : Hid (cellF (R.map (·.l)) i k = some b) := by show _ = _; unfold cellF; rw [List.getElem?_map, hr]; exact hb
      obtain ⟨o0, o1, o2⟩ := HR.out.row hr
      rw [hrl] at o0
      obtain ⟨g, hg, hgw, o3, o4⟩ := HR.out.get hr hb
      rw [hg] at o0
      have HRR := Lib.hid (And.intro hr (And.intro hg hb))
      clear hr hrl hg hb
      cases b
      · go_wp2_with fail
        refine (unlike_any wr B (Nat.le_trans hB hbs) A n c H (HS.out.keep (HR.out.bel.mono hB) (Nat.le_refl _)) (by rw [HD.out]; exact HG.out) Ag cg L ((HL.out.below HR.out.bel).more hbs) (some ⟨ob, 0, none⟩) oc R (HR.out.mat HMA.out) i k hi hkn).mono ?_
        rintro e w2 ⟨rfl, hb2⟩
        rw [HD.out]
        have HR2 := Lib.hid (HR.out.keep hb2)
        obtain ⟨p0, p1, p2⟩ := HR2.out.row HRR.out.1
        rw [HMA.out r (List.mem_of_getElem? HRR.out.1), HRR.out.2.1] at p0
        obtain ⟨g', hg', hgw', p3, p4⟩ := HR2.out.get HRR.out.1 HRR.out.2.2
        rw [HRR.out.2.1] at hg'
        injection hg' with hg'
        injection hg' with hg' _ _
        subst hg'
        obtain ⟨u, hu⟩ : ∃ u, unlB d L (R.map (·.l)) i k = u := ⟨_, rfl⟩
        have HU := Lib.hid hu
        rw [hu]
        clear hb2 hu HR o0 o1 o2 o3 o4 hgw
        cases u
        · have HPN : Hid (ApK d L R more i (k + 1) gk) := ⟨HP.out.1, fun h => (HP.out.2.1 h).one fun _ => HU.out, HP.out.2.2⟩
          clear HP HU
          go_wp2_with fail
          go_roundw
          case rel => exact ⟨k + 1, R, more, by omega, rfl, by go_num, HR2, HPN⟩
          case measure => simp [intOf]; omega
        · have HRN := Lib.hid (HR2.out.put HRR.out.1 HRR.out.2.1 k true)
          have HPN : Hid (ApK d L (R.set i ⟨r.A, r.c, r.l.set k true⟩) true i (k + 1) gk) := by
            have h1 : (R.map (·.l))[i]? = some r.l := by rw [List.getElem?_map, HRR.out.1]; rfl
            have h2 := offF_set h1 HRR.out.2.2
            have h3 := HP.out.2.2
            refine ⟨?_, fun h => (by cases h), ?_⟩
            · rw [List.map_set]
              exact HP.out.1.set HG.out HGo.out (by rw [HLL.out]; exact hi) (by rw [HLL.out]; exact hkn) h1 HU.out
            · rw [List.map_set, if_pos rfl]
              show 2 * offF ((R.map (·.l)).set i (r.l.set k true)) + 1 + 1 ≤ gk
              omega
          clear HP HU HR2
          go_wp2_with fail
          go_roundw
          case rel => exact ⟨k + 1, _, true, by omega, rfl, by go_num, HRN, HPN⟩
          case measure => simp [intOf]; omega
      · have HPN : Hid (ApK d L R more i (k + 1) gk) := ⟨HP.out.1, fun h => (HP.out.2.1 h).one fun h' => (by rw [HCE.out] at h'; cases h'), HP.out.2.2⟩
        clear HP HCE
        go_wp2_with fail
        go_roundw
        case rel => exact ⟨k + 1, R, more, by omega, rfl, by go_num, HR, HPN⟩
        case measure => simp [intOf]; omega
    · obtain rfl : k = n := by omega
      have q0 : decide ((k : Int) < (k : Int)) = false := decide_eq_false (by omega)
      have HPN : Hid (ApK d L R more (i + 1) 0 gk) := ⟨HP.out.1, fun h => (HP.out.2.1 h).next (by rw [HLL.out]; exact Nat.le_refl _), HP.out.2.2⟩
      go_wp2_with fail
      exact hexit R more wr _ _ _ _ _ _ _ _ _ _ _ _ _ _ _ _ _ _ _ _ _ _ _ _ _ _ _ _ _ HR HPN
end Go.Proofs.YtebdffabfimmkaaDoor
/- The reference's apart. -/
namespace Go.Proofs.YtebdffabfimmkaaDoor
open Go.RowKit Go.Maps

theorem make_boolss (n : Nat) (hn : n ≤ 1099511627776) (w : World) : (Instr.makeSlice 70 (.int .i64 (n : Int)) (.int .i64 (n : Int))).run Tryd.prog w = .ok (.slice (some ⟨w.heap.size, 0, none⟩) n n) (w.alloc (.cells (madeCells #[.slice none 0 0] n) 68)) :=
  run_make_row' 70 68 (.slice none 0 0) 24 Tryd.underlying70 (by kernel_rfl) rfl .i64 .i64 n (by omega) (by omega) w
def Br.nil : Br := ⟨none, 0, []⟩
theorem GFam.nils (W : World) (base e s : Nat) : ∀ n, GFam W base e s (List.replicate n GRow.nil)
  | 0 => GFam.nil W base e s
  | n + 1 => by
    rw [List.replicate_succ]
    exact (GFam.nils W base e s n).cons_nil
theorem ApR.start (w : World) (n : Nat) (hn : n ≤ 1099511627776) : ApR w (w.alloc (.cells (madeCells #[.slice none 0 0] n) 68)) w.heap.size n n (List.replicate n Br.nil) := by
  refine ⟨?_, ?_, bnew (brefl w) _⟩
  · rw [List.map_replicate]
    exact own_made w (.slice none 0 0) n hn 68 rfl (Nat.le_refl w.heap.size)
  · rw [List.map_replicate]
    exact GFam.nils _ _ _ _ n
theorem ini_start {d : List St} {n : Nat} (h : d.length = n) : IniP d ((List.replicate n Br.nil).map (·.l)) 0 0 := .start (by rw [List.length_map, List.length_replicate, h])
/-- Rows to come are nothing yet. -/
def NilFrom (R : List Br) (i : Nat) : Prop := ∀ (j : Nat) x, i ≤ j → R[j]? = some x → x.A = none
set_option maxRecDepth 100000 in
set_option maxHeartbeats 8000000 in
theorem apart_any (w : World) (B : Nat) (hB : B ≤ w.heap.size) (A : Option Addr) (n c : Nat) (H : List Sh) (h : StsIn w B A n c H) (hg : Good (H.map (·.d))) (Ag : Option Addr) (cg : Nat) (L : List Bool) (hL : Sl w w.heap.size 1 Ag n (L.map .bool)) (hgo : Gone (H.map (·.d)) L) :
    Calls Tryd.prog 39 #[.slice A n c, .slice Ag n cg] w fun e w' => ∃ ob oc R, e = .returned (.slice (some ⟨ob, 0, none⟩) n oc) ∧ ApR w w' ob oc n R ∧ (∀ x ∈ R, x.l.length = n) ∧ Far (H.map (·.d)) (R.map (·.l)) := by
  have HS := Lib.hid h
  have HL := Lib.hid hL
  have hlen := h.len
  obtain ⟨d, hd⟩ : ∃ d, H.map (·.d) = d := ⟨_, rfl⟩
  have HD := Lib.hid hd
  have hll : d.length = n := by rw [← hd, List.length_map]; exact hlen
  have HLL := Lib.hid hll
  rw [hd] at hg hgo ⊢
  have HG := Lib.hid hg
  have HGo := Lib.hid hgo
  have hcm : n ≤ 20000 := by rw [← hll]; exact hg.few
  have hmk := make_boolss n (by omega)
  have HR1 := Lib.hid (ApR.start w n (by omega))
  have HI1 := Lib.hid (ini_start hll)
  have HN1 : Hid (NilFrom (List.replicate n Br.nil) 0) := fun j x _ hx => by
    rw [List.getElem?_replicate] at hx
    split at hx
    · injection hx with hx
      rw [← hx]
      rfl
    · cases hx
  clear h hL hg hgo hd hll
  go_enter Tryd.func39, Tryd.ntmps39
  go_wp2_with fail
  generalize w.alloc (.cells (madeCells #[.slice none 0 0] n) 68) = w1 at *
  obtain ⟨ob, hob⟩ : ∃ k, w.heap.size = k := ⟨_, rfl⟩
  have HR2 : Hid (ApR w w1 ob n n (List.replicate n Br.nil)) := by rw [← hob]; exact HR1.out
  rw [hob]
  clear HR1 hmk hob
  generalize List.replicate n Br.nil = R0 at *
  go_loopw [6] (fun iv wr => ∃ (i : Nat) (R : List Br), i ≤ n ∧ iv = .int .i64 i ∧ Hid (ApR w wr ob n n R) ∧ Hid (IniP d (R.map (·.l)) i 0) ∧ Hid (NilFrom R i)) (fun iv _ => n - (intOf iv).toNat)
  case atStart => exact ⟨0, R0, Nat.zero_le _, rfl, HR2, HI1, HN1⟩
  case round =>
    clear HR2 HI1 HN1
    obtain ⟨i, R, hi, rfl, HR, HI, HN⟩ := hrel
    by_cases hin : i < n
    · have hRn := HR.out.len
      obtain ⟨r, hr⟩ : ∃ r, R[i]? = some r := ⟨R[i]'(by omega), List.getElem?_eq_getElem _⟩
      have hrA := HN.out i r (Nat.le_refl _) hr
      obtain ⟨o0, o1, o2⟩ := HR.out.row hr
      have hi2 : (i : Int) < (n : Int) := by omega
      have hbs := HR.out.bel.size
      have hmk := make_bool n (by omega)
      obtain ⟨o, ho⟩ : ∃ o, Obj.cells (madeCells #[.bool false] n) 4 = o := ⟨_, rfl⟩
      have HRM := Lib.hid (HR.out.make hr hrA (by omega) ho)
      rw [ho] at hmk
      have HRP : Hid (IniR d (R.set i ⟨some ⟨wr.heap.size, 0, none⟩, n, List.replicate n false⟩) (R.set i ⟨some ⟨wr.heap.size, 0, none⟩, n, List.replicate n false⟩) n i 0) := by
        refine ⟨?_, ⟨_, List.getElem?_set_self (List.getElem?_eq_some_iff.1 hr).1, List.length_replicate ..⟩, fun _ _ => rfl⟩
        rw [List.map_set]
        exact HI.out.make _
      have HN2 : Hid (NilFrom (R.set i ⟨some ⟨wr.heap.size, 0, none⟩, n, List.replicate n false⟩) (i + 1)) := fun j x hj hx => by
        rw [List.getElem?_set_ne (by omega)] at hx
        exact HN.out j x (by omega) hx
      rw [hrA] at o0
      generalize r.l.length = rl at o0
      generalize hR1 : R.set i ⟨some ⟨wr.heap.size, 0, none⟩, n, List.replicate n false⟩ = R1 at *
      clear hR1 hr hrA HR HI HN ho
      go_wp2_with fail
      refine apart_j w _ B hB A n c H HS d HD hlen hcm i hin ob n R1 HRM HRP _ _ _ _ _ _ _ _ _ _ _ _ _ _ _ _ _ _ _ _ _ _ _ _ _ _ _ _ _ _ _ _ _ _ _ _ _ _ _ _ _ _ _ _ _ _ _ _ _ _ _ _ _ _ _ _ _ _ _ _ _ _ _ _ _ _ _ _ _ _ _ _ _ _ _ _ _ _ _ _ _ _ (fun c a a' w hd h => by cases a; cases a'; cases hd; exact h) ?_
      intro R W x7 u26 u27 u28 u29 u30 u31 u32 u33 u34 u35 u36 u37 u38 u39 u40 u41 u42 u43 u44 u45 u46 u47 u48 HR HP
      have HI2 : Hid (IniP d (R.map (·.l)) (i + 1) 0) := HP.out.1.next (by rw [HLL.out]; exact Nat.le_refl _) (by rw [HLL.out]; exact hin)
      have HN3 : Hid (NilFrom R (i + 1)) := fun j x hj hx => HN2.out j x hj (by rw [← HP.out.2.2 j (by omega)]; exact hx)
      clear HP HN2 HRM HRP
      go_wp2_with fail
      go_roundw
      case rel => exact ⟨i + 1, R, by omega, by go_num, HR, HI2, HN3⟩
      case measure => simp [intOf]; omega
    · obtain rfl : i = n := by omega
      have HE : Hid (R.map (·.l) = ap0 d) := by
        have h1 := HI.out
        rw [← HLL.out] at h1
        exact h1.last
      have HK0 : Hid (ApP d (R.map (·.l)) ∧ (true = false → ApTo d L (R.map (·.l)) d.length 0)) := ⟨by rw [HE.out]; exact ap0_start d, fun h => by cases h⟩
      clear HI HN HE
      go_wp2_with fail
      go_loopg [8] (2 * offF (R.map (·.l)) + 1) (fun gk mv wr => ∃ (R : List Br) (more : Bool), mv = .bool more ∧ Hid (ApR w wr ob i i R) ∧ Hid (ApP d (R.map (·.l)) ∧ (more = false → ApTo d L (R.map (·.l)) d.length 0)) ∧ Hid (2 * offF (R.map (·.l)) + (if more then 1 else 0) ≤ gk))
      case atStart => exact ⟨R, true, rfl, HR, HK0, Nat.le_refl _⟩
      case round =>
        clear HR HK0
        obtain ⟨R, more, rfl, HR, HP, HK⟩ := hrel
        cases more
        · have HF := Lib.hid (HP.out.1.far HG.out HGo.out (HP.out.2 rfl))
          have HMA : Hid (∀ x ∈ R, x.l.length = i) := fun x hx => by rw [← HLL.out]; exact HP.out.1.row x.l (List.mem_map_of_mem hx)
          clear HP HK
          go_wp2_with fail
          go_ret
          exact ⟨ob, i, rfl, R, HR.out, HMA.out, HF.out⟩
        · have HP2 : Hid (ApK d L R false 0 0 gk) := ⟨HP.out.1, fun _ => .zero _ _ _, HK.out⟩
          clear HP HK
          go_wp2_with fail
          go_loopw [8, 9] (fun mv iv wr => ∃ (q : Nat) (R : List Br) (more : Bool), q ≤ i ∧ mv = .bool more ∧ iv = .int .i64 q ∧ Hid (ApR w wr ob i i R) ∧ Hid (ApK d L R more q 0 gk)) (fun _ iv _ => i - (intOf iv).toNat)
          case atStart => exact ⟨0, R, false, Nat.zero_le _, rfl, rfl, HR, HP2⟩
          case round =>
            clear HR HP2
            obtain ⟨q, R, more, hq, rfl, rfl, HR, HP⟩ := hrel
            by_cases hqn : q < i
            · go_wp2_with fail
              refine apart_k w wr B hB A i c H HS d HD HG hlen hcm Ag cg L HL HGo q hqn ob i gk R more HR HP _ _ _ _ _ _ _ _ _ _ _ _ _ _ _ _ _ _ _ _ _ _ _ _ _ _ _ _ _ _ _ _ _ _ _ _ _ _ _ _ _ _ _ _ _ _ _ _ _ _ _ _ _ _ _ _ _ _ _ _ _ _ _ _ _ _ _ _ _ _ _ _ _ _ _ _ _ _ _ _ (fun c a a' w hd h => by cases a; cases a'; cases hd; exact h) ?_
              intro R more W x10 u56 u57 u58 u59 u60 u61 u62 u63 u64 u65 u66 u67 u68 u69 u70 u71 u72 u73 u74 u75 u76 u77 u78 u79 u80 u81 u82 u83 HR HP
              go_wp2_with fail
              go_roundw
              case rel => exact ⟨q + 1, R, more, by omega, rfl, by go_num, HR, HP⟩
              case measure => simp [intOf]; omega
            · obtain rfl : q = i := by omega
              have HPZ : Hid (ApP d (R.map (·.l)) ∧ (more = false → ApTo d L (R.map (·.l)) d.length 0)) := ⟨HP.out.1, by rw [HLL.out]; exact HP.out.2.1⟩
              have HKZ : Hid (2 * offF (R.map (·.l)) + (if more then 1 else 0) + 1 ≤ gk) := HP.out.2.2
              clear HP
              go_wp2_with fail
              go_roundg (gk - 1)
              case measure => have := HKZ.out; omega
              case rel => exact ⟨R, more, rfl, HR, HPZ, by have := HKZ.out; show _ ≤ _; omega⟩
end Go.Proofs.YtebdffabfimmkaaDoor
