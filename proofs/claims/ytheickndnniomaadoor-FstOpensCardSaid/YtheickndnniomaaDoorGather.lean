/- fst's All: the closure that gathers terms, by its contract; All. -/
import Derived.Test.YtheickndnniomaaDoorDict
import Derived.Test.YtheickndnniomaaDoorRefnum
namespace Go.Proofs.YtheickndnniomaaDoor
open Go.RowKit Go.Maps

/-- The terms behind a node. -/
def gath (ds : List Nd) : Nat → Nat → List UInt8 → Int → List Ent
  | 0, _, _, _ => []
  | f + 1, i, t, z => match ds[i]? with
    | some d => (if d.fin then [(t, IntKind.i64.wrap (z + d.out))] else []) ++ d.ways.flatMap fun x => gath ds f x.2.2.toNat (t ++ [UInt8.ofNat x.1.toNat]) (IntKind.i64.wrap (z + x.2.1))
    | none => []
theorem gath_s {ds : List Nd} {i : Nat} {d : Nd} (h : ds[i]? = some d) (f : Nat) (t : List UInt8) (z : Int) : gath ds (f + 1) i t z = (if d.fin then [(t, IntKind.i64.wrap (z + d.out))] else []) ++ d.ways.flatMap fun x => gath ds f x.2.2.toNat (t ++ [UInt8.ofNat x.1.toNat]) (IntKind.i64.wrap (z + x.2.1)) := by
  rw [gath, h]
theorem el_ent : Elem Tryd.prog 22 26 2 24 := Elem.mk_ Tryd.underlying22 (z := .agg #[.string ⟨#[]⟩, .int .i64 0]) (by kernel_rfl) rfl (by omega)
/-- All's own blocks: the dictionary's pointer, the entries so far, the closure. -/
structure OutAt (W : World) (p N : Nat) (v : Value) (l : List Ent) : Prop where
  dblk : W.heap[N]? = some (.cells #[.pointer (some ⟨p, 0, none⟩)] 33 (0, 0))
  oblk : W.heap[N + 1]? = some (.cells #[v] 22 (0, 0))
  wblk : W.heap[N + 2]? = some (.cells #[.func (.func 40) #[] #[.pointer (some ⟨N, 0, none⟩), .pointer (some ⟨N + 1, 0, none⟩), .pointer (some ⟨N + 2, 0, none⟩)]] 87 (0, 0))
  own : W.ownsRow (N + 3) 26 2 v l.length (entsC l)
theorem OutAt.lt {W : World} {p N : Nat} {v : Value} {l : List Ent} (h : OutAt W p N v l) : N + 2 < W.heap.size := (Array.getElem?_eq_some_iff.1 h.wblk).1
theorem OutAt.cells {W : World} {p N : Nat} {v : Value} {l : List Ent} (h : OutAt W p N v l) : W.cell? ⟨N, 0, none⟩ = some (.pointer (some ⟨p, 0, none⟩)) ∧ W.cell? ⟨N + 1, 0, none⟩ = some v ∧ W.cell? ⟨N + 2, 0, none⟩ = some (.func (.func 40) #[] #[.pointer (some ⟨N, 0, none⟩), .pointer (some ⟨N + 1, 0, none⟩), .pointer (some ⟨N + 2, 0, none⟩)]) :=
  ⟨cell_of_row _ N 0 _ _ (0, 0) h.dblk, cell_of_row _ (N + 1) 0 _ _ (0, 0) h.oblk, cell_of_row _ (N + 2) 0 _ _ (0, 0) h.wblk⟩
theorem OutAt.free {W : World} {p N : Nat} {v : Value} {l : List Ent} (h : OutAt W p N v l) : W.frozen? ⟨N + 1, 0, none⟩ = false := by
  simp [World.frozen?, h.oblk]
theorem OutAt.below {W W' : World} {p N : Nat} {v : Value} {l : List Ent} (h : OutAt W p N v l) (hb : Below W.heap.size W W') : OutAt W' p N v l := by
  have := h.lt
  exact ⟨(hb.block N (by omega)).trans h.dblk, (hb.block (N + 1) (by omega)).trans h.oblk, (hb.block (N + 2) (by omega)).trans h.wblk, own_kept h.own hb⟩
/-- One entry more. -/
theorem OutAt.push {W W1 : World} {p N : Nat} {v v1 : Value} {l : List Ent} {e : Ent} (h : OutAt W p N v l) (hg : W.grownBy W1 v.ownBlock) (ho : W1.ownsRow (N + 3) 26 2 v1 (l.length + 1) (entsC l ++ entC e)) :
    OutAt (W1.setCell ⟨N + 1, 0, none⟩ v1) p N v1 (l ++ [e]) ∧ Below N W (W1.setCell ⟨N + 1, 0, none⟩ v1) := by
  have hlt := h.lt
  have hne : ∀ k, k < N + 3 → some k ≠ v.ownBlock := fun k hk e => by
    have := (h.own.lt k e.symm).1
    omega
  have b0 := (hg.block N (by omega) (hne N (by omega))).trans h.dblk
  have b1 := (hg.block (N + 1) (by omega) (hne _ (by omega))).trans h.oblk
  have b2 := (hg.block (N + 2) (by omega) (hne _ (by omega))).trans h.wblk
  refine ⟨⟨(Below.heap_setCell _ _ _ N (by show N ≠ N + 1; omega)).trans b0, ?_, (Below.heap_setCell _ _ _ (N + 2) (by show N + 2 ≠ N + 1; omega)).trans b2, ?_⟩, ?_⟩
  · simp [World.setCell, Array.getElem?_modify, b1]
  · have hE : entsC (l ++ [e]) = entsC l ++ entC e := by unfold entsC; rw [List.flatMap_append]; simp
    rw [hE, List.length_append]
    refine ho.kept (set_grown _ _ _) (.inr ?_)
    intro e'
    have := (ho.lt _ e').1
    simp only at this
    omega
  · refine ((Below.refl N W).grown hg (by omega) (fun k hk => ?_)).setCell (by show N ≤ N + 1; omega) _
    have := (h.own.lt k hk).1
    omega
theorem OutAt.grown {W W1 : World} {p N : Nat} {v : Value} {l : List Ent} (h : OutAt W p N v l) (hg : W.grownBy W1 v.ownBlock) : W1.cell? ⟨N + 1, 0, none⟩ = some v ∧ W1.frozen? ⟨N + 1, 0, none⟩ = false := by
  have hlt := h.lt
  have b1 := (hg.block (N + 1) (by omega) (fun e => by have := (h.own.lt _ e.symm).1; omega)).trans h.oblk
  exact ⟨cell_of_row _ (N + 1) 0 _ _ (0, 0) b1, by simp [World.frozen?, b1]⟩
theorem byte_u8 {c : Int} : strOfNums [c] = ⟨#[UInt8.ofNat c.toNat]⟩ := by
  apply ByteArray.ext
  simp [strOfNums]
theorem term_cat (t : List UInt8) (c : Int) (hl : t.length ≤ 1125899906842624) (w : World) : (Op.stringOp .add ⟨t.toArray⟩ (strOfNums [c])).run Tryd.prog w = .ok (.string ⟨(t ++ [UInt8.ofNat c.toNat]).toArray⟩) w := by
  have e : (⟨t.toArray⟩ : ByteArray) ++ strOfNums [c] = ⟨(t ++ [UInt8.ofNat c.toNat]).toArray⟩ := by
    rw [byte_u8]
    apply ByteArray.ext
    simp
  rw [← e]
  exact run_string_add_sum w _ _ (by rw [strOfNums_size, size_mk]; simp; omega)
/-- What the closure does. -/
def WalkPost (w0 : World) (p N : Nat) (l : List Ent) : Ending → World → Prop := fun e w' => e = .returned (.tuple #[]) ∧ ∃ v', OutAt w' p N v' l ∧ Below N w0 w'
set_option maxRecDepth 100000 in
set_option maxHeartbeats 8000000 in
theorem walk_any (w0 : World) (p B n c : Nat) (A : Option Addr) (base cnt : Int) (hs : List Nh) (hd : DictAt w0 p B A n c base cnt hs) (hf : Fine (hs.map (·.d))) (N : Nat) (hN : w0.heap.size = N) :
    ∀ (f i : Nat), i < f → i < n → ∀ (w : World) (v : Value) (l : List Ent) (t : List UInt8) (z : Int), OutAt w p N v l → Below N w0 w → t.length + i ≤ 1125899906842624 → (l ++ gath (hs.map (·.d)) f i t z).length ≤ 4294967296 →
      Calls Tryd.prog 40 #[.int .i64 i, .string ⟨t.toArray⟩, .int .i64 z, .pointer (some ⟨N, 0, none⟩), .pointer (some ⟨N + 1, 0, none⟩), .pointer (some ⟨N + 2, 0, none⟩)] w (WalkPost w0 p N (l ++ gath (hs.map (·.d)) f i t z))
  | 0, i, hi, _, w, v, l, t, z, ho, hb, ht, hl => absurd hi (by omega)
  | f + 1, i, hi, hin, w, v, l, t, z, ho, hb, ht, hl => by
    have IH := Lib.hid (walk_any w0 p B n c A base cnt hs hd hf N hN f)
    have HD := Lib.hid hd
    have hdw : DictAt w p B A n c base cnt hs := hd.keep (by rw [hN]; exact hb)
    have hlen := hd.len
    obtain ⟨c0, _, _⟩ := hdw.cells
    obtain ⟨g, rfl, hgl, hnode⟩ := hdw.node_ (by omega)
    obtain ⟨x, hx⟩ : ∃ x, hs[i]? = some x := ⟨hs[i]'(by omega), List.getElem?_eq_getElem _⟩
    obtain ⟨n0, n1, n2⟩ := hnode i x hx
    have hxm : (hs.map (·.d))[i]? = some x.d := by rw [List.getElem?_map, hx]; rfl
    obtain ⟨hcx, hcx2⟩ := hdw.caps (List.mem_of_getElem? hx)
    obtain ⟨_, hn63⟩ := hdw.cap
    obtain ⟨k0, k1, k2⟩ := ho.cells
    have HFI := Lib.hid (hf i x.d hxm)
    have HX := Lib.hid hx
    have HO := Lib.hid ho
    have HB := Lib.hid hb
    have HNN := Lib.hid hN
    have hN1 : N + 1 < w.heap.size := by have := ho.lt; omega
    have hN0 : N < w.heap.size := by have := ho.lt; omega
    have hlt := ho.lt
    rw [gath_s hxm] at hl ⊢
    have HLL := Lib.hid hl
    obtain ⟨m, hm⟩ : ∃ m, x.d.ways.length = m := ⟨_, rfl⟩
    obtain ⟨XA, hXA⟩ : ∃ a, x.A = a := ⟨_, rfl⟩
    rw [hm] at n2 hcx hcx2
    rw [hXA] at n2
    have HM := Lib.hid hm
    have HXA := Lib.hid hXA
    clear hnode hx hxm hm hXA hl hdw hd hf hN ho hb
    obtain ⟨pre, hpre⟩ : ∃ pre, (if x.d.fin then [(t, IntKind.i64.wrap (z + x.d.out))] else []) = pre := ⟨_, rfl⟩
    rw [hpre] at HLL ⊢
    have HPRE := Lib.hid hpre
    clear hpre
    go_enter Tryd.func40, Tryd.ntmps40
    have hnew := Lib.hid (bnew (brefl w) (.cells #[.bool x.d.fin, .int .i64 x.d.out, .slice XA m x.c] 51))
    have HO2 := Lib.hid (HO.out.below hnew.out)
    have HB2 := Lib.hid (HB.out.trans (hnew.out.mono (show N ≤ w.heap.size by omega)))
    by_cases hfin : x.d.fin = true
    rw [hfin] at n0 HPRE hnew HO2 HB2
    rw [if_pos rfl] at HPRE
    obtain ⟨S, hS⟩ : ∃ S, IntKind.i64.wrap (z + x.d.out) = S := ⟨_, rfl⟩
    rw [hS] at HPRE
    have hbig : l.length + 1 ≤ 4294967296 := by
      have h1 := HLL.out
      rw [← HPRE.out, List.length_append, List.length_append] at h1
      simp at h1
      omega
    have HK9 : Hid (∀ W1, (w.alloc (.cells #[.bool true, .int .i64 x.d.out, .slice XA m x.c] 51)).grownBy W1 v.ownBlock → W1.cell? ⟨w.heap.size, 2, none⟩ = some (.slice XA m x.c)) := by
      intro W1 hg
      have hb := hg.block w.heap.size (by simp) (fun e => by have := (HO.out.own.lt _ e.symm).2; omega)
      exact cell_of_row _ w.heap.size 2 _ _ (0, 0) (hb.trans (heap_alloc_new w _))
    go_wp2_with (at_builtin; refine wpList_push (w.alloc (.cells #[.bool true, .int .i64 x.d.out, .slice XA m x.c] 51)) _ _ rfl _ _ _ rfl el_ent _ _ _ rfl HO2.out.own rfl (by simp) rfl (by simp [Value.oneCell']) (by unfold maxLen; omega) (by omega) (by simp; omega) (Below.refl _ _) ?_; intro v1 w1 hown1 hb1 hg1 _; obtain ⟨A1, c1, rfl, _⟩ := own_shape hown1; obtain ⟨k1w, f1w⟩ := HO2.out.grown hg1; have k9 : w1.cell? ⟨w.heap.size, 2, none⟩ = some (.slice XA m x.c) := HK9.out w1 hg1; have HP1 := Lib.hid (HO2.out.push (e := (t, S)) hg1 hown1))
    have HO3 := Lib.hid HP1.out.1
    have HB3 := Lib.hid (HB2.out.trans HP1.out.2)
    clear HP1 hown1 hb1 hg1 k1w f1w k9 HK9 hnew HO2 HB2 k0 k1 k2 HO HB c0 n0 n1 n2
    rw [HPRE.out] at HO3
    generalize w1.setCell ⟨N + 1, 0, none⟩ (.slice A1 (l.length + 1) c1) = W3 at *
    have HE3 : ∃ v3, Hid (OutAt W3 p N v3 (l ++ pre)) := ⟨_, HO3⟩
    clear HO3 hbig hS hfin HPRE
    rotate_left
    have hfin2 : x.d.fin = false := by simpa using hfin
    rw [hfin2] at n0 HPRE hnew HO2 HB2
    rw [if_neg (by simp)] at HPRE
    go_wp2_with fail
    generalize w.alloc (.cells #[.bool false, .int .i64 x.d.out, .slice XA m x.c] 51) = W3 at *
    have HB3 := HB2
    have HE3 : ∃ v3, Hid (OutAt W3 p N v3 (l ++ pre)) := ⟨_, by rw [← HPRE.out, List.append_nil]; exact HO2⟩
    clear HO2 HB2 hnew HPRE hfin hfin2 k0 k1 k2 HO HB c0 n0 n1 n2
    rotate_left
    all_goals
      obtain ⟨v3, HO3⟩ := HE3
      go_loopw [33] (fun jv wr => ∃ (j : Nat) (v' : Value), j ≤ m ∧ jv = .int .i64 j ∧ Hid (OutAt wr p N v' (l ++ pre ++ (x.d.ways.take j).flatMap fun x => gath (hs.map (·.d)) f x.2.2.toNat (t ++ [UInt8.ofNat x.1.toNat]) (IntKind.i64.wrap (z + x.2.1)))) ∧ Hid (Below N w0 wr)) (fun jv _ => m - (intOf jv).toNat)
      case atStart => exact ⟨0, v3, Nat.zero_le _, rfl, by simpa using HO3, HB3⟩
      case round =>
        obtain ⟨j, v', hj, rfl, HO, HB⟩ := hrel
        by_cases hjm : j < m
        · have hdw : DictAt wr p B (some ⟨g, 0, none⟩) n c base cnt hs := HD.out.keep (by rw [HNN.out]; exact HB.out)
          have hway := hdw.way_ (List.mem_of_getElem? HX.out) (by rw [HM.out]; omega)
          obtain ⟨gw, hA, hgw, hcell⟩ := hway
          rw [HXA.out] at hA
          subst hA
          obtain ⟨y, hy⟩ : ∃ y, x.d.ways[j]? = some y := ⟨x.d.ways[j]'(by rw [HM.out]; omega), List.getElem?_eq_getElem _⟩
          obtain ⟨d0, d1, d2⟩ := hcell j y hy
          obtain ⟨⟨y0, y1⟩, ⟨y2, y3⟩, y4, y5⟩ := HFI.out.2 y (List.mem_of_getElem? hy)
          have HW := Lib.hid (show ((x.d.ways.take (j + 1)).flatMap fun x => gath (hs.map (·.d)) f x.2.2.toNat (t ++ [UInt8.ofNat x.1.toNat]) (IntKind.i64.wrap (z + x.2.1))) = ((x.d.ways.take j).flatMap fun x => gath (hs.map (·.d)) f x.2.2.toNat (t ++ [UInt8.ofNat x.1.toNat]) (IntKind.i64.wrap (z + x.2.1))) ++ gath (hs.map (·.d)) f y.2.2.toNat (t ++ [UInt8.ofNat y.1.toNat]) (IntKind.i64.wrap (z + y.2.1)) by
            rw [List.take_add_one, hy, List.flatMap_append]
            simp)
          have HLE : Hid ((l ++ pre ++ ((x.d.ways.take (j + 1)).flatMap fun x => gath (hs.map (·.d)) f x.2.2.toNat (t ++ [UInt8.ofNat x.1.toNat]) (IntKind.i64.wrap (z + x.2.1)))).length ≤ 4294967296) := by
            show _ ≤ _
            refine Nat.le_trans ?_ HLL.out
            rw [← List.append_assoc]
            conv => rhs; rw [← List.take_append_drop (j + 1) x.d.ways, List.flatMap_append]
            simp only [List.length_append]
            omega
          obtain ⟨yc, yo, yt⟩ := y
          simp only at d0 d1 d2 y0 y1 y2 y3 y4 y5 HW
          obtain ⟨yn, rfl⟩ := Int.eq_ofNat_of_zero_le y4
          obtain ⟨k0, k1, k2⟩ := HO.out.cells
          have hN2 : N + 2 < wr.heap.size := HO.out.lt
          have hnw := Lib.hid (bnew (brefl wr) (.cells #[.int .i64 yc, .int .i64 yo, .int .i64 yn] 55))
          have hcv : (convert 86 9 (.slice (some ⟨wr.heap.size + 1, 0, none⟩) 1 1)).run Tryd.prog ((wr.alloc (.cells #[.int .i64 yc, .int .i64 yo, .int .i64 yn] 55)).alloc (.cells #[.int .u8 yc] 5)) = .ok (.string (strOfNums [yc])) ((wr.alloc (.cells #[.int .i64 yc, .int .i64 yo, .int .i64 yn] 55)).alloc (.cells #[.int .u8 yc] 5)) := by
            have := conv_one (wr.alloc (.cells #[.int .i64 yc, .int .i64 yo, .int .i64 yn] 55)) yc
            simpa using this
          have hcat := term_cat t yc (by omega)
          have HWW : Hid (Below wr.heap.size wr ((wr.alloc (.cells #[.int .i64 yc, .int .i64 yo, .int .i64 yn] 55)).alloc (.cells #[.int .u8 yc] 5))) := bnew (bnew (brefl wr) _) _
          have hw1 : yc % 256 = yc := by omega
          have htl : (t ++ [UInt8.ofNat yc.toNat]).length + yn ≤ 1125899906842624 := by simp; omega
          rw [Int.toNat_natCast] at HW
          obtain ⟨t', ht'⟩ : ∃ t', t ++ [UInt8.ofNat yc.toNat] = t' := ⟨_, rfl⟩
          obtain ⟨T, hT⟩ : ∃ T, strOfNums [yc] = T := ⟨_, rfl⟩
          obtain ⟨S, hS⟩ : ∃ S, IntKind.i64.wrap (z + yo) = S := ⟨_, rfl⟩
          rw [ht'] at hcat HW htl
          rw [hT] at hcat hcv
          rw [hS] at HW
          rw [HW.out, ← List.append_assoc] at HLE
          have HCALL := Lib.hid (IH.out yn (by omega) (by omega) _ v' _ t' S (HO.out.below HWW.out) (HB.out.trans (HWW.out.mono (by omega))) htl HLE.out)
          have HOX := Lib.hid HW.out
          clear hdw hcell hy y4 HW HLE ht' hT HWW htl
          generalize gath (hs.map (·.d)) f yn t' S = add at *
          generalize ((x.d.ways.take j).flatMap fun x => gath (hs.map (·.d)) f x.2.2.toNat (t ++ [UInt8.ofNat x.1.toNat]) (IntKind.i64.wrap (z + x.2.1))) = done at *
          go_wp2_with fail
          refine HCALL.out.mono ?_
          rintro e w5 ⟨rfl, v5, ho5, hb5⟩
          have HO5 := Lib.hid ho5
          have HB5 := Lib.hid hb5
          clear ho5 hb5
          go_wp2_with fail
          go_roundw
          case rel => exact ⟨j + 1, v5, by omega, by go_num, by rw [HOX.out, ← List.append_assoc]; exact HO5, HB5⟩
          case measure => simp [intOf]; omega
        · obtain rfl : j = m := by omega
          have hall : x.d.ways.take j = x.d.ways := List.take_of_length_le (by rw [HM.out]; omega)
          rw [hall, List.append_assoc] at HO
          go_wp2_with fail
          go_end0
          exact ⟨rfl, v', HO.out, HB.out⟩
end Go.Proofs.YtheickndnniomaaDoor
