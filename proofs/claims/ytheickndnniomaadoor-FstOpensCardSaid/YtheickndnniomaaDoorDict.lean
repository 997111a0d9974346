/- A dictionary in memory: Count, Root, Get. -/
import Derived.Test.YtheickndnniomaaDoorBld
import Derived.Test.YtheickndnniomaaDoorNumr
namespace Go.Proofs.YtheickndnniomaaDoor
open Go.RowKit Go.Maps

structure DictAt (W : World) (p B : Nat) (A : Option Addr) (n c : Nat) (base cnt : Int) (hs : List Nh) : Prop where
  blk : W.heap[p]? = some (.cells #[.slice A n c, .int .i64 base, .int .i64 cnt] 78 (0, 0))
  len : hs.length = n
  nod : W.ownsRow B 51 3 (.slice A n c) n (hs.flatMap Nh.hdr)
  way : ∀ h ∈ hs, W.ownsRow B 55 3 h.row h.d.ways.length (waysC h.d.ways)
theorem DictAt.keep {W W' : World} {p B n c : Nat} {A : Option Addr} {base cnt : Int} {hs : List Nh} (h : DictAt W p B A n c base cnt hs) (hb : Below W.heap.size W W') : DictAt W' p B A n c base cnt hs :=
  ⟨(hb.block p (Array.getElem?_eq_some_iff.1 h.blk).1).trans h.blk, h.len, own_kept h.nod hb, fun x hx => own_kept (h.way x hx) hb⟩
theorem DictAt.cells {W : World} {p B n c : Nat} {A : Option Addr} {base cnt : Int} {hs : List Nh} (h : DictAt W p B A n c base cnt hs) : W.cell? ⟨p, 0, none⟩ = some (.slice A n c) ∧ W.cell? ⟨p, 1, none⟩ = some (.int .i64 base) ∧ W.cell? ⟨p, 2, none⟩ = some (.int .i64 cnt) :=
  ⟨cell_of_row _ p 0 _ _ (0, 0) h.blk, cell_of_row _ p 1 _ _ (0, 0) h.blk, cell_of_row _ p 2 _ _ (0, 0) h.blk⟩
theorem DictAt.cap {W : World} {p B n c : Nat} {A : Option Addr} {base cnt : Int} {hs : List Nh} (h : DictAt W p B A n c base cnt hs) : n ≤ c ∧ n ≤ 9223372036854775807 := by
  obtain ⟨A', c', hv, hc⟩ := own_shape h.nod
  injection hv with h1 h2 h3
  subst h3
  refine ⟨hc, ?_⟩
  rcases h.nod.2 with ⟨_, h0⟩ | ⟨g, cap, cur, hv, hb, hg, h1, h2, h3, _⟩
  · omega
  · unfold maxLen at h2; omega
/-- A node's cells. -/
theorem DictAt.node_ {W : World} {p B n c : Nat} {A : Option Addr} {base cnt : Int} {hs : List Nh} (h : DictAt W p B A n c base cnt hs) (h0 : 0 < n) : ∃ g, A = some ⟨g, 0, none⟩ ∧ g < W.heap.size ∧ ∀ i x, hs[i]? = some x →
    W.cell? ⟨g, i * 3, none⟩ = some (.bool x.d.fin) ∧ W.cell? ⟨g, i * 3 + 1, none⟩ = some (.int .i64 x.d.out) ∧ W.cell? ⟨g, i * 3 + 2, none⟩ = some (.slice x.A x.d.ways.length x.c) := by
  obtain ⟨g, rfl, _, hg⟩ := own_head h.nod h0
  refine ⟨g, rfl, hg, fun i x hx => ?_⟩
  have hc : ∀ j u, x.hdr[j]? = some u → j < 3 → W.cell? ⟨g, i * 3 + j, none⟩ = some u := by
    intro j u hu hj
    have := h.nod.cells (g := g) rfl (i * 3 + j) u (by rw [flat_at Nh.hdr 3 (fun _ => rfl) hs i j x hx hj]; exact hu)
    rwa [Addr.add_lit, Nat.zero_add] at this
  exact ⟨hc 0 _ rfl (by omega), hc 1 _ rfl (by omega), hc 2 _ rfl (by omega)⟩
/-- A way's cells. -/
theorem DictAt.way_ {W : World} {p B n c : Nat} {A : Option Addr} {base cnt : Int} {hs : List Nh} (h : DictAt W p B A n c base cnt hs) {x : Nh} (hx : x ∈ hs) (h0 : 0 < x.d.ways.length) : ∃ g, x.A = some ⟨g, 0, none⟩ ∧ g < W.heap.size ∧ ∀ k y, x.d.ways[k]? = some y →
    W.cell? ⟨g, k * 3, none⟩ = some (.int .i64 y.1) ∧ W.cell? ⟨g, k * 3 + 1, none⟩ = some (.int .i64 y.2.1) ∧ W.cell? ⟨g, k * 3 + 2, none⟩ = some (.int .i64 y.2.2) := by
  obtain ⟨g, hA, _, hg⟩ := own_head (h.way x hx) h0
  refine ⟨g, hA, hg, fun k y hy => ?_⟩
  have hr : x.row = .slice (some ⟨g, 0, none⟩) x.d.ways.length x.c := by unfold Nh.row; rw [hA]
  have hc : ∀ j u, (wayC y)[j]? = some u → j < 3 → W.cell? ⟨g, k * 3 + j, none⟩ = some u := by
    intro j u hu hj
    have := (h.way x hx).cells (g := g) (by rw [hr]; rfl) (k * 3 + j) u (by unfold waysC; rw [flat_at wayC 3 (fun _ => rfl) _ k j y hy hj]; exact hu)
    rwa [Addr.add_lit, Nat.zero_add] at this
  exact ⟨hc 0 _ rfl (by omega), hc 1 _ rfl (by omega), hc 2 _ rfl (by omega)⟩
theorem DictAt.caps {W : World} {p B n c : Nat} {A : Option Addr} {base cnt : Int} {hs : List Nh} (h : DictAt W p B A n c base cnt hs) {x : Nh} (hx : x ∈ hs) : x.d.ways.length ≤ x.c ∧ x.d.ways.length ≤ 9223372036854775807 := by
  obtain ⟨A', c', hv, hc⟩ := own_shape (h.way x hx)
  unfold Nh.row at hv
  injection hv with h1 h2 h3
  subst h3
  refine ⟨hc, ?_⟩
  rcases (h.way x hx).2 with ⟨_, h0⟩ | ⟨g, cap, cur, hv, hb, hg, h1, h2, h3, _⟩
  · omega
  · unfold maxLen at h2; omega
/-- Ways lead to nodes ahead; numbers are from 0 on. -/
def Fine (ds : List Nd) : Prop := ∀ (i : Nat) d, ds[i]? = some d → pos63 d.out ∧ ∀ x ∈ d.ways, (0 ≤ x.1 ∧ x.1 ≤ 255) ∧ pos63 x.2.1 ∧ 0 ≤ x.2.2 ∧ x.2.2 < (i : Int)
set_option maxRecDepth 100000 in
theorem count_nil (w : World) : Calls Tryd.prog 17 #[.pointer none] w fun e w' => e = .returned (.tuple #[.int .i64 0, .int .i64 0]) ∧ w' = w := by
  go_enter Tryd.func17, Tryd.ntmps17
  go_wp2_with fail
  go_ret2
  exact ⟨rfl, rfl⟩
set_option maxRecDepth 100000 in
theorem dcount_any (w : World) (p B n c : Nat) (A : Option Addr) (base cnt : Int) (hs : List Nh) (h : DictAt w p B A n c base cnt hs) : Calls Tryd.prog 17 #[.pointer (some ⟨p, 0, none⟩)] w fun e w' => e = .returned (.tuple #[.int .i64 cnt, .int .i64 n]) ∧ Below w.heap.size w w' := by
  obtain ⟨c0, c1, c2⟩ := h.cells
  obtain ⟨_, hn⟩ := h.cap
  clear h
  go_enter Tryd.func17, Tryd.ntmps17
  go_wp2_with fail
  go_quiet (fail)
  go_wp2_with fail
  go_ret2
  exact ⟨rfl, below_drewN (brefl w) _⟩
set_option maxRecDepth 100000 in
theorem root_nil (w : World) : Calls Tryd.prog 20 #[.pointer none] w fun e w' => e = .returned (.tuple #[.int .i64 (-1), .int .i64 0]) ∧ w' = w := by
  go_enter Tryd.func20, Tryd.ntmps20
  go_wp2_with fail
  go_ret2
  exact ⟨rfl, rfl⟩
set_option maxRecDepth 100000 in
theorem root_any (w : World) (p B n c : Nat) (A : Option Addr) (base cnt : Int) (hs : List Nh) (h : DictAt w p B A n c base cnt hs) : Calls Tryd.prog 20 #[.pointer (some ⟨p, 0, none⟩)] w fun e w' => e = .returned (.tuple #[.int .i64 (if n = 0 then -1 else (n : Int) - 1), .int .i64 (if n = 0 then 0 else base)]) ∧ Below w.heap.size w w' := by
  obtain ⟨c0, c1, c2⟩ := h.cells
  obtain ⟨_, hn⟩ := h.cap
  clear h
  by_cases h0 : n = 0
  · subst h0
    go_enter Tryd.func20, Tryd.ntmps20
    go_wp2_with fail
    go_ret2
    exact ⟨rfl, brefl w⟩
  · rw [if_neg h0, if_neg h0]
    have q1 : ((n : Int) == 0) = false := by simpa using h0
    have q2 : (n == 0) = false := by simpa using h0
    have hw : IntKind.i64.wrap ((n : Int) - 1) = (n : Int) - 1 := IntWalk.i64_in _ (by omega)
    go_enter Tryd.func20, Tryd.ntmps20
    go_wp2_with fail
    go_quiet (fail)
    go_wp2_with fail
    go_ret2
    exact ⟨rfl, below_drewN (brefl w) _⟩
/-- The way by a byte. -/
def wayBy (ws : List (Int × Int × Int)) (c : Int) : Option (Int × Int × Int) := ws.find? fun x => x.1 == c
/-- From a node on. -/
def getF (ds : List Nd) : List UInt8 → Nat → Int → Option Int
  | [], a, out => match ds[a]? with
    | some d => if d.fin then some (IntKind.i64.wrap (out + d.out)) else none
    | none => none
  | c :: t, a, out => match ds[a]? with
    | some d => match wayBy d.ways (c.toNat : Nat) with
      | some x => getF ds t x.2.2.toNat (IntKind.i64.wrap (out + x.2.1))
      | none => none
    | none => none
/-- What Get answers. -/
def getD (ds : List Nd) (base : Int) (term : List UInt8) : Option Int := if ds = [] then none else getF ds term (ds.length - 1) base
def optZ (o : Option Int) : Int := o.getD 0
theorem getF_nil {ds : List Nd} {a : Nat} {d : Nd} (h : ds[a]? = some d) (out : Int) : getF ds [] a out = if d.fin then some (IntKind.i64.wrap (out + d.out)) else none := by
  unfold getF
  rw [h]
theorem getF_cons {ds : List Nd} {a : Nat} {d : Nd} (h : ds[a]? = some d) (c : UInt8) (t : List UInt8) (out : Int) : getF ds (c :: t) a out = match wayBy d.ways (c.toNat : Nat) with
      | some x => getF ds t x.2.2.toNat (IntKind.i64.wrap (out + x.2.1))
      | none => none := by
  rw [getF, h]
set_option maxRecDepth 100000 in
theorem get_nil (w : World) (t : List UInt8) : Calls Tryd.prog 18 #[.pointer none, .string ⟨t.toArray⟩] w fun e w' => e = .returned (.tuple #[.int .i64 0, .bool false]) ∧ w' = w := by
  have HR := Lib.hid (root_nil w)
  go_enter Tryd.func18, Tryd.ntmps18
  go_wp2_with fail
  go_step3
  go_wp2_with fail
  refine HR.out.mono ?_
  rintro e w1 ⟨rfl, rfl⟩
  go_wp2_with fail
  try rw [Exit.noGoto_ret]
  go_ret2
  exact ⟨rfl, rfl⟩
set_option maxRecDepth 100000 in
set_option maxHeartbeats 8000000 in
theorem get_any (w : World) (p B n c : Nat) (A : Option Addr) (base cnt : Int) (hs : List Nh) (h : DictAt w p B A n c base cnt hs) (hf : Fine (hs.map (·.d))) (t : List UInt8) (htl : t.length ≤ 1125899906842624) :
    Calls Tryd.prog 18 #[.pointer (some ⟨p, 0, none⟩), .string ⟨t.toArray⟩] w fun e w' => e = .returned (.tuple #[.int .i64 (optZ (getD (hs.map (·.d)) base t)), .bool (getD (hs.map (·.d)) base t).isSome]) ∧ Below w.heap.size w w' := by
  have HR := Lib.hid (root_any w p B n c A base cnt hs h)
  have HD := Lib.hid h
  have HF := Lib.hid hf
  have hlen := h.len
  obtain ⟨_, hn⟩ := h.cap
  clear h hf
  by_cases h0 : n = 0
  · subst h0
    obtain rfl : hs = [] := List.eq_nil_of_length_eq_zero hlen
    have hG : getD (([] : List Nh).map (·.d)) base t = none := if_pos rfl
    rw [hG]
    go_enter Tryd.func18, Tryd.ntmps18
    go_wp2_with fail
    go_step3
    go_wp2_with fail
    refine HR.out.mono ?_
    rintro e w1 ⟨rfl, hb1⟩
    go_wp2_with fail
    try rw [Exit.noGoto_ret]
    go_ret2
    exact ⟨rfl, hb1⟩
  · rw [if_neg h0, if_neg h0] at HR
    have HG : Hid (getD (hs.map (·.d)) base t = getF (hs.map (·.d)) t (n - 1) base) := by
      show _ = _
      unfold getD
      rw [if_neg (by intro e; rw [List.map_eq_nil_iff] at e; subst e; exact h0 hlen.symm), List.length_map, hlen]
    rw [HG.out]
    obtain ⟨R, hR⟩ : ∃ R, getF (hs.map (·.d)) t (n - 1) base = R := ⟨_, rfl⟩
    rw [hR]
    have HRR := Lib.hid hR
    have q0 : decide ((n : Int) - 1 < 0) = false := by simp; omega
    obtain ⟨at0, hat⟩ : ∃ a, n - 1 = a := ⟨_, rfl⟩
    have hat2 : (n : Int) - 1 = (at0 : Int) := by omega
    have hat3 : at0 < n := by omega
    rw [hat] at HRR
    rw [hat2] at HR q0
    clear hR HG hat hat2
    go_enter Tryd.func18, Tryd.ntmps18
    go_wp2_with fail
    go_step3
    go_wp2_with fail
    refine HR.out.mono ?_
    rintro e w1 ⟨rfl, hb1⟩
    go_wp2_with fail
    go_step3
    go_wp2_with fail
    have HB1 := Lib.hid hb1
    have HD1 := Lib.hid (HD.out.keep hb1)
    clear hb1 HD HR q0
    go_loopg [6, 7, 20] t.length (fun g av ov kv wr => ∃ (k a : Nat) (out : Int), k + g = t.length ∧ a < n ∧ kv = .int .i64 k ∧ av = .int .i64 a ∧ ov = .int .i64 out ∧ Hid (getF (hs.map (·.d)) (t.drop k) a out = R) ∧ Hid (Below w1.heap.size w1 wr))
    case atStart => exact ⟨0, at0, base, by omega, hat3, rfl, rfl, rfl, HRR, Lib.hid (brefl w1)⟩
    case round =>
      obtain ⟨k, a, out, hkg, ha, rfl, rfl, rfl, HK, HB⟩ := hrel
      have HD2 := Lib.hid (HD1.out.keep HB.out)
      obtain ⟨c0, _, _⟩ := HD2.out.cells
      obtain ⟨g, rfl, hgl, hnode⟩ := HD2.out.node_ (by omega)
      obtain ⟨x, hx⟩ : ∃ x, hs[a]? = some x := ⟨hs[a]'(by omega), List.getElem?_eq_getElem _⟩
      obtain ⟨n0, n1, n2⟩ := hnode a x hx
      have hxm : (hs.map (·.d))[a]? = some x.d := by rw [List.getElem?_map, hx]; rfl
      obtain ⟨hcx, hcx2⟩ := HD2.out.caps (List.mem_of_getElem? hx)
      have HW := Lib.hid (fun h0 => HD2.out.way_ (List.mem_of_getElem? hx) h0)
      have HFI := Lib.hid ((HF.out a x.d hxm).2)
      have HX := Lib.hid hxm
      have HXX := Lib.hid hx
      obtain ⟨m, hm⟩ : ∃ m, x.d.ways.length = m := ⟨_, rfl⟩
      obtain ⟨XA, hXA⟩ : ∃ a, x.A = a := ⟨_, rfl⟩
      rw [hm] at n2 hcx hcx2
      rw [hXA] at n2 HW
      have HM := Lib.hid hm
      have HXA := Lib.hid hXA
      clear hnode hx hxm hm hXA
      cases gk with
      | succ gk =>
        have hlt : k < t.length := by omega
        obtain ⟨b, hb⟩ : ∃ b, t[k]? = some b := ⟨t[k]'hlt, List.getElem?_eq_getElem _⟩
        have hz := byteN_get t k (by show k < t.toArray.size; simp; omega)
        have hbv : byteN t k = b.toNat := by unfold byteN; rw [List.getD_eq_getElem?_getD, hb]; rfl
        have hbi := byteN_in t k
        have hdrop : t.drop k = b :: t.drop (k + 1) := by
          obtain ⟨h1, h2⟩ := List.getElem?_eq_some_iff.1 hb
          rw [List.drop_eq_getElem_cons h1, h2]
        have HK2 : Hid ((match wayBy x.d.ways (byteN t k : Nat) with
            | some x => getF (hs.map (·.d)) (t.drop (k + 1)) x.2.2.toNat (IntKind.i64.wrap (out + x.2.1))
            | none => none) = R) := by
          show _ = _
          rw [hbv, ← HK.out, hdrop, getF_cons HX.out]
        have hw1 : IntKind.i64.wrap (byteN t k : Int) = (byteN t k : Int) := IntWalk.i64_in _ (by omega)
        obtain ⟨z, hzz⟩ : ∃ z : Int, (byteN t k : Int) = z := ⟨_, rfl⟩
        rw [hzz] at hz hw1 HK2
        clear hb hbv hdrop HK hzz hbi
        go_wp2_with fail
        go_loopg [6, 7, 32] m (fun gg av ov jv wq => ∃ j : Nat, j + gg = m ∧ jv = .int .i64 j ∧ av = .int .i64 a ∧ ov = .int .i64 out ∧ Hid (wayBy (x.d.ways.drop j) z = wayBy x.d.ways z) ∧ Hid (Below w1.heap.size w1 wq))
        case atStart => exact ⟨0, by omega, rfl, rfl, rfl, Lib.hid rfl, HB⟩
        case round =>
          obtain ⟨j, hjg, rfl, rfl, rfl, HJ, HBQ⟩ := hrel
          have hdq := HD1.out.keep HBQ.out
          obtain ⟨c0, _, _⟩ := hdq.cells
          obtain ⟨g2, hg2, hgl2, hnode⟩ := hdq.node_ (by omega)
          obtain rfl : g = g2 := by injection hg2 with hg2; injection hg2
          obtain ⟨n0, n1, n2⟩ := hnode a x HXX.out
          rw [HM.out, HXA.out] at n2
          have HWQ := Lib.hid (fun h0 => hdq.way_ (List.mem_of_getElem? HXX.out) h0)
          rw [HXA.out] at HWQ
          clear hnode hdq hg2
          cases gk with
          | succ gg =>
            obtain ⟨gw, hA, hgw, hway⟩ := HWQ.out (by rw [HM.out]; omega)
            obtain ⟨y, hy⟩ : ∃ y, x.d.ways[j]? = some y := ⟨x.d.ways[j]'(by rw [HM.out]; omega), List.getElem?_eq_getElem _⟩
            obtain ⟨d0, d1, d2⟩ := hway j y hy
            obtain ⟨⟨y0, y1⟩, ⟨y2, y3⟩, y4, y5⟩ := HFI.out y (List.mem_of_getElem? hy)
            have HD : Hid (wayBy (x.d.ways.drop j) z = if y.1 = z then some y else wayBy (x.d.ways.drop (j + 1)) z) := by
              obtain ⟨h1, h2⟩ := List.getElem?_eq_some_iff.1 hy
              show _ = _
              rw [List.drop_eq_getElem_cons h1, h2]
              unfold wayBy
              rw [List.find?_cons]
              by_cases h : y.1 = z
              · have h3 : (y.1 == z) = true := by simpa using h
                rw [h3, if_pos h]
              · have h3 : (y.1 == z) = false := by simpa using h
                rw [h3, if_neg h]
            obtain ⟨yc, yo, yt⟩ := y
            simp only at d0 d1 d2 y0 y1 y2 y3 y4 y5 HD
            obtain ⟨yn, rfl⟩ := Int.eq_ofNat_of_zero_le y4
            subst hA
            have hyn : yn < n := by omega
            have HBX := Lib.hid (HBQ.out.alloc HBQ.out.size (.cells #[.int .i64 yc, .int .i64 yo, .int .i64 yn] 55))
            clear hway hy
            by_cases hc : yc = z
            · have HK3 : Hid (getF (hs.map (·.d)) (t.drop (k + 1)) yn (IntKind.i64.wrap (out + yo)) = R) := by
                show _ = _
                have := HK2.out
                rw [← HJ.out, HD.out, if_pos hc] at this
                exact this
              obtain ⟨S, hS⟩ : ∃ S, IntKind.i64.wrap (out + yo) = S := ⟨_, rfl⟩
              rw [hS] at HK3
              have q1 : (yc == z) = true := by simpa using hc
              subst hc
              clear HK2 HJ HD y4
              go_wp2_with fail
              go_quiet (fail)
              go_wp2_with fail
              go_quiet (fail)
              go_wp2_with fail
              all_goals go_roundg gk
              case rel => exact ⟨k + 1, yn, S, by omega, hyn, by go_num, rfl, rfl, HK3, Lib.hid (below_drewN HBX.out _)⟩
              case measure => omega
            · have q1 : (yc == z) = false := by simpa using hc
              have HJ2 : Hid (wayBy (x.d.ways.drop (j + 1)) z = wayBy x.d.ways z) := by
                show _ = _
                rw [← HJ.out, HD.out, if_neg hc]
              clear y4 HJ HD
              go_wp2_with fail
              go_quiet (fail)
              go_wp2_with fail
              all_goals go_roundg gg
              case rel => exact ⟨j + 1, by omega, by go_num, rfl, rfl, HJ2, Lib.hid (below_drewN HBX.out _)⟩
              case measure => omega
          | zero =>
            have hall : x.d.ways.drop j = [] := List.drop_of_length_le (by rw [HM.out]; omega)
            have HRN : Hid (R = none) := by
              show _ = _
              have h1 := HJ.out
              have h2 := HK2.out
              rw [hall] at h1
              rw [← h1] at h2
              exact h2.symm
            clear hall
            go_wp2_with fail
            try rw [Exit.noGoto_ret]
            go_ret2
            exact ⟨by rw [HRN.out]; rfl, HB1.out.trans (HBQ.out.mono HB1.out.size)⟩
      | zero =>
        have hall : t.drop k = [] := List.drop_of_length_le (by omega)
        have HK2 := HK
        rw [hall, getF_nil HX.out] at HK2
        clear HK hall
        by_cases hfin : x.d.fin = true
        · rw [hfin] at n0
          rw [if_pos hfin] at HK2
          obtain ⟨S, hS⟩ : ∃ S, IntKind.i64.wrap (out + x.d.out) = S := ⟨_, rfl⟩
          rw [hS] at HK2
          go_wp2_with fail
          try rw [Exit.noGoto_ret]
          go_ret2
          exact ⟨by rw [← HK2.out]; rfl, HB1.out.trans (HB.out.mono HB1.out.size)⟩
        · have hfin2 : x.d.fin = false := by simpa using hfin
          rw [hfin2] at n0
          rw [if_neg hfin] at HK2
          go_wp2_with fail
          try rw [Exit.noGoto_ret]
          go_ret2
          exact ⟨by rw [← HK2.out]; rfl, HB1.out.trans (HB.out.mono HB1.out.size)⟩
end Go.Proofs.YtheickndnniomaaDoor
