/- The builder in memory. -/
import Derived.Test.YtheickndnniomaaDoorPlan
import Derived.Maps.OwnSet
import Derived.Maps.OwnOps
import Derived.Maps.Ext
import Derived.StringKeys
import Derived.Deep.RegionLawGrows
import Derived.Deep.RegionHeld3
namespace Go.Proofs.YtheickndnniomaaDoor
open Go.RowKit Go.Maps

theorem lawS : Keyed Tryd.prog 9 := string_keyed Tryd.underlying9
def intOfD {H : Type} : DataW H → Int
  | .lit (.int _ n) => n
  | _ => 0
def numD {H : Type} (N : DataW H) (s : List UInt8) : Int := intOfD (N.atKey (.string s) (.lit (.int .i64 0)))
theorem zeroI (w : World) : (zeroValue 3).run Tryd.prog w = .ok (.int .i64 0) w := by kernel_rfl
abbrev siMap {H : Type} (w : World) (b n : Nat) (N : DataW H) : Prop := w.ownsMap Tryd.prog 9 (plainElem Tryd.prog 3) b n N
set_option maxRecDepth 100000 in
theorem look_si {H : Type} {w : World} {b n : Nat} {N : DataW H} (h : siMap w b n N) (s : List UInt8) (hs : s.length ≤ maxLen) :
    (Instr.lookup 61 (.map (some b)) (.string ⟨s.toArray⟩) true).run Tryd.prog w = .ok (.tuple #[.int .i64 (numD N s), .bool (Maps.has N (.string s))]) w := by
  obtain ⟨S, hS⟩ : ∃ S : ByteArray, ⟨s.toArray⟩ = S := ⟨_, rfl⟩
  have hz : S.size ≤ maxLen := by rw [← hS, size_mk]; exact hs
  have hd : S.data.toList = s := by rw [← hS]
  rw [hS]
  obtain ⟨v, ps, hrun, hR⟩ := h.look_ok lawS Tryd.underlying61 (zeroI w) (plainElem_int Tryd.underlying3 (a := 0) (by decide)) (Go.WideMaps.keyOf_string_mk Tryd.underlying9 hz)
  obtain ⟨c, rfl, hc, hw⟩ := plainElem_int_inv Tryd.underlying3 hR
  injection hc with hc _
  rw [hd] at hrun hc
  have e : numD N s = c := by
    unfold numD
    rw [hc]
    rfl
  rw [e]
  exact hrun
/-- The map tells where each text stands. -/
def Known (N : DataW Unit) (ss : List (List UInt8)) : Prop := IsMap N ∧ ∀ s, match idx ss s with
  | some i => Maps.has N (.string s) = true ∧ numD N s = i
  | none => Maps.has N (.string s) = false
theorem known_nil : Known (.map []) [] := ⟨⟨[], rfl⟩, fun _ => rfl⟩
theorem Known.snoc {N : DataW Unit} {ss : List (List UInt8)} (h : Known N ss) {x : List UInt8} (hx : idx ss x = none) : Known (N.put (.string x) (.lit (.int .i64 (ss.length : Nat)))) (ss ++ [x]) := by
  refine ⟨h.1.put _ _, fun s => ?_⟩
  have hs := h.2 s
  rw [idx_snoc]
  by_cases e : x = s
  · subst e
    rw [hx]
    simp only [if_true]
    refine ⟨has_put_same h.1 (by simp [Go.WideAt.IsKeyLit]) _, ?_⟩
    unfold numD
    rw [atKey_put_same h.1 (by simp [Go.WideAt.IsKeyLit])]
    rfl
  · have hne : (Lit.string s) ≠ Lit.string x := by simpa using fun h => e h.symm
    have hn : numD (N.put (.string x) (.lit (.int .i64 (ss.length : Nat)))) s = numD N s := by
      unfold numD
      rw [atKey_put_other hne]
    cases hi : idx ss s with
    | some i =>
      rw [hi] at hs
      exact ⟨(has_put_other hne _).trans hs.1, hn.trans hs.2⟩
    | none =>
      rw [hi] at hs
      simp only [e, if_false]
      exact (has_put_other hne _).trans hs

structure Nh where
  d : Nd
  A : Option Addr
  c : Nat
def Nh.row (h : Nh) : Value := .slice h.A h.d.ways.length h.c
def Nh.hdr (h : Nh) : List Value := [.bool h.d.fin, .int .i64 h.d.out, h.row]
structure NdOk (d : Nd) : Prop where
  out : pos63 d.out
  ways : ∀ x ∈ d.ways, wayP x
  len : d.ways.length ≤ 65536
/-- The builder: its block p, the map's block kb, the row of its nodes v. -/
structure FbAt (W : World) (p kb base : Nat) (v : Value) (hs : List Nh) : Prop where
  blk : W.heap[p]? = some (.cells #[v, .map (some kb)] 63 (0, 0))
  nod : W.ownsRow base 51 3 v hs.length (hs.flatMap Nh.hdr)
  way : ∀ h ∈ hs, W.ownsRow base 55 3 h.row h.d.ways.length (waysC h.d.ways)
  kno : ∃ (n : Nat) (N : DataW Unit), siMap W kb n N ∧ n ≤ hs.length ∧ Known N (hs.map fun h => sgn h.d)
  ok : ∀ h ∈ hs, NdOk h.d
  lp : base ≤ p
  lk : base ≤ kb
theorem grown_below {W W' : World} (h : Below W.heap.size W W') : W.grownBy W' none := ⟨h.os, h.tape, h.output, h.size, fun k hk _ => h.block k hk⟩
theorem FbAt.ne {W : World} {p kb base : Nat} {v : Value} {hs : List Nh} (h : FbAt W p kb base v hs) : p ≠ kb := by
  intro e
  subst e
  obtain ⟨n, N, ⟨es, clock, hb, _⟩, _⟩ := h.kno
  rw [h.blk] at hb
  cases hb
theorem FbAt.lt {W : World} {p kb base : Nat} {v : Value} {hs : List Nh} (h : FbAt W p kb base v hs) : p < W.heap.size ∧ kb < W.heap.size := by
  obtain ⟨n, N, hm, _⟩ := h.kno
  exact ⟨(Array.getElem?_eq_some_iff.1 h.blk).1, hm.lt⟩
/-- What else is written leaves the builder. -/
theorem FbAt.grown {W W' : World} {p kb base : Nat} {v : Value} {hs : List Nh} {row : Option Nat} (h : FbAt W p kb base v hs) (hg : W.grownBy W' row) (h1 : some p ≠ row) (h2 : some kb ≠ row) (h3 : v.ownBlock = none ∨ v.ownBlock ≠ row) (h4 : ∀ x ∈ hs, x.row.ownBlock = none ∨ x.row.ownBlock ≠ row) : FbAt W' p kb base v hs := by
  obtain ⟨n, N, hm, hn, hk⟩ := h.kno
  exact ⟨(hg.block p h.lt.1 h1).trans h.blk, h.nod.kept hg h3, fun x hx => (h.way x hx).kept hg (h4 x hx), ⟨n, N, hm.kept hg h2, hn, hk⟩, h.ok, h.lp, h.lk⟩
theorem own_opt (v : Value) : v.ownBlock = none ∨ v.ownBlock ≠ none := by cases v.ownBlock <;> simp
theorem FbAt.below {W W' : World} {p kb base : Nat} {v : Value} {hs : List Nh} (h : FbAt W p kb base v hs) (hb : Below W.heap.size W W') : FbAt W' p kb base v hs :=
  h.grown (grown_below hb) (by simp) (by simp) (own_opt _) (fun _ _ => own_opt _)
/-- All but the builder's blocks is as it was. -/
structure Fk (p kb : Nat) (v : Value) (W W' : World) : Prop where
  os : W'.os = W.os
  tape : W'.tape = W.tape
  output : W'.output = W.output
  size : W.heap.size ≤ W'.heap.size
  block : ∀ k, k < W.heap.size → k ≠ p → k ≠ kb → v.ownBlock ≠ some k → W'.heap[k]? = W.heap[k]?
theorem Fk.of_grown {p kb : Nat} {v : Value} {W W' : World} {row : Option Nat} (hg : W.grownBy W' row) (h : row = none ∨ row = some p ∨ row = some kb ∨ row = v.ownBlock) : Fk p kb v W W' :=
  ⟨hg.os, hg.tape, hg.output, hg.size, fun k hk h1 h2 h3 => hg.block k hk (by
    intro e
    rcases h with h | h | h | h
    · rw [h] at e; cases e
    · rw [h] at e; injection e with e; exact h1 e
    · rw [h] at e; injection e with e; exact h2 e
    · rw [h] at e; exact h3 e.symm)⟩
theorem Fk.of_below {p kb : Nat} {v : Value} {W W' : World} (h : Below W.heap.size W W') : Fk p kb v W W' := .of_grown (grown_below h) (.inl rfl)
/-- The nodes' row stays, or is new. -/
def Moved (W : World) (v v' : Value) : Prop := v'.ownBlock = v.ownBlock ∨ ∃ g, v'.ownBlock = some g ∧ W.heap.size ≤ g
theorem Moved.refl (W : World) (v : Value) : Moved W v v := .inl rfl
theorem Moved.trans {W W1 : World} {a b c : Value} (h : Moved W a b) (k : Moved W1 b c) (hs : W.heap.size ≤ W1.heap.size) : Moved W a c := by
  rcases k with k | ⟨g, k1, k2⟩
  · rcases h with h | ⟨g, h1, h2⟩
    · exact .inl (k.trans h)
    · exact .inr ⟨g, k.trans h1, h2⟩
  · exact .inr ⟨g, k1, Nat.le_trans hs k2⟩
theorem Moved.ne {W : World} {v v' : Value} (h : Moved W v v') {k : Nat} (hk : k < W.heap.size) (hv : v.ownBlock ≠ some k) : v'.ownBlock ≠ some k := by
  rcases h with h | ⟨g, h1, h2⟩
  · rw [h]; exact hv
  · rw [h1]
    intro e
    injection e with e
    omega
theorem Fk.trans {p kb : Nat} {v v1 : Value} {W W1 W2 : World} (h : Fk p kb v W W1) (k : Fk p kb v1 W1 W2) (hm : Moved W v v1) : Fk p kb v W W2 :=
  ⟨k.os.trans h.os, k.tape.trans h.tape, k.output.trans h.output, Nat.le_trans h.size k.size, fun i hi h1 h2 h3 => (k.block i (Nat.lt_of_lt_of_le hi h.size) h1 h2 (hm.ne hi h3)).trans (h.block i hi h1 h2 h3)⟩
theorem Fk.below {p kb base : Nat} {v : Value} {W W' : World} {hs : List Nh} (h : Fk p kb v W W') (hf : FbAt W p kb base v hs) (hb : base ≤ W.heap.size) : Below base W W' :=
  ⟨h.os, h.tape, h.output, h.size, fun k hk => h.block k (by omega) (by have := hf.lp; omega) (by have := hf.lk; omega) (fun e => by have := (hf.nod.lt k e).1; omega)⟩
/-- A row that is none of the builder's. -/
theorem Fk.row {p kb : Nat} {v x : Value} {W W' : World} {b e s n : Nat} {xs : List Value} (h : Fk p kb v W W') (hx : W.ownsRow b e s x n xs) (h1 : x.ownBlock ≠ some p) (h2 : x.ownBlock ≠ some kb) (h3 : x.ownBlock = none ∨ x.ownBlock ≠ v.ownBlock) : W'.ownsRow b e s x n xs := by
  refine ⟨hx.1, ?_⟩
  rcases hx.2 with hn | ⟨g, cap, cur, rfl, hb, hg, rest⟩
  · exact .inl hn
  · refine .inr ⟨g, cap, cur, rfl, hb, ?_, rest⟩
    have h3' : v.ownBlock ≠ some g := by
      rcases h3 with h3 | h3
      · cases h3
      · exact fun e => h3 e.symm
    exact (h.block g (Array.getElem?_eq_some_iff.1 hg).1 (fun e => h1 (by rw [e]; rfl)) (fun e => h2 (by rw [e]; rfl)) h3').trans hg
theorem set_grown (w : World) (a : Addr) (u : Value) : w.grownBy (w.setCell a u) (some a.block) :=
  ⟨rfl, rfl, rfl, by simp [World.setCell], fun k _ hk => Below.heap_setCell _ _ _ k (fun e => hk (by rw [e]))⟩
theorem blk_set {w : World} {b j : Nat} {C : Array Value} {t : TypeId} {f : Nat × Nat} (h : w.heap[b]? = some (.cells C t f)) (v : Value) : (w.setCell ⟨b, j, none⟩ v).heap[b]? = some (.cells (C.setIfInBounds j v) t f) := by
  simp [World.setCell, Array.getElem?_modify, h]
theorem grown_through {a b c : World} {row : Option Nat} (hb : Below a.heap.size a b) (hg : b.grownBy c row) : a.grownBy c row :=
  ⟨hg.os.trans hb.os, hg.tape.trans hb.tape, hg.output.trans hb.output, Nat.le_trans hb.size hg.size, fun k hk h => (hg.block k (Nat.lt_of_lt_of_le hk hb.size) h).trans (hb.block k hk)⟩
/-- Append of m new elements within a region that draws its order; where the row goes. -/
theorem step_pushg {P : Program} {ops : Array Oper} {o : Oper} {a : Act} {K : Act → World → Prop} {Q : Exit → Act → World → Prop} {E : Prop} (wx : World) (cs : Array Value) (hgd : o.guard = none) (s x : Operand) (t : TypeId)
    (ho : o.op = .call { callee := .builtin .append, args := #[s, x], argTypes := #[t, t] })
    {base e size bytes : Nat} (he : Elem P t e size bytes) (v : Value) (n : Nat) (xs : List Value) (hs : a.eval s = v) (hown : wx.ownsRow base e size v n xs)
    {nb m : Nat} (hx : a.eval x = .slice (some ⟨nb, 0, none⟩) m m) (hxc : wx.heap[nb]? = some (.cells cs e (0, 0)))
    (hl : cs.size = m * size) (h1 : ∀ u ∈ cs.toList, u.oneCell' = true) (hm : 0 < m)
    (h63 : n + m ≤ maxLen) (hbytes : (n + m) * bytes ≤ 140737488355328) (hbase : base ≤ wx.heap.size)
    (h : ∀ g cap w', w'.ownsRow base e size (.slice (some ⟨g, 0, none⟩) (n + m) cap) (n + m) (xs ++ cs.toList) → wx.grownBy w' v.ownBlock → (v.ownBlock = some g ∨ wx.heap.size ≤ g) → K (a.put o.dst (.slice (some ⟨g, 0, none⟩) (n + m) cap)) w') :
    if Region.wanted o (yielded ops a.tmps) = true then Oper.wp P o a wx K Q else E := by
  obtain ⟨ht, i, z, hi, hz, hsz, hby, hzs, hpos⟩ := he
  refine step_append_lies wx hgd s x t ho base e i z size bytes ht hi hz hsz hby hzs hpos v n xs hs hown ⟨nb, 0, none⟩ m m cs.toList hx (by simpa using hl) ?_ h1 hm h63 hbytes hbase _ rfl ?_
  · intro j u hu
    rw [Addr.add_lit, Nat.zero_add, cell_of_row _ nb j cs e (0, 0) hxc]
    simpa using hu
  · intro g cap w' h2 h3 h4 _
    exact h g cap w' h2 h3 (h4.elim .inl fun e => .inr (by omega))
/-- A new node behind the others. -/
theorem fb_push {W3 W4 : World} {p kb base : Nat} {v1 v5 : Value} {hs : List Nh} {hn : Nh} (hblk : W3.heap[p]? = some (.cells #[v1, .map (some kb)] 63 (0, 0)))
    (hnod : W3.ownsRow base 51 3 v1 hs.length (hs.flatMap Nh.hdr)) (hway : ∀ h ∈ hs, W3.ownsRow base 55 3 h.row h.d.ways.length (waysC h.d.ways)) (hws : W3.ownsRow base 55 3 hn.row hn.d.ways.length (waysC hn.d.ways))
    {m : Nat} {N : DataW Unit} (ho : siMap W3 kb m N) (hm : m ≤ hs.length + 1) (hk : Known N ((hs ++ [hn]).map fun h => sgn h.d)) (hok : ∀ h ∈ hs, NdOk h.d) (hokn : NdOk hn.d) (lp : base ≤ p) (lk : base ≤ kb) (hpk : p ≠ kb)
    (hg : W3.grownBy W4 v1.ownBlock) (hown : W4.ownsRow base 51 3 v5 (hs.length + 1) (hs.flatMap Nh.hdr ++ hn.hdr)) : FbAt (W4.setCell ⟨p, 0, none⟩ v5) p kb base v5 (hs ++ [hn]) := by
  have hp3 := (Array.getElem?_eq_some_iff.1 hblk).1
  have hrow : v1.ownBlock ≠ some p := by
    rcases hnod.2 with ⟨rfl, _⟩ | ⟨g, cap, cur, rfl, _, hg', _⟩
    · simp [Value.ownBlock]
    · intro e
      simp only [Value.ownBlock, Option.some.injEq] at e
      subst e
      rw [hg'] at hblk
      injection hblk with hblk
      injection hblk with _ hblk _
      revert hblk
      decide
  have hblk4 : W4.heap[p]? = some (.cells #[v1, .map (some kb)] 63 (0, 0)) := (hg.block p hp3 (fun e => hrow e.symm)).trans hblk
  have other : ∀ {e s n : Nat} {x : Value} {xs : List Value}, W4.ownsRow base e s x n xs → e ≠ 63 → (W4.setCell ⟨p, 0, none⟩ v5).ownsRow base e s x n xs := by
    intro e s n x xs h he
    refine h.kept (set_grown _ _ _) ?_
    rcases h.2 with ⟨rfl, _⟩ | ⟨g, cap, cur, rfl, _, hg', _⟩
    · exact .inl rfl
    · refine .inr fun e' => ?_
      simp only [Value.ownBlock, Option.some.injEq] at e'
      subst e'
      rw [hg'] at hblk4
      injection hblk4 with hblk4
      injection hblk4 with _ hblk4 _
      exact he hblk4
  have wayk : ∀ {n : Nat} {x : Value} {xs : List Value}, W3.ownsRow base 55 3 x n xs → (W4.setCell ⟨p, 0, none⟩ v5).ownsRow base 55 3 x n xs := fun h => other (h.kept hg (own_types hnod h (by decide))) (by decide)
  have hmap : some kb ≠ v1.ownBlock := by
    obtain ⟨es, clock, hb, _⟩ := ho
    rcases hnod.2 with ⟨rfl, _⟩ | ⟨g, cap, cur, rfl, _, hg', _⟩
    · simp [Value.ownBlock]
    · intro e
      simp only [Value.ownBlock, Option.some.injEq] at e
      subst e
      rw [hg'] at hb
      cases hb
  refine ⟨?_, ?_, ?_, ⟨m, N, (ho.kept hg hmap).kept (set_grown _ _ _) (by simpa using Ne.symm hpk), by rw [List.length_append]; exact hm, hk⟩, ?_, lp, lk⟩
  · rw [blk_set hblk4]
    rfl
  · have := other hown (by decide)
    rw [List.length_append, List.flatMap_append]
    simpa using this
  · intro h hh
    rcases List.mem_append.1 hh with hh | hh
    · exact wayk (hway h hh)
    · rw [List.mem_singleton] at hh
      subst hh
      exact wayk hws
  · intro h hh
    rcases List.mem_append.1 hh with hh | hh
    · exact hok h hh
    · rw [List.mem_singleton] at hh
      subst hh
      exact hokn
end Go.Proofs.YtheickndnniomaaDoor
