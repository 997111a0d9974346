/- point.Read's closure. -/
import Derived.Test.YtkhemhiifhggmaaGreatDoorHPr6
import Derived.Test.YtkhemhiifhggmaaGreatDoorHPr1
import Derived.Deep.RegionLawGrows
import Derived.Deep.RegionHeld3
import Derived.Test.YtkhemhiifhggmaaGreatDoorHPr4
set_option maxRecDepth 100000
set_option maxHeartbeats 40000000
namespace Go.Proofs.YtkhemhiifhggmaaGreatDoor
open Go.RowKit Go.Maps
set_option linter.unusedVariables false
structure NxAt (W : World) (rb cb bb : Nat) (t : List UInt8) (bad : Bool) : Prop where
 r : W.heap[rb]? = some (.cells #[.pointer (some ⟨cb, 0, none⟩)] 69 (0, 0))
 b : W.heap[bb]? = some (.cells #[.bool bad] 4 (0, 0))
 c : CurAt W cb t
 rc : rb ≠ cb
 rbb : rb ≠ bb
 cbb : cb ≠ bb
theorem NxAt.keep {W W' : World} {rb cb bb : Nat} {t : List UInt8} {bad : Bool} (h : NxAt W rb cb bb t bad) (hr : W'.heap[rb]? = W.heap[rb]?) (hb : W'.heap[bb]? = W.heap[bb]?) (hc : W'.heap[cb]? = W.heap[cb]?) : NxAt W' rb cb bb t bad :=
 ⟨hr.trans h.r, hb.trans h.b, hc.trans h.c, h.rc, h.rbb, h.cbb⟩
theorem NxAt.below {W W' : World} {rb cb bb : Nat} {t : List UInt8} {bad : Bool} (h : NxAt W rb cb bb t bad) (hb : Below W.heap.size W W') : NxAt W' rb cb bb t bad :=
 h.keep (hb.block _ (Array.getElem?_eq_some_iff.1 h.r).1) (hb.block _ (Array.getElem?_eq_some_iff.1 h.b).1) (hb.block _ (Array.getElem?_eq_some_iff.1 h.c).1)
theorem nxt_any (W : World) (rb cb bb : Nat) (t : List UInt8) (bad : Bool) (h : NxAt W rb cb bb t bad) (ht : t.length ≤ 1125899906842624) :
  Calls Tryz.prog 42 #[.pointer (some ⟨rb, 0, none⟩), .pointer (some ⟨bb, 0, none⟩)] W fun e w' => e = .returned (.int .i64 (readCnt t).1) ∧ NxAt w' rb cb bb (readCnt t).2.2 (bad || decide ((readCnt t).2.1 ≠ 0)) ∧ But (fun k => k = cb ∨ k = bb) W w' := by
 have r0 := cell_of_row W rb 0 _ _ (0, 0) h.r
 simp at r0
 have HN := Lib.hid (count_any W cb t h.c ht)
 have H := Lib.hid h
 generalize (readCnt t).2.2 = u at *
 generalize (readCnt t).2.1 = e at *
 generalize (readCnt t).1 = n at *
 clear h
 go_enter Tryz.func42, Tryz.ntmps42
 go_wp2_with fail
 refine HN.out.mono ?_
 rintro e' w1 ⟨rfl, h1, hg1⟩
 have hrl := (Array.getElem?_eq_some_iff.1 H.out.r).1
 have hbl := (Array.getElem?_eq_some_iff.1 H.out.b).1
 have hr1 := (hg1.block rb hrl (by intro e; injection e with e; exact H.out.rc e)).trans H.out.r
 have hb1 := (hg1.block bb hbl (by intro e; injection e with e; exact H.out.cbb e.symm)).trans H.out.b
 have b0 := cell_of_row w1 bb 0 _ _ (0, 0) hb1
 simp at b0
 have bf : w1.frozen? ⟨bb, 0, none⟩ = false := by simp [World.frozen?, hb1]
 have H1 : Hid (NxAt w1 rb cb bb u bad) := ⟨hr1, hb1, h1, H.out.rc, H.out.rbb, H.out.cbb⟩
 have HB1 : Hid (But (fun k => k = cb ∨ k = bb) W w1) := ⟨hg1.os, hg1.tape, hg1.output, hg1.size, fun k hk hn => hg1.block k hk (by intro e; injection e with e; exact hn (.inl e))⟩
 have HST : Hid (∀ v : Bool, NxAt (w1.setCell ⟨bb, 0, none⟩ (.bool v)) rb cb bb u v ∧ But (fun k => k = cb ∨ k = bb) W (w1.setCell ⟨bb, 0, none⟩ (.bool v))) := fun v => by
  have hs := Below.heap_setCell w1 ⟨bb, 0, none⟩ (.bool v)
  refine ⟨⟨?_, ?_, ?_, H.out.rc, H.out.rbb, H.out.cbb⟩, ⟨HB1.out.os, HB1.out.tape, HB1.out.output, ?_, ?_⟩⟩
  ·exact (hs rb H.out.rbb).trans hr1
  ·simp [World.setCell, Array.getElem?_modify, hb1]
  ·exact (hs cb H.out.cbb).trans h1
  ·simpa [World.setCell] using HB1.out.size
  ·intro k hk hn
   exact (hs k (fun e => hn (.inr e))).trans (HB1.out.block k hk hn)
 clear h1 hg1 hr1 hb1
 cases bad
 ·by_cases he : e = 0
  ·have q1 : (e != 0) = false := by simpa using he
   have HE : Hid ((false || decide (e ≠ 0)) = false) := by show _ = _; simp [he]
   clear he
   go_wp2_with fail
   go_ret
   exact ⟨rfl, by rw [HE.out]; exact HST.out false⟩
  ·have q1 : (e != 0) = true := by simpa using he
   have HE : Hid ((false || decide (e ≠ 0)) = true) := by show _ = _; simp [he]
   clear he
   go_wp2_with fail
   go_ret
   exact ⟨rfl, by rw [HE.out]; exact HST.out true⟩
 ·go_wp2_with fail
  go_ret
  exact ⟨rfl, HST.out true⟩
end Go.Proofs.YtkhemhiifhggmaaGreatDoor
namespace Go.Proofs.YtkhemhiifhggmaaGreatDoor
open Go.RowKit
theorem set_grown (w : World) (a : Addr) (u : Value) : w.grownBy (w.setCell a u) (some a.block) :=
 ⟨rfl, rfl, rfl, by simp [World.setCell], fun k _ hk => Below.heap_setCell _ _ _ k (fun e => hk (by rw [e]))⟩
theorem grown_through {a b c : World} {row : Option Nat} (hb : Below a.heap.size a b) (hg : b.grownBy c row) : a.grownBy c row :=
 ⟨hg.os.trans hb.os, hg.tape.trans hb.tape, hg.output.trans hb.output, Nat.le_trans hb.size hg.size, fun k hk h => (hg.block k (Nat.lt_of_lt_of_le hk hb.size) h).trans (hb.block k hk)⟩
theorem step_pushg {P : Program} {ops : Array Oper} {o : Oper} {a : Act} {K : Act → World → Prop} {Q : Exit → Act → World → Prop} {E : Prop} (wx : World) (cs : Array Value) (hgd : o.guard = none) (s x : Operand) (t : TypeId)
  (ho : o.op = .call { callee := .builtin .append, args := #[s, x], argTypes := #[t, t] })
  {base e size bytes : Nat} (he : Elem P t e size bytes) (v : Value) (n : Nat) (xs : List Value) (hs : a.eval s = v) (hown : wx.ownsRow base e size v n xs)
  {nb m : Nat} (hx : a.eval x = .slice (some ⟨nb, 0, none⟩) m m) (hxc : wx.heap[nb]? = some (.cells cs e (0, 0)))
  (hl : cs.size = m * size) (h1 : ∀ u ∈ cs.toList, u.oneCell' = true) (hm : 0 < m)
  (h63 : n + m ≤ maxLen) (hbytes : (n + m) * bytes ≤ 140737488355328) (hbase : base ≤ wx.heap.size)
  (h : ∀ g cap w', w'.ownsRow base e size (.slice (some ⟨g, 0, none⟩) (n + m) cap) (n + m) (xs ++ cs.toList) → wx.grownBy w' v.ownBlock → (v.ownBlock = some g ∨ wx.heap.size ≤ g) → K (a.put o.dst (.slice (some ⟨g, 0, none⟩) (n + m) cap)) w') :
  if Region.wanted o (yielded ops a.tmps) = true then Oper.wp P o a wx K Q else E := by
 obtain ⟨ht, i, z, hi, hz, hsz, hby, hzs, hpos⟩ := he
 refine step_append_lies wx hgd s x t ho base e i z size bytes ht hi hz hsz hby hzs hpos v n xs hs hown ⟨nb, 0, none⟩ m m cs.toList hx (by simpa using hl) ?_ h1 hm h63 hbytes hbase _ rfl ?_
 ·intro j u hu
  rw [Addr.add_lit, Nat.zero_add, cell_of_row _ nb j cs e (0, 0) hxc]
  simpa using hu
 ·intro g cap w' h2 h3 h4 _
  exact h g cap w' h2 h3 (h4.elim .inl fun e => .inr (by omega))
theorem own_set {w : World} {b e s n k j : Nat} {v u : Value} {xs : List Value} (h : w.ownsRow b e s v n xs) (hb : k < b) : (w.setCell ⟨k, j, none⟩ u).ownsRow b e s v n xs := by
 refine h.kept (set_grown _ _ _) ?_
 cases hv : v.ownBlock with
 | none => exact .inl rfl
 |
  some g =>
  refine .inr fun e => ?_
  injection e with e
  have := (h.lt g hv).1
  simp at e
  omega
theorem below_set {w w' : World} {B k j : Nat} {u : Value} (h : Below B w w') (hk : B ≤ k) (hB : B ≤ w.heap.size) : Below B w (w'.setCell ⟨k, j, none⟩ u) := h.grown (set_grown _ _ _) (Nat.le_trans hB h.size) (fun q hq => by injection hq with hq; simp at hq; omega)
theorem free_at {w : World} {b : Nat} {C : Array Value} {t : TypeId} (h : w.heap[b]? = some (.cells C t (0, 0))) (j : Nat) : w.frozen? ⟨b, j, none⟩ = false := by simp [World.frozen?, h]
theorem own_put {W : World} {base e s n c g j : Nat} {u : Value} {xs : List Value} (h : W.ownsRow base e s (.slice (some ⟨g, 0, none⟩) n c) n xs) : (W.setCell ⟨g, j, none⟩ u).ownsRow base e s (.slice (some ⟨g, 0, none⟩) n c) n (xs.set j u) := by
 obtain ⟨h0, h⟩ := h
 refine ⟨by rw [List.length_set]; exact h0, ?_⟩
 rcases h with ⟨hv, _⟩ | ⟨g', cap, cur, hv, hb, hg, h1, h2, h3, h4⟩
 ·cases hv
 ·injection hv with hv1 _ hv3
  injection hv1 with hv1
  injection hv1 with hv1 _ _
  subst hv1 hv3
  refine .inr ⟨g, c, _, rfl, hb, blk_set hg u, h1, h2, by simpa using h3, ?_⟩
  rw [← h4, Array.toList_setIfInBounds, List.take_set]
end Go.Proofs.YtkhemhiifhggmaaGreatDoor
namespace Go.Proofs.YtkhemhiifhggmaaGreatDoor
open Go.RowKit Go.Maps
set_option linter.unusedVariables false
theorem el_seg : Elem Tryz.prog 22 61 4 32 := Elem.mk_ Tryz.underlying22 (z := .agg #[.int .i64 0, .int .i64 0, .int .i64 0, .int .i64 0]) (by kernel_rfl) rfl (by omega)
def cntR (t : List UInt8) : Option (Int × List UInt8) := if (readCnt t).2.1 = 0 then some ((readCnt t).1, (readCnt t).2.2) else none
def segR (t : List UInt8) : Option (Sg × List UInt8) :=
 (cntR t).bind fun a => (cntR a.2).bind fun b => (cntR b.2).bind fun c => (cntR c.2).bind fun d => some (⟨a.1, b.1, c.1, d.1⟩, d.2)
def segsR : Nat → List UInt8 → Option (List Sg × List UInt8)
 | 0, t => some ([], t)
 | k + 1, t => (segR t).bind fun s => (segsR k s.2).bind fun r => some (s.1 :: r.1, r.2)
structure RdR (w W : World) (rb cb bb pb : Nat) (next : Int) (A : Option Addr) (n cp : Nat) (L : List Sg) (t : List UInt8) (bad : Bool) : Prop where
 nx : NxAt W rb cb bb t bad
 p : W.heap[pb]? = some (.cells #[.int .i64 next, .slice A n cp] 24 (0, 0))
 own : W.ownsRow w.heap.size 61 4 (.slice A n cp) n (L.flatMap Sg.cells)
 len : L.length = n
 bel : Below w.heap.size w W
 lc : w.heap.size ≤ cb
 lb : w.heap.size ≤ bb
 lp : w.heap.size ≤ pb
section
variable {w W W' : World} {rb cb bb pb : Nat} {nxt : Int} {A : Option Addr} {n cp : Nat} {L : List Sg} {t t' : List UInt8} {bad bad' : Bool}
theorem own_but {S : Nat → Prop} {base e s m : Nat} {v : Value} {xs : List Value} (h : W.ownsRow base e s v m xs) (hb : But S W W') (hS : ∀ g cs, W.heap[g]? = some (.cells cs e (0, 0)) → ¬ S g) : W'.ownsRow base e s v m xs := by
 refine ⟨h.1, ?_⟩
 rcases h.2 with hn | ⟨g, cap, cur, rfl, hg, hh, rest⟩
 ·exact .inl hn
 ·exact .inr ⟨g, cap, cur, rfl, hg, hb.at_ hh (hS g cur hh), rest⟩
theorem RdR.next (h : RdR w W rb cb bb pb nxt A n cp L t bad) (hn : NxAt W' rb cb bb t' bad') (hb : But (fun k => k = cb ∨ k = bb) W W') : RdR w W' rb cb bb pb nxt A n cp L t' bad' := by
 have hc : W.heap[cb]? = some (.cells #[.string ⟨t.toArray⟩] 114 (0, 0)) := h.nx.c
 refine ⟨hn, hb.at_ h.p ?_, own_but h.own hb ?_, h.len, h.bel.trans (hb.below h.bel.size ?_), h.lc, h.lb, h.lp⟩
 ·rintro (rfl | rfl)
  ·have := h.p.symm.trans hc
   injection this with this
   injection this with _ this
   cases this
  ·have := h.p.symm.trans h.nx.b
   injection this with this
   injection this with _ this
   cases this
 ·rintro g cs hg (rfl | rfl)
  ·have := hg.symm.trans hc
   injection this with this
   injection this with _ this
   cases this
  ·have := hg.symm.trans h.nx.b
   injection this with this
   injection this with _ this
   cases this
 ·rintro i (rfl | rfl)
  ·exact h.lc
  ·exact h.lb
theorem RdR.below (h : RdR w W rb cb bb pb nxt A n cp L t bad) (hb : Below W.heap.size W W') : RdR w W' rb cb bb pb nxt A n cp L t bad :=
 ⟨h.nx.below hb, (hb.block _ (Array.getElem?_eq_some_iff.1 h.p).1).trans h.p, own_kept h.own hb, h.len, bcall h.bel hb, h.lc, h.lb, h.lp⟩
theorem RdR.push {s : Sg} {g cap : Nat} (h : RdR w W rb cb bb pb nxt A n cp L t bad) {W2 : World} (hW : Below W.heap.size W W2) (hg : W2.grownBy W' (Value.slice A n cp).ownBlock) (ho : W'.ownsRow w.heap.size 61 4 (.slice (some ⟨g, 0, none⟩) (n + 1) cap) (n + 1) (L.flatMap Sg.cells ++ s.cells)) :
  RdR w (W'.setCell ⟨pb, 1, none⟩ (.slice (some ⟨g, 0, none⟩) (n + 1) cap)) rb cb bb pb nxt (some ⟨g, 0, none⟩) (n + 1) cap (L ++ [s]) t bad ∧ W'.heap[pb]? = some (.cells #[.int .i64 nxt, .slice A n cp] 24 (0, 0)) := by
 have hg' := grown_through hW hg
 have hap : ∀ (k : Nat) cs ty, W.heap[k]? = some (.cells cs ty (0, 0)) → ty ≠ 61 → W'.heap[k]? = some (.cells cs ty (0, 0)) := fun k cs ty hk hty =>
  (hg'.block k (Array.getElem?_eq_some_iff.1 hk).1 (by
   intro e
   rcases h.own.2 with ⟨hv, _⟩ | ⟨g0, cap0, cur0, hv, _, hh, _⟩
   ·rw [hv] at e
    simp [Value.ownBlock] at e
   ·rw [hv] at e
    simp [Value.ownBlock] at e
    rw [← e] at hh
    have := hk.symm.trans hh
    injection this with this
    injection this with _ this
    exact hty this)).trans hk
 have hc : W.heap[cb]? = some (.cells #[.string ⟨t.toArray⟩] 114 (0, 0)) := h.nx.c
 have hp' := hap pb _ _ h.p (by decide)
 have hr' := hap rb _ _ h.nx.r (by decide)
 have hb' := hap bb _ _ h.nx.b (by decide)
 have hc' := hap cb _ _ hc (by decide)
 have hs := Below.heap_setCell W' ⟨pb, 1, none⟩ (.slice (some ⟨g, 0, none⟩) (n + 1) cap)
 have hne : ∀ (k : Nat) cs ty, W'.heap[k]? = some (.cells cs ty (0, 0)) → ty ≠ 24 → k ≠ pb := fun k cs ty hk hty e => by
  rw [e] at hk
  have := hk.symm.trans hp'
  injection this with this
  injection this with _ this
  exact hty this
 refine ⟨⟨⟨(hs rb (hne _ _ _ hr' (by decide))).trans hr', (hs bb (hne _ _ _ hb' (by decide))).trans hb', (hs cb (hne _ _ _ hc' (by decide))).trans hc', h.nx.rc, h.nx.rbb, h.nx.cbb⟩, ?_, ?_, by rw [List.length_append, h.len]; rfl, ?_, h.lc, h.lb, h.lp⟩, hp'⟩
 ·have := blk_set (j := 1) hp' (.slice (some ⟨g, 0, none⟩) (n + 1) cap)
  simpa using this
 ·have h2 : W'.ownsRow w.heap.size 61 4 (.slice (some ⟨g, 0, none⟩) (n + 1) cap) (n + 1) ((L ++ [s]).flatMap Sg.cells) := by
   have e : (L ++ [s]).flatMap Sg.cells = L.flatMap Sg.cells ++ s.cells := by simp
   rw [e]
   exact ho
  refine own_but (S := fun k => k = pb) h2 ⟨rfl, rfl, rfl, by simp [World.setCell], fun k hk hn => hs k hn⟩ ?_
  intro g' cs hg2 e
  exact hne g' cs _ hg2 (by decide) e
 ·have hsz := h.bel.size
  refine h.bel.trans ⟨hg'.os, hg'.tape, hg'.output, by simpa [World.setCell] using hg'.size, fun k hk => ?_⟩
  have hkp : k ≠ pb := by have := h.lp; omega
  refine (hs k hkp).trans (hg'.block k (by omega) ?_)
  intro e
  have := (h.own.lt k e.symm).1
  omega
end
theorem segR_some {t : List UInt8} (h1 : (readCnt t).2.1 = 0) (h2 : (readCnt (readCnt t).2.2).2.1 = 0) (h3 : (readCnt (readCnt (readCnt t).2.2).2.2).2.1 = 0) (h4 : (readCnt (readCnt (readCnt (readCnt t).2.2).2.2).2.2).2.1 = 0) :
  segR t = some (⟨(readCnt t).1, (readCnt (readCnt t).2.2).1, (readCnt (readCnt (readCnt t).2.2).2.2).1, (readCnt (readCnt (readCnt (readCnt t).2.2).2.2).2.2).1⟩, (readCnt (readCnt (readCnt (readCnt t).2.2).2.2).2.2).2.2) := by
 unfold segR cntR
 rw [if_pos h1]
 simp only [Option.bind_some]
 rw [if_pos h2]
 simp only [Option.bind_some]
 rw [if_pos h3]
 simp only [Option.bind_some]
 rw [if_pos h4]
 rfl
theorem segR_none {t : List UInt8} (h : ¬ ((readCnt t).2.1 = 0 ∧ (readCnt (readCnt t).2.2).2.1 = 0 ∧ (readCnt (readCnt (readCnt t).2.2).2.2).2.1 = 0 ∧ (readCnt (readCnt (readCnt (readCnt t).2.2).2.2).2.2).2.1 = 0)) : segR t = none := by
 unfold segR cntR
 by_cases h1 : (readCnt t).2.1 = 0
 ·rw [if_pos h1]
  simp only [Option.bind_some]
  by_cases h2 : (readCnt (readCnt t).2.2).2.1 = 0
  ·rw [if_pos h2]
   simp only [Option.bind_some]
   by_cases h3 : (readCnt (readCnt (readCnt t).2.2).2.2).2.1 = 0
   ·rw [if_pos h3]
    simp only [Option.bind_some]
    rw [if_neg fun h4 => h ⟨h1, h2, h3, h4⟩]
    rfl
   ·rw [if_neg h3]
    rfl
  ·rw [if_neg h2]
   rfl
 ·rw [if_neg h1]
  rfl
def RdL (O : Option (List Sg × List UInt8)) (k : Nat) (L : List Sg) (t : List UInt8) (bad : Bool) : Prop :=
 if bad then O = none else O = (segsR k t).map fun r => (L ++ r.1, r.2)
theorem RdL.step {O : Option (List Sg × List UInt8)} {k : Nat} {t : List UInt8} {L : List Sg} (h : RdL O (k + 1) L t false) :
  RdL O k (L ++ [⟨(readCnt t).1, (readCnt (readCnt t).2.2).1, (readCnt (readCnt (readCnt t).2.2).2.2).1, (readCnt (readCnt (readCnt (readCnt t).2.2).2.2).2.2).1⟩]) (readCnt (readCnt (readCnt (readCnt t).2.2).2.2).2.2).2.2
   ((((false || decide ((readCnt t).2.1 ≠ 0)) || decide ((readCnt (readCnt t).2.2).2.1 ≠ 0)) || decide ((readCnt (readCnt (readCnt t).2.2).2.2).2.1 ≠ 0)) || decide ((readCnt (readCnt (readCnt (readCnt t).2.2).2.2).2.2).2.1 ≠ 0)) := by
 have hs : O = ((segR t).bind fun s => (segsR k s.2).bind fun r => some (s.1 :: r.1, r.2)).map fun r => (L ++ r.1, r.2) := h
 by_cases hall : (readCnt t).2.1 = 0 ∧ (readCnt (readCnt t).2.2).2.1 = 0 ∧ (readCnt (readCnt (readCnt t).2.2).2.2).2.1 = 0 ∧ (readCnt (readCnt (readCnt (readCnt t).2.2).2.2).2.2).2.1 = 0
 ·obtain ⟨h1, h2, h3, h4⟩ := hall
  rw [segR_some h1 h2 h3 h4] at hs
  unfold RdL
  rw [if_neg (by simp [h1, h2, h3, h4]), hs]
  simp only [Option.bind_some]
  cases segsR k _ with
  | none => rfl
  | some r => simp
 ·rw [segR_none hall] at hs
  unfold RdL
  rw [if_pos (by
   simp only [Bool.false_or, Bool.or_eq_true, decide_eq_true_eq]
   by_cases h1 : (readCnt t).2.1 = 0
   ·by_cases h2 : (readCnt (readCnt t).2.2).2.1 = 0
    ·by_cases h3 : (readCnt (readCnt (readCnt t).2.2).2.2).2.1 = 0
     ·exact .inr fun h4 => hall ⟨h1, h2, h3, h4⟩
     ·exact .inl (.inr h3)
    ·exact .inl (.inl (.inr h2))
   ·exact .inl (.inl (.inl h1))), hs]
  rfl
end Go.Proofs.YtkhemhiifhggmaaGreatDoor
namespace Go.Proofs.YtkhemhiifhggmaaGreatDoor
open Go.RowKit Go.Maps
set_option linter.unusedVariables false
theorem cnt_less {t : List UInt8} (h : (readCnt t).2.1 = 0) : (readCnt t).2.2.length + 1 ≤ t.length := by
 unfold readCnt at h ⊢
 by_cases hc : (readNum t).2.1 = 0 ∧ (readNum t).1 < 0
 ·rw [if_pos hc] at h
  cases h
 ·rw [if_neg hc] at h ⊢
  unfold readNum at h ⊢
  by_cases he : (numR t).2.2 = 0
  ·rw [if_pos he]
   obtain ⟨k, h1, h2, h3⟩ := numR_k t he
   rw [h1]
   simp only [Int.toNat_natCast, List.length_drop]
   omega
  ·rw [if_neg he] at h
   exact absurd h he
theorem step_fv {ops : Array Oper} {o : Oper} {a : Act} {K : Act → World → Prop} {Q : Exit → Act → World → Prop} {E : Prop} (wx : World) (hgd : o.guard = none) (t f : Nat) (caps : Array Value)
  (ho : o.op = .call { callee := .value (.tmp t), args := #[], argTypes := #[] }) (hx : a.eval (.tmp t) = .func (.func f) #[] caps) (hen : ∀ args w, (callFunc f args).run Tryz.prog w = .ok (.enter f args) w) (S : Value) {R : World → Prop} (hc : Calls Tryz.prog f caps wx fun e w' => e = .returned S ∧ R w')
  (h : ∀ w', R w' → K (a.put o.dst S) w') :
  if Region.wanted o (yielded ops a.tmps) = true then Oper.wp Tryz.prog o a wx K Q else E := by
 have hw : Region.wanted o (yielded ops a.tmps) = true := by simp [Region.wanted, hgd]
 rw [if_pos hw]
 unfold Oper.wp
 have he : (execOp a.eval o).run Tryz.prog wx = .ok (.enter f caps) wx := by
  have hx' : a.tmps[t]?.getD undef = .func (.func f) #[] caps := by simpa [go_sem] using hx
  simp [execOp, ho, go_sem, hx', hen]
 rw [he, Oper.upon_enter]
 refine hc.mono ?_
 rintro e w' ⟨rfl, hb⟩
 exact h w' hb
theorem read_o (w W0 : World) (t0 : List UInt8) (ht0 : t0.length ≤ 1099511627000) (rb cb bb pb : Nat) (nxt : Int) (O : Option (List Sg × List UInt8)) (N : Nat) (hN : N ≤ 9223372036854775807) (bad0 : Bool) (HR0 : Hid (RdR w W0 rb cb bb pb nxt none 0 0 [] t0 bad0)) (HL0 : Hid (RdL O N [] t0 bad0))
  (c0 c1 c2 c3 c4 c5 c6 c11 c12 c13 c14 c15 c16 c17 c18 c19 c20 c21 c22 c23 c24 c25 c26 c49 c50 c51 c52 c53 c54 c55 c56 c57 c58 c59 c60 c61 u27 u28 u29 u30 u31 u32 u33 u34 u35 u36 u37 u38 u39 u40 u41 u42 u43 u44 u45 u46 u47 u48 : Value) (Q0 : Exit → Act → World → Prop) (hQ0 : ∀ c (a a' : Act) w, a.defers = a'.defers → Q0 (.panic c) a w → Q0 (.panic c) a' w)
  (hexit : ∀ (k m cp : Nat) (A : Option Addr) (L : List Sg) (t : List UInt8) (bad : Bool) (W : World) (u27 u28 u29 u30 u31 u32 u33 u34 u35 u36 u37 u38 u39 u40 u41 u42 u43 u44 u45 u46 u47 u48 : Value), Hid (RdR w W rb cb bb pb nxt A m cp L t bad) → Hid (RdL O k L t bad) → Hid ((k = 0 ∨ bad = true) ∧ m ≤ 1099511627000 ∧ t.length ≤ t0.length) → Q0 (.exit 0) ⟨List.toArray (c0 :: c1 :: c2 :: c3 :: c4 :: c5 :: c6 :: .pointer (some ⟨bb, 0, none⟩) :: .func (.func 42) #[] #[.pointer (some ⟨rb, 0, none⟩), .pointer (some ⟨bb, 0, none⟩)] :: .pointer (some ⟨pb, 0, none⟩) :: .int .i64 (k : Int) :: c11 :: c12 :: c13 :: c14 :: c15 :: c16 :: c17 :: c18 :: c19 :: c20 :: c21 :: c22 :: c23 :: c24 :: c25 :: c26 :: u27 :: u28 :: u29 :: u30 :: u31 :: u32 :: u33 :: u34 :: u35 :: u36 :: u37 :: u38 :: u39 :: u40 :: u41 :: u42 :: u43 :: u44 :: u45 :: u46 :: u47 :: u48 :: c49 :: c50 :: c51 :: c52 :: c53 :: c54 :: c55 :: c56 :: c57 :: c58 :: c59 :: c60 :: c61 :: []), []⟩ W) :
  Code.wp Tryz.prog (.loop (loopOf Tryz.f17 0)) Q0 ⟨List.toArray (c0 :: c1 :: c2 :: c3 :: c4 :: c5 :: c6 :: .pointer (some ⟨bb, 0, none⟩) :: .func (.func 42) #[] #[.pointer (some ⟨rb, 0, none⟩), .pointer (some ⟨bb, 0, none⟩)] :: .pointer (some ⟨pb, 0, none⟩) :: .int .i64 (N : Int) :: c11 :: c12 :: c13 :: c14 :: c15 :: c16 :: c17 :: c18 :: c19 :: c20 :: c21 :: c22 :: c23 :: c24 :: c25 :: c26 :: u27 :: u28 :: u29 :: u30 :: u31 :: u32 :: u33 :: u34 :: u35 :: u36 :: u37 :: u38 :: u39 :: u40 :: u41 :: u42 :: u43 :: u44 :: u45 :: u46 :: u47 :: u48 :: c49 :: c50 :: c51 :: c52 :: c53 :: c54 :: c55 :: c56 :: c57 :: c58 :: c59 :: c60 :: c61 :: []), []⟩ W0 := by
 conv => arg 2; arg 1; whnf
 go_loopw [10] (fun nv wr => ∃ (k m cp : Nat) (A : Option Addr) (L : List Sg) (t : List UInt8) (bad : Bool), nv = .int .i64 (k : Int) ∧ k ≤ 9223372036854775807 ∧ Hid (RdR w wr rb cb bb pb nxt A m cp L t bad) ∧ Hid (RdL O k L t bad) ∧ Hid ((bad = false → 4 * m + t.length ≤ t0.length) ∧ m ≤ 1099511627000 ∧ t.length ≤ t0.length)) (fun nv _ => (intOf nv).toNat)
 case atStart => exact ⟨N, 0, 0, none, [], t0, bad0, rfl, hN, HR0, HL0, Lib.hid ⟨fun _ => by omega, by omega, Nat.le_refl _⟩⟩
 case round =>
  clear HR0 HL0
  obtain ⟨k, m, cp, A, L, t, bad, rfl, hk63, HX, HL, HM⟩ := hrel
  have c0 := cell_of_row wr bb 0 _ _ (0, 0) HX.out.nx.b
  simp at c0
  cases bad
  ·cases k with
   |
    zero =>
    go_wp2_with fail
    exact hexit 0 m cp A L t false wr _ _ _ _ _ _ _ _ _ _ _ _ _ _ _ _ _ _ _ _ _ _ HX HL (Lib.hid ⟨.inl rfl, HM.out.2.1, HM.out.2.2⟩)
   |
    succ k =>
    have q0 : decide (((k + 1 : Nat) : Int) > 0) = true := decide_eq_true (by omega)
    have hm4 := HM.out.1 rfl
    have hk1 : ((k + 1 : Nat) : Int) - 1 = (k : Int) := by omega
    have hk2 : (k : Int) + 1 - 1 = (k : Int) := by omega
    have HLS := Lib.hid HL.out.step
    have HLEN : Hid ((readCnt t).2.2.length ≤ t.length ∧ (readCnt (readCnt t).2.2).2.2.length ≤ t.length ∧ (readCnt (readCnt (readCnt t).2.2).2.2).2.2.length ≤ t.length ∧ (readCnt (readCnt (readCnt (readCnt t).2.2).2.2).2.2).2.2.length ≤ t.length) := by
     have h1 := readCnt_short t
     have h2 := readCnt_short (readCnt t).2.2
     have h3 := readCnt_short (readCnt (readCnt t).2.2).2.2
     have h4 := readCnt_short (readCnt (readCnt (readCnt t).2.2).2.2).2.2
     exact ⟨h1, by omega, by omega, by omega⟩
    have HLES : Hid ((((((false || decide ((readCnt t).2.1 ≠ 0)) || decide ((readCnt (readCnt t).2.2).2.1 ≠ 0)) || decide ((readCnt (readCnt (readCnt t).2.2).2.2).2.1 ≠ 0)) || decide ((readCnt (readCnt (readCnt (readCnt t).2.2).2.2).2.2).2.1 ≠ 0)) = false) → (readCnt (readCnt (readCnt (readCnt t).2.2).2.2).2.2).2.2.length + 4 ≤ t.length) := fun h => by
     simp only [Bool.false_or, Bool.or_eq_false_iff, decide_eq_false_iff_not, Decidable.not_not] at h
     obtain ⟨⟨⟨h1, h2⟩, h3⟩, h4⟩ := h
     have := cnt_less h1
     have := cnt_less h2
     have := cnt_less h3
     have := cnt_less h4
     omega
    have hT := HM.out.2.2
    have HEN := Lib.hid (enters_of Tryz.func42 (by kernel_rfl) rfl)
    have HC1 := Lib.hid (fun W h => nxt_any W rb cb bb t false h (by omega))
    have HC2 := Lib.hid (fun W h => nxt_any W rb cb bb (readCnt t).2.2 (false || decide ((readCnt t).2.1 ≠ 0)) h (by have := HLEN.out.1; omega))
    have HC3 := Lib.hid (fun W h => nxt_any W rb cb bb (readCnt (readCnt t).2.2).2.2 ((false || decide ((readCnt t).2.1 ≠ 0)) || decide ((readCnt (readCnt t).2.2).2.1 ≠ 0)) h (by have := HLEN.out.2.1; omega))
    have HC4 := Lib.hid (fun W h => nxt_any W rb cb bb (readCnt (readCnt (readCnt t).2.2).2.2).2.2 (((false || decide ((readCnt t).2.1 ≠ 0)) || decide ((readCnt (readCnt t).2.2).2.1 ≠ 0)) || decide ((readCnt (readCnt (readCnt t).2.2).2.2).2.1 ≠ 0)) h (by have := HLEN.out.2.2.1; omega))
    have HMN : Hid ((((((false || decide ((readCnt t).2.1 ≠ 0)) || decide ((readCnt (readCnt t).2.2).2.1 ≠ 0)) || decide ((readCnt (readCnt (readCnt t).2.2).2.2).2.1 ≠ 0)) || decide ((readCnt (readCnt (readCnt (readCnt t).2.2).2.2).2.2).2.1 ≠ 0)) = false → 4 * (m + 1) + (readCnt (readCnt (readCnt (readCnt t).2.2).2.2).2.2).2.2.length ≤ t0.length) ∧ m + 1 ≤ 1099511627000 ∧ (readCnt (readCnt (readCnt (readCnt t).2.2).2.2).2.2).2.2.length ≤ t0.length) := ⟨fun h => by have := HLES.out h; omega, by omega, by have := HLEN.out.2.2.2; omega⟩
    clear HL HM HLEN HLES
    generalize hb1 : (false || decide ((readCnt t).2.1 ≠ 0)) = b1 at *
    generalize hz1 : (readCnt t).1 = z1 at *
    generalize ht1 : (readCnt t).2.2 = t1 at *
    clear hb1 hz1 ht1
    generalize hb2 : (b1 || decide ((readCnt t1).2.1 ≠ 0)) = b2 at *
    generalize hz2 : (readCnt t1).1 = z2 at *
    generalize ht2 : (readCnt t1).2.2 = t2 at *
    clear hb2 hz2 ht2
    generalize hb3 : (b2 || decide ((readCnt t2).2.1 ≠ 0)) = b3 at *
    generalize hz3 : (readCnt t2).1 = z3 at *
    generalize ht3 : (readCnt t2).2.2 = t3 at *
    clear hb3 hz3 ht3
    generalize hb4 : (b3 || decide ((readCnt t3).2.1 ≠ 0)) = b4 at *
    generalize hz4 : (readCnt t3).1 = z4 at *
    generalize ht4 : (readCnt t3).2.2 = t4 at *
    clear hb4 hz4 ht4
    have c1 := cell_of_row wr pb 1 _ _ (0, 0) HX.out.p
    simp at c1
    go_wp2_with fail
    refine Go.wp_region_noPanic ?_
    go_region_law (
     first
      | (
        refine step_fv _ rfl 37 42 #[.pointer (some ⟨rb, 0, none⟩), .pointer (some ⟨bb, 0, none⟩)] rfl rfl HEN.out _ (HC1.out _ (HX.out.nx.below (by repeat (first | exact brefl _ | refine Below.drew ?_)))) ?_
        rintro W1 ⟨hn1, hg1⟩
        have HX := Lib.hid ((HX.out.below (by repeat (first | exact brefl _ | refine Below.drew ?_))).next hn1 hg1)
        have c1 := cell_of_row W1 pb 1 _ _ (0, 0) HX.out.p
        simp at c1
        have hp1 : pb < W1.heap.size := (Array.getElem?_eq_some_iff.1 HX.out.p).1
        clear hn1 hg1)
      | (
        refine step_fv _ rfl 39 42 #[.pointer (some ⟨rb, 0, none⟩), .pointer (some ⟨bb, 0, none⟩)] rfl rfl HEN.out _ (HC2.out _ (HX.out.nx.below (by repeat (first | exact brefl _ | refine Below.drew ?_)))) ?_
        rintro W2 ⟨hn2, hg2⟩
        have HX := Lib.hid ((HX.out.below (by repeat (first | exact brefl _ | refine Below.drew ?_))).next hn2 hg2)
        have c1 := cell_of_row W2 pb 1 _ _ (0, 0) HX.out.p
        simp at c1
        have hp2 : pb < W2.heap.size := (Array.getElem?_eq_some_iff.1 HX.out.p).1
        clear hn2 hg2)
      | (
        refine step_fv _ rfl 41 42 #[.pointer (some ⟨rb, 0, none⟩), .pointer (some ⟨bb, 0, none⟩)] rfl rfl HEN.out _ (HC3.out _ (HX.out.nx.below (by repeat (first | exact brefl _ | refine Below.drew ?_)))) ?_
        rintro W3 ⟨hn3, hg3⟩
        have HX := Lib.hid ((HX.out.below (by repeat (first | exact brefl _ | refine Below.drew ?_))).next hn3 hg3)
        have c1 := cell_of_row W3 pb 1 _ _ (0, 0) HX.out.p
        simp at c1
        have hp3 : pb < W3.heap.size := (Array.getElem?_eq_some_iff.1 HX.out.p).1
        clear hn3 hg3)
      | (
        refine step_fv _ rfl 43 42 #[.pointer (some ⟨rb, 0, none⟩), .pointer (some ⟨bb, 0, none⟩)] rfl rfl HEN.out _ (HC4.out _ (HX.out.nx.below (by repeat (first | exact brefl _ | refine Below.drew ?_)))) ?_
        rintro W4 ⟨hn4, hg4⟩
        have HX := Lib.hid ((HX.out.below (by repeat (first | exact brefl _ | refine Below.drew ?_))).next hn4 hg4)
        have c1 := cell_of_row W4 pb 1 _ _ (0, 0) HX.out.p
        simp at c1
        have hp4 : pb < W4.heap.size := (Array.getElem?_eq_some_iff.1 HX.out.p).1
        clear hn4 hg4)
      | (
        refine step_pushg (base := w.heap.size) _ #[.int .i64 z1, .int .i64 z2, .int .i64 z3, .int .i64 z4] ?gd (.tmp 36) (.tmp 46) 22 ?ho el_seg (.slice A m cp) m (L.flatMap Sg.cells) ?hs ?own (nb := W4.heap.size) (m := 1) ?hx ?hxc ?hl ?h1 ?hm ?h63 ?hby ?hba ?_
        case gd => rfl
        case ho => rfl
        case hs => rfl
        case own => exact own_kept HX.out.own (by repeat (first | exact brefl _ | refine Below.drew ?_ | refine bnew ?_ _))
        case hx => rfl
        case hxc => first | exact heap_alloc_new _ _ | (simp; done)
        case hl => rfl
        case h1 => simp [Value.oneCell']
        case hm => omega
        case h63 => unfold maxLen; omega
        case hby => omega
        case hba => exact Nat.le_trans HX.out.bel.size (Below.size (B := W4.heap.size) (by repeat (first | exact brefl _ | refine Below.drew ?_ | refine bnew ?_ _)))
        intro g cap w7 hown7 hg7 hgm
        have HPS := Lib.hid (HX.out.push (s := ⟨z1, z2, z3, z4⟩) (by repeat (first | exact brefl _ | refine Below.drew ?_ | refine bnew ?_ _)) hg7 hown7)
        have bf7 : w7.frozen? ⟨pb, 1, none⟩ = false := by simp [World.frozen?, HPS.out.2]
        have c7 := cell_of_row w7 pb 1 _ _ (0, 0) HPS.out.2
        simp at c7
        clear hown7 hg7 hgm))
    all_goals
     dsimp only [NoPanic]
     have HRN := Lib.hid HPS.out.1
     clear HX HC1 HC2 HC3 HC4 HEN bf7 c7 HPS
     go_wp2_with fail
     go_roundw
     case rel => exact ⟨k, m + 1, cap, some ⟨g, 0, none⟩, _, t4, b4, by go_num, by omega, HRN, HLS, HMN⟩
     case measure => simp [intOf]
  ·go_wp2_with fail
   all_goals exact hexit k m cp A L t true wr _ _ _ _ _ _ _ _ _ _ _ _ _ _ _ _ _ _ _ _ _ _ HX HL (Lib.hid ⟨.inr rfl, HM.out.2.1, HM.out.2.2⟩)
end Go.Proofs.YtkhemhiifhggmaaGreatDoor
namespace Go.Proofs.YtkhemhiifhggmaaGreatDoor
open Go.RowKit Go.Maps Go.Sort
set_option linter.unusedVariables false
structure RowsKeep (W W' : World) : Prop where
 size : W.heap.size ≤ W'.heap.size
 row : ∀ (g : Nat) (cs : Array Value) (ty : TypeId) (fr : Nat × Nat), W.heap[g]? = some (.cells cs ty fr) → ty ≠ 81 → W'.heap[g]? = some (.cells cs ty fr)
theorem RowsKeep.refl (W : World) : RowsKeep W W := ⟨Nat.le_refl _, fun _ _ _ _ h _ => h⟩
theorem RowsKeep.trans {a b c : World} (h : RowsKeep a b) (k : RowsKeep b c) : RowsKeep a c := ⟨Nat.le_trans h.size k.size, fun g cs ty fr hg ht => k.row g cs ty fr (h.row g cs ty fr hg ht) ht⟩
theorem RowsKeep.below {W W' : World} (h : Below W.heap.size W W') : RowsKeep W W' := ⟨h.size, fun g cs ty fr hg _ => (h.block g (Array.getElem?_eq_some_iff.1 hg).1).trans hg⟩
theorem RowsKeep.of_fr {H : Type} {W W' : World} {F : Foot} {D : DS H} (hd : DiskAt W F D) (h : Fr F W W') : RowsKeep W W' := by
 refine ⟨h.size, fun g cs ty fr hg ht => (h.block g (Array.getElem?_eq_some_iff.1 hg).1 ?_ ?_ ?_ ?_).trans hg⟩
 ·intro e
  rw [e, hd.blk] at hg
  injection hg with hg
  injection hg with _ hg
  exact ht hg.symm
 ·obtain ⟨n, _, hm⟩ := hd.fil
  exact fun e => map_ne_cells hm hg e.symm
 ·obtain ⟨n, _, hm⟩ := hd.nam
  exact fun e => map_ne_cells hm hg e.symm
 ·obtain ⟨n, _, hm⟩ := hd.kep
  exact fun e => map_ne_cells hm hg e.symm
theorem RowsKeep.own {W W' : World} (h : RowsKeep W W') {base e s n : Nat} {v : Value} {xs : List Value} (ho : W.ownsRow base e s v n xs) (he : e ≠ 81) : W'.ownsRow base e s v n xs := by
 refine ⟨ho.1, ?_⟩
 rcases ho.2 with hn | ⟨g, cap, cur, rfl, hg, hh, rest⟩
 ·exact .inl hn
 ·exact .inr ⟨g, cap, cur, rfl, hg, h.row g _ _ _ hh he, rest⟩
theorem RowsKeep.cell {W W' : World} (h : RowsKeep W W') {b o : Nat} {cs : Array Value} {ty : TypeId} {fr : Nat × Nat} {u : Value} (hb : W.heap[b]? = some (.cells cs ty fr)) (ht : ty ≠ 81) (hu : cs[o]? = some u) : W'.cell? ⟨b, o, none⟩ = some u := by
 rw [cell_of_row W' b o cs ty fr (h.row b cs ty fr hb ht)]
 exact hu
section
variable {H : Type} {w W W' : World} {p : Nat} {D D' : DS H}
theorem Own.byr (h : Own w W p D) {x : Value} {f : Nat} {av : Array Value} (hc : ∀ F : Foot, F.p = p → DiskAt W F D → Calls Tryz.prog f av W fun e w' => e = .returned x ∧ DiskAt w' F D' ∧ Fr F W w') :
  Calls Tryz.prog f av W fun e w' => e = .returned x ∧ Own w w' p D' ∧ RowsKeep W w' := by
 obtain ⟨F, e, h1, h2, h3, h4, h5, h6⟩ := h
 refine (hc F e h1).mono fun e' w' hh => ?_
 obtain ⟨r1, r2, r3⟩ := hh
 exact ⟨r1, ⟨F, e, r2, r3.under h2 h2.size h3 h4 h5 h6, h3, h4, h5, h6⟩, RowsKeep.of_fr h1 r3⟩
theorem Own.byn (h : Own w W p D) {x : Value} {f : Nat} {av : Array Value} (hc : ∀ F : Foot, F.p = p → DiskAt W F D → Calls Tryz.prog f av W fun e w' => e = .returned x ∧ NewFoot W F D' w' ∧ Fr F W w') :
  Calls Tryz.prog f av W fun e w' => e = .returned x ∧ Own w w' p D' ∧ RowsKeep W w' := by
 obtain ⟨F, e, h1, h2, h3, h4, h5, h6⟩ := h
 refine (hc F e h1).mono fun e' w' hh => ?_
 obtain ⟨r1, ⟨F', q1, q2, q3, q4, q5⟩, r3⟩ := hh
 have hs := h2.size
 exact ⟨r1, ⟨F', q1.trans e, q5, r3.under h2 h2.size h3 h4 h5 h6, by rw [q1]; exact h3, by rcases q2 with q | q <;> omega, by rcases q3 with q | q <;> omega, by rcases q4 with q | q <;> omega⟩, RowsKeep.of_fr h1 r3⟩
theorem dr_create (h : Own w W p D) (hf : D.fits) (s : ByteArray) (hs : s.size ≤ maxLen) : Calls Tryz.prog 25 #[.pointer (some ⟨p, 0, none⟩), .string s] W fun e w' => e = .returned (.int .i64 (D.create s).2) ∧ Own w w' p (D.create s).1 ∧ RowsKeep W w' :=
 h.byr fun F e hd => by subst e; exact create_any W F D s hd hf hs
theorem dr_append (h : Own w W p D) (hf : D.fits) (s x : ByteArray) (hs : s.size ≤ maxLen) (hz : (fileOf D.files (numOf D.names s)).1.length + x.size ≤ 9223372036854775807) : Calls Tryz.prog 26 #[.pointer (some ⟨p, 0, none⟩), .string s, .string x] W fun e w' => e = .returned (.int .i64 (D.append s x).2) ∧ Own w w' p (D.append s x).1 ∧ RowsKeep W w' :=
 h.byr fun F e hd => by subst e; exact append_any W F D s x hd hf hs hz
theorem dr_sync (h : Own w W p D) (hf : D.fits) (s : ByteArray) (hs : s.size ≤ maxLen) : Calls Tryz.prog 27 #[.pointer (some ⟨p, 0, none⟩), .string s] W fun e w' => e = .returned (.int .i64 (D.sync s).2) ∧ Own w w' p (D.sync s).1 ∧ RowsKeep W w' :=
 h.byr fun F e hd => by subst e; exact sync_any W F D s hd hf hs
theorem dr_rename (h : Own w W p D) (hf : D.fits) (s x : ByteArray) (hs : s.size ≤ maxLen) (hx : x.size ≤ maxLen) : Calls Tryz.prog 51 #[.pointer (some ⟨p, 0, none⟩), .string s, .string x] W fun e w' => e = .returned (.int .i64 (D.rename s x).2) ∧ Own w w' p (D.rename s x).1 ∧ RowsKeep W w' :=
 h.byr fun F e hd => by subst e; exact rename_any W F D s x hd hf hs hx
theorem dr_syncDir (h : Own w W p D) (hf : D.fits) : Calls Tryz.prog 28 #[.pointer (some ⟨p, 0, none⟩)] W fun e w' => e = .returned (.int .i64 D.syncDir.2) ∧ Own w w' p D.syncDir.1 ∧ RowsKeep W w' :=
 h.byn fun F e hd => by subst e; exact syncDir_any W F D hd hf
theorem dr_read (h : Own w W p D) (s : ByteArray) (hs : s.size ≤ maxLen) : Calls Tryz.prog 31 #[.pointer (some ⟨p, 0, none⟩), .string s] W fun e w' => e = .returned (.tuple #[.string (readS D s), .int .i64 (readE D s)]) ∧ Own w w' p D ∧ Below W.heap.size W w' := by
 obtain ⟨F, rfl, h1, h2⟩ := h
 refine (read_any W F D s h1 hs).mono fun e' w' hh => ⟨hh.1, ⟨F, rfl, h1.below hh.2, bcall h2.1 hh.2, h2.2⟩, hh.2⟩
theorem dr_list (h : Own w W p D) (hf : D.fits) (hd : D.down = false) : Calls Tryz.prog 29 #[.pointer (some ⟨p, 0, none⟩)] W fun e w' => ListOf W D.names e w' ∧ Own w w' p D := by
 obtain ⟨F, rfl, h1, h2⟩ := h
 refine (list_any W F D h1 hf hd).mono fun e' w' hh => ⟨hh, ?_⟩
 obtain ⟨v, ss, _, _, _, hb⟩ := hh
 exact ⟨F, rfl, h1.below hb, bcall h2.1 hb, h2.2⟩
end
def runS {H : Type} : List (DS H → DS H × Int) → DS H → DS H × Int
 | [], D => (D, 0)
 | f :: r, D => if (f D).2 = 0 then runS r (f D).1 else f D
def acts {H : Type} (S nm : ByteArray) : List (DS H → DS H × Int) := [fun D => D.create ⟨#[110, 101, 119]⟩, fun D => D.append ⟨#[110, 101, 119]⟩ S, fun D => D.sync ⟨#[110, 101, 119]⟩, fun D => D.rename ⟨#[110, 101, 119]⟩ nm, fun D => D.syncDir]
def saveD {H : Type} (D : DS H) (n nx : Int) (l : List Sg) : DS H × Int :=
 if (packP nx l).2 = 0 ∧ nameP 112 n ≠ [] then runS (acts ⟨(packP nx l).1.toArray⟩ ⟨(nameP 112 n).toArray⟩) D else (D, 1)
end Go.Proofs.YtkhemhiifhggmaaGreatDoor
namespace Go.Proofs.YtkhemhiifhggmaaGreatDoor
open Go.RowKit Go.Maps Go.Sort
set_option linter.unusedVariables false
section
variable {H : Type} {w W : World} {p : Nat} {D : DS H}
def newN : ByteArray := ⟨#[110, 101, 119]⟩
theorem save_1 (h : Own w W p D) (hf : D.fits) (db : Nat) (hd : W.heap[db]? = some (.cells #[.pointer (some ⟨p, 0, none⟩)] 44 (0, 0))) :
  Calls Tryz.prog 47 #[.pointer (some ⟨db, 0, none⟩)] W fun e w' => e = .returned (.int .i64 (D.create newN).2) ∧ Own w w' p (D.create newN).1 ∧ RowsKeep W w' := by
 have c0 := cell_of_row W db 0 _ _ (0, 0) hd
 simp at c0
 have HC := Lib.hid (dr_create h hf newN (by show 3 ≤ maxLen; unfold maxLen; omega))
 unfold newN at HC
 clear h hd
 go_enter Tryz.func47, Tryz.ntmps47
 go_wp2_with fail
 refine HC.out.mono ?_
 rintro e w' ⟨rfl, h1, h2⟩
 go_wp2_with fail
 go_ret
 exact ⟨rfl, h1, h2⟩
theorem save_2 (h : Own w W p D) (hf : D.fits) (db sb : Nat) (S : ByteArray) (hz : (fileOf D.files (numOf D.names newN)).1.length + S.size ≤ 9223372036854775807) (hd : W.heap[db]? = some (.cells #[.pointer (some ⟨p, 0, none⟩)] 44 (0, 0))) (hs : W.heap[sb]? = some (.cells #[.string S] 9 (0, 0))) :
  Calls Tryz.prog 48 #[.pointer (some ⟨db, 0, none⟩), .pointer (some ⟨sb, 0, none⟩)] W fun e w' => e = .returned (.int .i64 (D.append newN S).2) ∧ Own w w' p (D.append newN S).1 ∧ RowsKeep W w' := by
 have c0 := cell_of_row W db 0 _ _ (0, 0) hd
 have c1 := cell_of_row W sb 0 _ _ (0, 0) hs
 simp at c0 c1
 have HC := Lib.hid (dr_append h hf newN S (by show 3 ≤ maxLen; unfold maxLen; omega) hz)
 unfold newN at HC
 clear h hd hs hz
 go_enter Tryz.func48, Tryz.ntmps48
 go_wp2_with fail
 refine HC.out.mono ?_
 rintro e w' ⟨rfl, h1, h2⟩
 go_wp2_with fail
 go_ret
 exact ⟨rfl, h1, h2⟩
theorem save_3 (h : Own w W p D) (hf : D.fits) (db : Nat) (hd : W.heap[db]? = some (.cells #[.pointer (some ⟨p, 0, none⟩)] 44 (0, 0))) :
  Calls Tryz.prog 49 #[.pointer (some ⟨db, 0, none⟩)] W fun e w' => e = .returned (.int .i64 (D.sync newN).2) ∧ Own w w' p (D.sync newN).1 ∧ RowsKeep W w' := by
 have c0 := cell_of_row W db 0 _ _ (0, 0) hd
 simp at c0
 have HC := Lib.hid (dr_sync h hf newN (by show 3 ≤ maxLen; unfold maxLen; omega))
 unfold newN at HC
 clear h hd
 go_enter Tryz.func49, Tryz.ntmps49
 go_wp2_with fail
 refine HC.out.mono ?_
 rintro e w' ⟨rfl, h1, h2⟩
 go_wp2_with fail
 go_ret
 exact ⟨rfl, h1, h2⟩
theorem nameP_len (c : UInt8) (n : Int) : (nameP c n).length ≤ 42 := by
 unfold nameP
 split
 ·rename_i h
  have hl := itoa_len9 h.1.1 h.1.2
  unfold pad9
  simp only [List.length_append, List.length_cons, List.length_nil, List.length_replicate]
  omega
 ·exact Nat.zero_le _
theorem pname_p (V : World) (hT : Tab V) (n : Int) (h63 : -9223372036854775808 ≤ n ∧ n ≤ 9223372036854775807) : Calls Tryz.prog 12 #[.int .u8 112, .int .i64 n] V fun e w' => e = .returned (.string ⟨(nameP 112 n).toArray⟩) ∧ Below V.heap.size V w' := pname_any V hT 112 n h63
theorem save_4 (h : Own w W p D) (hf : D.fits) (hT : Tab w) (db nb : Nat) (n : Int) (h63 : -9223372036854775808 ≤ n ∧ n ≤ 9223372036854775807) (hd : W.heap[db]? = some (.cells #[.pointer (some ⟨p, 0, none⟩)] 44 (0, 0))) (hn : W.heap[nb]? = some (.cells #[.int .i64 n] 3 (0, 0))) :
  Calls Tryz.prog 50 #[.pointer (some ⟨db, 0, none⟩), .pointer (some ⟨nb, 0, none⟩)] W fun e w' => e = .returned (.int .i64 (D.rename newN ⟨(nameP 112 n).toArray⟩).2) ∧ Own w w' p (D.rename newN ⟨(nameP 112 n).toArray⟩).1 ∧ RowsKeep W w' := by
 have c0 := cell_of_row W db 0 _ _ (0, 0) hd
 have c1 := cell_of_row W nb 0 _ _ (0, 0) hn
 simp at c0 c1
 have HN := Lib.hid (fun V (hb : Below w.heap.size w V) => pname_p V (hT.below hb) n h63)
 have hnl := nameP_len 112 n
 have hd1 := (Array.getElem?_eq_some_iff.1 hd).1
 have hn1 := (Array.getElem?_eq_some_iff.1 hn).1
 have HRN := Lib.hid (fun V (hb : Below W.heap.size W V) => dr_rename (h.on hb) hf newN ⟨(nameP 112 n).toArray⟩ (by show 3 ≤ maxLen; unfold maxLen; omega) (by rw [size_arr]; unfold maxLen; omega))
 unfold newN at HRN
 have HOB := Lib.hid h.below
 have HKC : Hid (∀ V, RowsKeep W V → V.cell? ⟨db, 0, none⟩ = some (.pointer (some ⟨p, 0, none⟩)) ∧ V.cell? ⟨nb, 0, none⟩ = some (.int .i64 n)) := fun V hv => ⟨hv.cell hd (by decide) rfl, hv.cell hn (by decide) rfl⟩
 clear h hd hn
 go_enter Tryz.func50, Tryz.ntmps50
 go_wp2_with fail
 go_region_with (first
  | (go_at_call 12; refine (HN.out _ (HOB.out.trans (by repeat (first | exact (brefl _).mono HOB.out.size | refine Below.drew ?_)))).mono ?_; rintro e V1 ⟨rfl, hv1⟩; have HV1 : Hid (Below W.heap.size W V1) := bcall (by repeat (first | exact brefl _ | refine Below.drew ?_)) hv1; have hk1 := HKC.out V1 (RowsKeep.below HV1.out); obtain ⟨k0, k1⟩ := hk1; clear hv1)
  | (go_at_call 51; refine (HRN.out _ (HV1.out.trans (by repeat (first | exact (brefl _).mono HV1.out.size | refine Below.drew ?_)))).mono ?_; rintro e V2 ⟨rfl, ho2, hr2⟩; have HO2 := Lib.hid ho2; have HR2 : Hid (RowsKeep W V2) := (RowsKeep.below (HV1.out.trans (by repeat (first | exact (brefl _).mono HV1.out.size | refine Below.drew ?_)))).trans hr2; clear ho2 hr2))
 all_goals
  go_wp2_with fail
  go_ret
  exact ⟨rfl, HO2.out, HR2.out⟩
end
end Go.Proofs.YtkhemhiifhggmaaGreatDoor
namespace Go.Proofs.YtkhemhiifhggmaaGreatDoor
open Go.RowKit Go.Maps Go.Sort
set_option linter.unusedVariables false
def gl (L s : Nat) : Nat → Nat
 | 0 => L
 | 1 => L
 | _ + 2 => L + s
def fvs (p db sb nb : Nat) : Array Value := #[.func (.func 47) #[] #[.pointer (some ⟨db, 0, none⟩)], .func (.func 48) #[] #[.pointer (some ⟨db, 0, none⟩), .pointer (some ⟨sb, 0, none⟩)], .func (.func 49) #[] #[.pointer (some ⟨db, 0, none⟩)], .func (.func 50) #[] #[.pointer (some ⟨db, 0, none⟩), .pointer (some ⟨nb, 0, none⟩)], .func (.func 28) #[.pointer (some ⟨p, 0, none⟩)] #[]]
theorem runS_ok {H : Type} {f : DS H → DS H × Int} {r : List (DS H → DS H × Int)} {D : DS H} (h : (f D).2 = 0) : runS (f :: r) D = runS r (f D).1 := if_pos h
theorem runS_no {H : Type} {f : DS H → DS H × Int} {r : List (DS H → DS H × Int)} {D : DS H} (h : (f D).2 ≠ 0) : runS (f :: r) D = f D := if_neg h
theorem save_o {H : Type} (w W0 : World) (p : Nat) (D0 : DS H) (HO0 : Hid (Own w W0 p D0)) (hT : Tab w) (k0 L : Nat) (hk0 : k0 ≤ 200000000000) (HS0 : Hid (D0.small k0)) (HG0 : Hid (D0.good L)) (hL : L ≤ 1152921504606846976) (S : ByteArray) (hS : S.size ≤ 1152921504606846976) (n : Int) (h63 : -9223372036854775808 ≤ n ∧ n ≤ 9223372036854775807) (fb db sb nb : Nat)
  (HF : Hid (W0.heap[fb]? = some (.cells (fvs p db sb nb) 54 (0, 0)))) (HD : Hid (W0.heap[db]? = some (.cells #[.pointer (some ⟨p, 0, none⟩)] 44 (0, 0)) ∧ W0.heap[sb]? = some (.cells #[.string S] 9 (0, 0)) ∧ W0.heap[nb]? = some (.cells #[.int .i64 n] 3 (0, 0))))
  (c0 c1 c2 c3 c4 c5 c7 c8 c9 c12 c13 c14 c15 c16 c17 c18 c19 c20 c21 c22 c23 c24 c25 c26 c27 c28 c29 u6 u10 u11 u33 u34 u35 u36 u37 u38 u39 u40 u41 : Value) (Q0 : Exit → Act → World → Prop) (hQ0 : ∀ c (a a' : Act) w, a.defers = a'.defers → Q0 (.panic c) a w → Q0 (.panic c) a' w)
  (hret : ∀ (W : World) (x32 u10 u11 u33 u34 u35 u36 u37 u38 u39 u40 u41 : Value), Hid (Own w W p (runS (acts S ⟨(nameP 112 n).toArray⟩) D0).1 ∧ RowsKeep W0 W) → Hid ((runS (acts S ⟨(nameP 112 n).toArray⟩) D0).2 ≠ 0) → Q0 .ret ⟨List.toArray (c0 :: c1 :: c2 :: c3 :: c4 :: c5 :: .int .i64 (runS (acts S ⟨(nameP 112 n).toArray⟩) D0).2 :: c7 :: c8 :: c9 :: u10 :: u11 :: c12 :: c13 :: c14 :: c15 :: c16 :: c17 :: c18 :: c19 :: c20 :: c21 :: c22 :: c23 :: c24 :: c25 :: c26 :: c27 :: c28 :: c29 :: .slice (some ⟨fb, 0, none⟩) 5 5 :: .int .i64 5 :: x32 :: u33 :: u34 :: u35 :: u36 :: u37 :: u38 :: u39 :: u40 :: u41 :: []), []⟩ W)
  (hexit : ∀ (W : World) (x32 u6 u10 u11 u33 u34 u35 u36 u37 u38 u39 u40 u41 : Value), Hid (Own w W p (runS (acts S ⟨(nameP 112 n).toArray⟩) D0).1 ∧ RowsKeep W0 W) → Hid ((runS (acts S ⟨(nameP 112 n).toArray⟩) D0).2 = 0) → Q0 (.exit 0) ⟨List.toArray (c0 :: c1 :: c2 :: c3 :: c4 :: c5 :: u6 :: c7 :: c8 :: c9 :: u10 :: u11 :: c12 :: c13 :: c14 :: c15 :: c16 :: c17 :: c18 :: c19 :: c20 :: c21 :: c22 :: c23 :: c24 :: c25 :: c26 :: c27 :: c28 :: c29 :: .slice (some ⟨fb, 0, none⟩) 5 5 :: .int .i64 5 :: x32 :: u33 :: u34 :: u35 :: u36 :: u37 :: u38 :: u39 :: u40 :: u41 :: []), []⟩ W) :
  Code.wp Tryz.prog (.loop (loopOf Tryz.f21 0)) Q0 ⟨List.toArray (c0 :: c1 :: c2 :: c3 :: c4 :: c5 :: u6 :: c7 :: c8 :: c9 :: u10 :: u11 :: c12 :: c13 :: c14 :: c15 :: c16 :: c17 :: c18 :: c19 :: c20 :: c21 :: c22 :: c23 :: c24 :: c25 :: c26 :: c27 :: c28 :: c29 :: .slice (some ⟨fb, 0, none⟩) 5 5 :: .int .i64 5 :: .int .i64 (0 : Int) :: u33 :: u34 :: u35 :: u36 :: u37 :: u38 :: u39 :: u40 :: u41 :: []), []⟩ W0 := by
 obtain ⟨R, hR⟩ : ∃ R, runS (acts S ⟨(nameP 112 n).toArray⟩) D0 = R := ⟨_, rfl⟩
 rw [hR] at hret hexit
 have HR := Lib.hid hR
 clear hR
 conv => arg 2; arg 1; whnf
 go_loopw [32] (fun iv wr => ∃ (i : Nat) (D : DS H), i ≤ 5 ∧ iv = .int .i64 (i : Int) ∧ Hid (Own w wr p D) ∧ Hid (RowsKeep W0 wr) ∧ Hid (runS ((acts S ⟨(nameP 112 n).toArray⟩).drop i) D = R) ∧ Hid (D.small (k0 + i) ∧ D.good (gl L S.size i))) (fun iv _ => 5 - (intOf iv).toNat)
 case atStart => exact ⟨0, D0, Nat.zero_le _, rfl, HO0, Lib.hid (RowsKeep.refl W0), HR, Lib.hid ⟨HS0.out, HG0.out⟩⟩
 case round =>
  clear HO0 HS0 HG0 HR
  obtain ⟨i, D, hi, rfl, HO, HK, HR, HB⟩ := hrel
  by_cases hi5 : i < 5
  ·have hfr := HK.out.row fb _ _ _ HF.out (by decide)
   have hdr := HK.out.row db _ _ _ HD.out.1 (by decide)
   have hsr := HK.out.row sb _ _ _ HD.out.2.1 (by decide)
   have hnr := HK.out.row nb _ _ _ HD.out.2.2 (by decide)
   have hfit := HB.out.1.fits (by omega)
   have hfbw := (Array.getElem?_eq_some_iff.1 hfr).1
   rcases (by omega : i = 0 ∨ i = 1 ∨ i = 2 ∨ i = 3 ∨ i = 4) with rfl | rfl | rfl | rfl | rfl
   ·have c0 := cell_of_row wr fb 0 _ _ (0, 0) hfr
    simp [fvs] at c0
    have HC := Lib.hid (save_1 HO.out hfit db hdr)
    have HBN : Hid ((D.create newN).1.small (k0 + (0 + 1)) ∧ (D.create newN).1.good (gl L S.size (0 + 1))) := ⟨HB.out.1.create _, HB.out.2.create _⟩
    by_cases he : (D.create newN).2 = 0
    ·have HRN : Hid (runS ((acts S ⟨(nameP 112 n).toArray⟩).drop (0 + 1)) (D.create newN).1 = R) := (runS_ok (r := (acts S ⟨(nameP 112 n).toArray⟩).drop (0 + 1)) he).symm.trans HR.out
     rw [he] at HC
     generalize (D.create newN).1 = D2 at *
     clear he hdr hsr hnr hfr
     go_wp2_with fail
     refine HC.out.mono ?_
     rintro e w2 ⟨rfl, ho2, hr2⟩
     have HO2 := Lib.hid ho2
     have HK2 := Lib.hid (HK.out.trans hr2)
     clear ho2 hr2
     go_wp2_with fail
     go_roundw
     case rel => exact ⟨0 + 1, D2, by omega, by go_num, HO2, HK2, HRN, HBN⟩
     case measure => simp [intOf]
    ·have HRN : Hid (D.create newN = R) := (runS_no (r := (acts S ⟨(nameP 112 n).toArray⟩).drop (0 + 1)) he).symm.trans HR.out
     obtain ⟨z, hz⟩ : ∃ z, (D.create newN).2 = z := ⟨_, rfl⟩
     have q1 : (z != 0) = true := by rw [← hz]; simpa using he
     have HNZ : Hid (R.2 ≠ 0) := by show _ ≠ _; rw [← HRN.out]; exact he
     have HZ : Hid (R.2 = z) := by show _ = _; rw [← HRN.out, hz]
     have HD2 : Hid (R.1 = (D.create newN).1) := by show _ = _; rw [HRN.out]
     rw [hz] at HC
     clear hz he hdr hsr hnr hfr
     go_wp2_with fail
     refine HC.out.mono ?_
     rintro e w2 ⟨rfl, ho2, hr2⟩
     have HO2 : Hid (Own w w2 p R.1 ∧ RowsKeep W0 w2) := ⟨by rw [HD2.out]; exact ho2, HK.out.trans hr2⟩
     clear ho2 hr2
     go_wp2_with fail
     rw [← HZ.out]
     exact hret w2 _ _ _ _ _ _ _ _ _ _ _ _ HO2 HNZ
   ·have c1 := cell_of_row wr fb 1 _ _ (0, 0) hfr
    simp [fvs] at c1
    have HC := Lib.hid (save_2 HO.out hfit db sb S (by have := ((show D.good L from HB.out.2).fs (numOf D.names newN)).2.2; omega) hdr hsr)
    have HBN : Hid ((D.append newN S).1.small (k0 + (1 + 1)) ∧ (D.append newN S).1.good (gl L S.size (1 + 1))) := ⟨HB.out.1.append _ _, HB.out.2.append _ _⟩
    by_cases he : (D.append newN S).2 = 0
    ·have HRN : Hid (runS ((acts S ⟨(nameP 112 n).toArray⟩).drop (1 + 1)) (D.append newN S).1 = R) := (runS_ok (r := (acts S ⟨(nameP 112 n).toArray⟩).drop (1 + 1)) he).symm.trans HR.out
     rw [he] at HC
     generalize (D.append newN S).1 = D2 at *
     clear he hdr hsr hnr hfr
     go_wp2_with fail
     refine HC.out.mono ?_
     rintro e w2 ⟨rfl, ho2, hr2⟩
     have HO2 := Lib.hid ho2
     have HK2 := Lib.hid (HK.out.trans hr2)
     clear ho2 hr2
     go_wp2_with fail
     go_roundw
     case rel => exact ⟨1 + 1, D2, by omega, by go_num, HO2, HK2, HRN, HBN⟩
     case measure => simp [intOf]
    ·have HRN : Hid (D.append newN S = R) := (runS_no (r := (acts S ⟨(nameP 112 n).toArray⟩).drop (1 + 1)) he).symm.trans HR.out
     obtain ⟨z, hz⟩ : ∃ z, (D.append newN S).2 = z := ⟨_, rfl⟩
     have q1 : (z != 0) = true := by rw [← hz]; simpa using he
     have HNZ : Hid (R.2 ≠ 0) := by show _ ≠ _; rw [← HRN.out]; exact he
     have HZ : Hid (R.2 = z) := by show _ = _; rw [← HRN.out, hz]
     have HD2 : Hid (R.1 = (D.append newN S).1) := by show _ = _; rw [HRN.out]
     rw [hz] at HC
     clear hz he hdr hsr hnr hfr
     go_wp2_with fail
     refine HC.out.mono ?_
     rintro e w2 ⟨rfl, ho2, hr2⟩
     have HO2 : Hid (Own w w2 p R.1 ∧ RowsKeep W0 w2) := ⟨by rw [HD2.out]; exact ho2, HK.out.trans hr2⟩
     clear ho2 hr2
     go_wp2_with fail
     rw [← HZ.out]
     exact hret w2 _ _ _ _ _ _ _ _ _ _ _ _ HO2 HNZ
   ·have c2 := cell_of_row wr fb 2 _ _ (0, 0) hfr
    simp [fvs] at c2
    have HC := Lib.hid (save_3 HO.out hfit db hdr)
    have HBN : Hid ((D.sync newN).1.small (k0 + (2 + 1)) ∧ (D.sync newN).1.good (gl L S.size (2 + 1))) := ⟨HB.out.1.sync _, HB.out.2.sync _⟩
    by_cases he : (D.sync newN).2 = 0
    ·have HRN : Hid (runS ((acts S ⟨(nameP 112 n).toArray⟩).drop (2 + 1)) (D.sync newN).1 = R) := (runS_ok (r := (acts S ⟨(nameP 112 n).toArray⟩).drop (2 + 1)) he).symm.trans HR.out
     rw [he] at HC
     generalize (D.sync newN).1 = D2 at *
     clear he hdr hsr hnr hfr
     go_wp2_with fail
     refine HC.out.mono ?_
     rintro e w2 ⟨rfl, ho2, hr2⟩
     have HO2 := Lib.hid ho2
     have HK2 := Lib.hid (HK.out.trans hr2)
     clear ho2 hr2
     go_wp2_with fail
     go_roundw
     case rel => exact ⟨2 + 1, D2, by omega, by go_num, HO2, HK2, HRN, HBN⟩
     case measure => simp [intOf]
    ·have HRN : Hid (D.sync newN = R) := (runS_no (r := (acts S ⟨(nameP 112 n).toArray⟩).drop (2 + 1)) he).symm.trans HR.out
     obtain ⟨z, hz⟩ : ∃ z, (D.sync newN).2 = z := ⟨_, rfl⟩
     have q1 : (z != 0) = true := by rw [← hz]; simpa using he
     have HNZ : Hid (R.2 ≠ 0) := by show _ ≠ _; rw [← HRN.out]; exact he
     have HZ : Hid (R.2 = z) := by show _ = _; rw [← HRN.out, hz]
     have HD2 : Hid (R.1 = (D.sync newN).1) := by show _ = _; rw [HRN.out]
     rw [hz] at HC
     clear hz he hdr hsr hnr hfr
     go_wp2_with fail
     refine HC.out.mono ?_
     rintro e w2 ⟨rfl, ho2, hr2⟩
     have HO2 : Hid (Own w w2 p R.1 ∧ RowsKeep W0 w2) := ⟨by rw [HD2.out]; exact ho2, HK.out.trans hr2⟩
     clear ho2 hr2
     go_wp2_with fail
     rw [← HZ.out]
     exact hret w2 _ _ _ _ _ _ _ _ _ _ _ _ HO2 HNZ
   ·have c3 := cell_of_row wr fb 3 _ _ (0, 0) hfr
    simp [fvs] at c3
    have HC := Lib.hid (save_4 HO.out hfit hT db nb n h63 hdr hnr)
    have HBN : Hid ((D.rename newN ⟨(nameP 112 n).toArray⟩).1.small (k0 + (3 + 1)) ∧ (D.rename newN ⟨(nameP 112 n).toArray⟩).1.good (gl L S.size (3 + 1))) := ⟨HB.out.1.rename _ _, HB.out.2.rename _ _⟩
    by_cases he : (D.rename newN ⟨(nameP 112 n).toArray⟩).2 = 0
    ·have HRN : Hid (runS ((acts S ⟨(nameP 112 n).toArray⟩).drop (3 + 1)) (D.rename newN ⟨(nameP 112 n).toArray⟩).1 = R) := (runS_ok (r := (acts S ⟨(nameP 112 n).toArray⟩).drop (3 + 1)) he).symm.trans HR.out
     rw [he] at HC
     generalize (D.rename newN ⟨(nameP 112 n).toArray⟩).1 = D2 at *
     clear he hdr hsr hnr hfr
     go_wp2_with fail
     refine HC.out.mono ?_
     rintro e w2 ⟨rfl, ho2, hr2⟩
     have HO2 := Lib.hid ho2
     have HK2 := Lib.hid (HK.out.trans hr2)
     clear ho2 hr2
     go_wp2_with fail
     go_roundw
     case rel => exact ⟨3 + 1, D2, by omega, by go_num, HO2, HK2, HRN, HBN⟩
     case measure => simp [intOf]
    ·have HRN : Hid (D.rename newN ⟨(nameP 112 n).toArray⟩ = R) := (runS_no (r := (acts S ⟨(nameP 112 n).toArray⟩).drop (3 + 1)) he).symm.trans HR.out
     obtain ⟨z, hz⟩ : ∃ z, (D.rename newN ⟨(nameP 112 n).toArray⟩).2 = z := ⟨_, rfl⟩
     have q1 : (z != 0) = true := by rw [← hz]; simpa using he
     have HNZ : Hid (R.2 ≠ 0) := by show _ ≠ _; rw [← HRN.out]; exact he
     have HZ : Hid (R.2 = z) := by show _ = _; rw [← HRN.out, hz]
     have HD2 : Hid (R.1 = (D.rename newN ⟨(nameP 112 n).toArray⟩).1) := by show _ = _; rw [HRN.out]
     rw [hz] at HC
     clear hz he hdr hsr hnr hfr
     go_wp2_with fail
     refine HC.out.mono ?_
     rintro e w2 ⟨rfl, ho2, hr2⟩
     have HO2 : Hid (Own w w2 p R.1 ∧ RowsKeep W0 w2) := ⟨by rw [HD2.out]; exact ho2, HK.out.trans hr2⟩
     clear ho2 hr2
     go_wp2_with fail
     rw [← HZ.out]
     exact hret w2 _ _ _ _ _ _ _ _ _ _ _ _ HO2 HNZ
   ·have c4 := cell_of_row wr fb 4 _ _ (0, 0) hfr
    simp [fvs] at c4
    have HC := Lib.hid (dr_syncDir HO.out hfit)
    have HBN : Hid ((D.syncDir).1.small (k0 + (4 + 1)) ∧ (D.syncDir).1.good (gl L S.size (4 + 1))) := ⟨HB.out.1.syncDir, HB.out.2.syncDir⟩
    by_cases he : (D.syncDir).2 = 0
    ·have HRN : Hid (runS ((acts S ⟨(nameP 112 n).toArray⟩).drop (4 + 1)) (D.syncDir).1 = R) := (runS_ok (r := (acts S ⟨(nameP 112 n).toArray⟩).drop (4 + 1)) he).symm.trans HR.out
     rw [he] at HC
     generalize (D.syncDir).1 = D2 at *
     clear he hdr hsr hnr hfr
     go_wp2_with fail
     refine HC.out.mono ?_
     rintro e w2 ⟨rfl, ho2, hr2⟩
     have HO2 := Lib.hid ho2
     have HK2 := Lib.hid (HK.out.trans hr2)
     clear ho2 hr2
     go_wp2_with fail
     go_roundw
     case rel => exact ⟨4 + 1, D2, by omega, by go_num, HO2, HK2, HRN, HBN⟩
     case measure => simp [intOf]
    ·have HRN : Hid (D.syncDir = R) := (runS_no (r := (acts S ⟨(nameP 112 n).toArray⟩).drop (4 + 1)) he).symm.trans HR.out
     obtain ⟨z, hz⟩ : ∃ z, (D.syncDir).2 = z := ⟨_, rfl⟩
     have q1 : (z != 0) = true := by rw [← hz]; simpa using he
     have HNZ : Hid (R.2 ≠ 0) := by show _ ≠ _; rw [← HRN.out]; exact he
     have HZ : Hid (R.2 = z) := by show _ = _; rw [← HRN.out, hz]
     have HD2 : Hid (R.1 = (D.syncDir).1) := by show _ = _; rw [HRN.out]
     rw [hz] at HC
     clear hz he hdr hsr hnr hfr
     go_wp2_with fail
     refine HC.out.mono ?_
     rintro e w2 ⟨rfl, ho2, hr2⟩
     have HO2 : Hid (Own w w2 p R.1 ∧ RowsKeep W0 w2) := ⟨by rw [HD2.out]; exact ho2, HK.out.trans hr2⟩
     clear ho2 hr2
     go_wp2_with fail
     rw [← HZ.out]
     exact hret w2 _ _ _ _ _ _ _ _ _ _ _ _ HO2 HNZ
  ·obtain rfl : i = 5 := by omega
   have HRN : Hid ((D, (0 : Int)) = R) := HR.out
   have HO2 : Hid (Own w wr p R.1 ∧ RowsKeep W0 wr) := ⟨by rw [← HRN.out]; exact HO.out, HK.out⟩
   go_wp2_with fail
   exact hexit wr _ _ _ _ _ _ _ _ _ _ _ _ _ HO2 (by show Hid (R.2 = 0); rw [← HRN.out]; rfl)
end Go.Proofs.YtkhemhiifhggmaaGreatDoor
