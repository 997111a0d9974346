/- Stores into rows and blocks of the call's own; append within a drawn region, and where the row goes. (For seats that do not use fst's texts, which hold the same.) -/
import Derived.Test.YtebdffabfimmkaaDoorMore
import Derived.Deep.RegionLawGrows
namespace Go.Proofs.YtebdffabfimmkaaDoor
open Go.RowKit

theorem set_grown (w : World) (a : Addr) (u : Value) : w.grownBy (w.setCell a u) (some a.block) :=
  ⟨rfl, rfl, rfl, by simp [World.setCell], fun k _ hk => Below.heap_setCell _ _ _ k (fun e => hk (by rw [e]))⟩
theorem blk_set {w : World} {b j : Nat} {C : Array Value} {t : TypeId} {f : Nat × Nat} (h : w.heap[b]? = some (.cells C t f)) (v : Value) : (w.setCell ⟨b, j, none⟩ v).heap[b]? = some (.cells (C.setIfInBounds j v) t f) := by
  simp [World.setCell, Array.getElem?_modify, h]
theorem grown_through {a b c : World} {row : Option Nat} (hb : Below a.heap.size a b) (hg : b.grownBy c row) : a.grownBy c row :=
  ⟨hg.os.trans hb.os, hg.tape.trans hb.tape, hg.output.trans hb.output, Nat.le_trans hb.size hg.size, fun k hk h => (hg.block k (Nat.lt_of_lt_of_le hk hb.size) h).trans (hb.block k hk)⟩
/-- Append of m new elements within a region that draws its order; where the row goes. -/
theorem step_pushg {P : Program} {ops : Array Oper} {o : Oper} {a : Act} {K : Act → World → Prop} {Q : Exit → Act → World → Prop} {E : Prop} (wx : World) (cs : Array Value) (hgd : o.guard = none) (s x : Operand) (t : TypeId)
    (ho : o.op = .call { callee := .builtin .append, args := #[s, x], argTypes := #[t, t] })
    {base e size bytes : Nat} (he : Elem P t e size bytes) (v : Value) (n : Nat) (xs : List Value) (hs : a.eval s = v) (hown : wx.ownsRow base e size v n xs)
    {nb m : Nat} (hx : a.eval x = .slice (some ⟨nb, 0, none⟩) m m) (hxc : wx.heap[nb]? = some (.cells cs e (0, 0)))
    (hl : cs.size = m * size) (h1 : ∀ u ∈ cs.toList, u.oneCell' = true) (hm : 0 < m)
    (h63 : n + m ≤ maxLen) (hbytes : (n + m) * bytes ≤ 140737488355328) (hbase : base ≤ wx.heap.size)
    (h : ∀ g cap w', w'.ownsRow base e size (.slice (some ⟨g, 0, none⟩) (n + m) cap) (n + m) (xs ++ cs.toList) → wx.grownBy w' v.ownBlock → (v.ownBlock = some g ∨ wx.heap.size ≤ g) → K (a.put o.dst (.slice (some ⟨g, 0, none⟩) (n + m) cap)) w') :
    if Region.wanted o (yielded ops a.tmps) = true then Oper.wp P o a wx K Q else E := by
  obtain ⟨ht, i, z, hi, hz, hsz, hby, hzs, hpos⟩ := he
  refine step_append_lies wx hgd s x t ho base e i z size bytes ht hi hz hsz hby hzs hpos v n xs hs hown ⟨nb, 0, none⟩ m m cs.toList hx (by simpa using hl) ?_ h1 hm h63 hbytes hbase _ rfl ?_
  · intro j u hu
    rw [Addr.add_lit, Nat.zero_add, cell_of_row _ nb j cs e (0, 0) hxc]
    simpa using hu
  · intro g cap w' h2 h3 h4 _
    exact h g cap w' h2 h3 (h4.elim .inl fun e => .inr (by omega))
theorem own_lower {w : World} {b b' e s n : Nat} {v : Value} {xs : List Value} (h : w.ownsRow b e s v n xs) (hb : b' ≤ b) : w.ownsRow b' e s v n xs := by
  refine ⟨h.1, ?_⟩
  rcases h.2 with hn | ⟨g, cap, cur, rfl, hg, rest⟩
  · exact .inl hn
  · exact .inr ⟨g, cap, cur, rfl, by omega, rest⟩
theorem own_set {w : World} {b e s n k j : Nat} {v u : Value} {xs : List Value} (h : w.ownsRow b e s v n xs) (hb : k < b) : (w.setCell ⟨k, j, none⟩ u).ownsRow b e s v n xs := by
  refine h.kept (set_grown _ _ _) ?_
  cases hv : v.ownBlock with
  | none => exact .inl rfl
  | some g =>
    refine .inr fun e => ?_
    injection e with e
    have := (h.lt g hv).1
    simp at e
    omega
theorem below_set {w w' : World} {B k j : Nat} {u : Value} (h : Below B w w') (hk : B ≤ k) (hB : B ≤ w.heap.size) : Below B w (w'.setCell ⟨k, j, none⟩ u) := h.grown (set_grown _ _ _) (Nat.le_trans hB h.size) (fun q hq => by injection hq with hq; simp at hq; omega)
theorem free_at {w : World} {b : Nat} {C : Array Value} {t : TypeId} (h : w.heap[b]? = some (.cells C t (0, 0))) (j : Nat) : w.frozen? ⟨b, j, none⟩ = false := by simp [World.frozen?, h]
theorem own_put {W : World} {base e s n c g j : Nat} {u : Value} {xs : List Value} (h : W.ownsRow base e s (.slice (some ⟨g, 0, none⟩) n c) n xs) : (W.setCell ⟨g, j, none⟩ u).ownsRow base e s (.slice (some ⟨g, 0, none⟩) n c) n (xs.set j u) := by
  obtain ⟨h0, h⟩ := h
  refine ⟨by rw [List.length_set]; exact h0, ?_⟩
  rcases h with ⟨hv, _⟩ | ⟨g', cap, cur, hv, hb, hg, h1, h2, h3, h4⟩
  · cases hv
  · injection hv with hv1 _ hv3
    injection hv1 with hv1
    injection hv1 with hv1 _ _
    subst hv1 hv3
    refine .inr ⟨g, c, _, rfl, hb, blk_set hg u, h1, h2, by simpa using h3, ?_⟩
    rw [← h4, Array.toList_setIfInBounds, List.take_set]
end Go.Proofs.YtebdffabfimmkaaDoor
