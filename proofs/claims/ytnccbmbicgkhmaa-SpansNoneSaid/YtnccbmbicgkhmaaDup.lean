/- Copies: append onto an empty slice; append within a region that draws its order. -/
import Derived.Test.YtnccbmbicgkhmaaMore
import Derived.Deep.RegionLawGrows
import Derived.Deep.RegionHeld3
namespace Go.Proofs.Ytnccbmbicgkhmaa
open Go.RowKit

theorem below_none {w w' : World} (h : w.grownBy w' none) : Below w.heap.size w w' := (brefl w).grown h (Nat.le_refl _) (fun k hk => by cases hk)
/-- A copy: nothing, or an owned row. -/
def Cp (w : World) (e size : Nat) (A : Option Addr) (m c : Nat) (news : List Value) : Prop := (m = 0 ∧ news = []) ∨ w.ownsRow 0 e size (.slice A m c) m news
theorem Cp.sl {w : World} {e size m c : Nat} {A : Option Addr} {news : List Value} (h : Cp w e size A m c news) : Sl w w.heap.size size A m news := by
  rcases h with ⟨rfl, rfl⟩ | h
  · exact Sl.empty
  · exact Sl.of_own h
theorem Cp.below {w w' : World} {e size m c : Nat} {A : Option Addr} {news : List Value} (h : Cp w e size A m c news) (hb : Below w.heap.size w w') : Cp w' e size A m c news := by
  rcases h with h | h
  · exact .inl h
  · exact .inr (own_kept h hb)
theorem Cp.grown {w w' : World} {e size m c : Nat} {A : Option Addr} {news : List Value} (h : Cp w e size A m c news) {b1 e1 s1 n1 : Nat} {v1 : Value} {x1 : List Value} (h1 : w.ownsRow b1 e1 s1 v1 n1 x1) (hg : w.grownBy w' v1.ownBlock) (he : e1 ≠ e) : Cp w' e size A m c news := by
  rcases h with h | h
  · exact .inl h
  · exact .inr (h.kept hg (own_types h1 h he))
/-- append(E{}, src...): a copy of src. -/
theorem run_dup {P : Program} (w : World) {t ty e size bytes : Nat} (he : Elem P t e size bytes) (ad : Addr) {B : Nat} {A : Option Addr} {m c : Nat} {news : List Value} (hs : Sl w B size A m news) (h1 : ∀ u ∈ news, u.oneCell' = true)
    (h63 : m ≤ maxLen) (hbytes : m * bytes ≤ 140737488355328) :
    ∃ A' c' w', (Builtin.append_ #[t, t] ty #[.slice (some ad) 0 0, .slice A m c]).run P w = .ok (.slice A' m c') w' ∧ m ≤ c' ∧ A' ≠ none ∧ Cp w' e size A' m c' news ∧ Below w.heap.size w w' := by
  obtain ⟨ht, i, z, hi, hz, hsz, hby, hzs, hpos⟩ := he
  rcases Nat.eq_zero_or_pos m with h0 | h0
  · subst h0
    have hn : news = [] := List.eq_nil_of_length_eq_zero (by simpa using hs.1)
    subst hn
    refine ⟨some ad, 0, w, ?_, Nat.le_refl _, (by simp), .inl ⟨rfl, rfl⟩, brefl w⟩
    cases A with
    | none => simp [Builtin.append_, run_underlying ht, sizeOf, typeInfo, hi, Builtin.lenOf, Builtin.firstCells, storeCells]
    | some a => simp [Builtin.append_, run_underlying ht, sizeOf, typeInfo, hi, Builtin.lenOf, Builtin.firstCells, storeCells, loadCells, loadCellsFrom]
  · obtain ⟨b, off, rfl, hb, hc⟩ := hs.2 h0
    obtain ⟨v', w', hrun, r1, r2⟩ := run_append_arg_grows (P := P) w t ty e i z size bytes ht hi hz hsz hby hzs hpos ad 0 0 [] (by simp) (by simp) ⟨b, off, none⟩ m c news hs.1 (fun j u hu => by rw [Addr.add_lit]; exact hc j u hu) (by omega) (by omega) (by rw [Nat.zero_add]; exact hbytes)
    rw [List.nil_append, Nat.zero_add] at r1
    obtain ⟨A', c', rfl, hc'⟩ := own_shape r1
    obtain ⟨g, rfl, _, _⟩ := own_head r1 h0
    exact ⟨_, c', w', hrun, hc', by simp, .inr (r1.mono (Nat.zero_le _)), below_none r2⟩
theorem step_dup {P : Program} {ops : Array Oper} {o : Oper} {a : Act} {w : World} {K : Act → World → Prop} {Q : Exit → Act → World → Prop} {E : Prop} (hgd : o.guard = none) (s x : Operand) (t : TypeId)
    (ho : o.op = .call { callee := .builtin .append, args := #[s, x], argTypes := #[t, t] })
    {e size bytes : Nat} (he : Elem P t e size bytes) {ad : Addr} (hs : a.eval s = .slice (some ad) 0 0) {A : Option Addr} {m c B : Nat} {news : List Value} (hx : a.eval x = .slice A m c) (hsl : Sl w B size A m news) (h1 : ∀ u ∈ news, u.oneCell' = true)
    (h63 : m ≤ maxLen) (hbytes : m * bytes ≤ 140737488355328)
    (h : ∀ A' c' w', m ≤ c' → A' ≠ none → Cp w' e size A' m c' news → Below w.heap.size w w' → K (a.put o.dst (.slice A' m c')) w') :
    if Region.wanted o (yielded ops a.tmps) = true then Oper.wp P o a w K Q else E := by
  have hw : Region.wanted o (yielded ops a.tmps) = true := by simp [Region.wanted, hgd]
  rw [if_pos hw]
  obtain ⟨A', c', w', hrun, h2, h3, h4, h5⟩ := run_dup (P := P) (ty := o.type) w he ad hsl (c := c) h1 h63 hbytes
  unfold Oper.wp
  simp [execOp, ho, resolve, invoke, builtin, hs, hx, hrun, Result.andThen]
  exact h A' c' w' h2 h3 h4 h5
/-- Append of m new elements within a region that draws its order; the row is owned in the world at hand. -/
theorem step_pushw {P : Program} {ops : Array Oper} {o : Oper} {a : Act} {K : Act → World → Prop} {Q : Exit → Act → World → Prop} {E : Prop} (w0 wx : World) (cs : Array Value) (hgd : o.guard = none) (s x : Operand) (t : TypeId)
    (ho : o.op = .call { callee := .builtin .append, args := #[s, x], argTypes := #[t, t] })
    {base e size bytes : Nat} (he : Elem P t e size bytes) (v : Value) (n : Nat) (xs : List Value) (hs : a.eval s = v) (hown : wx.ownsRow base e size v n xs)
    {nb m : Nat} (hx : a.eval x = .slice (some ⟨nb, 0, none⟩) m m) (hxc : wx.heap[nb]? = some (.cells cs e (0, 0)))
    (hl : cs.size = m * size) (h1 : ∀ u ∈ cs.toList, u.oneCell' = true) (hm : 0 < m)
    (h63 : n + m ≤ maxLen) (hbytes : (n + m) * bytes ≤ 140737488355328) (hbase : base ≤ wx.heap.size) (hb : Below base w0 wx)
    (h : ∀ g cap w', w'.ownsRow base e size (.slice (some ⟨g, 0, none⟩) (n + m) cap) (n + m) (xs ++ cs.toList) → Below base w0 w' → wx.grownBy w' v.ownBlock → K (a.put o.dst (.slice (some ⟨g, 0, none⟩) (n + m) cap)) w') :
    if Region.wanted o (yielded ops a.tmps) = true then Oper.wp P o a wx K Q else E := by
  obtain ⟨ht, i, z, hi, hz, hsz, hby, hzs, hpos⟩ := he
  refine step_append_lies wx hgd s x t ho base e i z size bytes ht hi hz hsz hby hzs hpos v n xs hs hown ⟨nb, 0, none⟩ m m cs.toList hx (by simpa using hl) ?_ h1 hm h63 hbytes hbase _ rfl ?_
  · intro j u hu
    rw [Addr.add_lit, Nat.zero_add, cell_of_row _ nb j cs e (0, 0) hxc]
    simpa using hu
  · intro g cap w' h2 h3 _ _
    exact h g cap w' h2 (hb.grown h3 hbase (fun k hk => (hown.lt k hk).1)) h3
end Go.Proofs.Ytnccbmbicgkhmaa
