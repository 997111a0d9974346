/- From node to node by a term's bytes (plain Lean); a list of nodes in memory. -/
import Derived.Test.YtheickndnniomaaDoorAlike
namespace Go.Proofs.YtheickndnniomaaDoor
open Go.RowKit Go.Maps

theorem wayBy_mem : ∀ {ws : List (Int × Int × Int)}, ws.Pairwise (fun a b => a.1 < b.1) → ∀ {x : Int × Int × Int}, x ∈ ws → wayBy ws x.1 = some x
  | [], _, x, h => by cases h
  | y :: r, hp, x, h => by
    obtain ⟨h1, h2⟩ := List.pairwise_cons.1 hp
    unfold wayBy
    rw [List.find?_cons]
    rcases List.mem_cons.1 h with rfl | h
    · rw [show (x.1 == x.1) = true by simp]
    · have := h1 x h
      rw [show (y.1 == x.1) = false by simp; omega]
      exact wayBy_mem h2 h
theorem step_left {ds : List Nd} (h : Inv ds) {a : Nat} {d : Nd} (hd : ds[a]? = some d) {c : UInt8} {t : List UInt8} {z : Int} (hm : (c :: t, z) ∈ left ds a) :
    ∃ x, findW d.ways (c.toNat : Nat) = x ∧ x ∈ d.ways ∧ (t, z - x.2.1) ∈ left ds x.2.2.toNat ∧ 0 ≤ x.2.1 ∧ 0 ≤ x.2.2 ∧ x.2.2 < (a : Int) := by
  rw [left_eq h.fine hd] at hm
  unfold ndE at hm
  rcases List.mem_append.1 hm with hm | hm
  · split at hm
    · rw [List.mem_singleton] at hm
      injection hm with hm _
      cases hm
    · cases hm
  · obtain ⟨x, hx, hm⟩ := List.mem_flatMap.1 hm
    obtain ⟨e, he, hp⟩ := List.mem_map.1 hm
    obtain ⟨⟨b0, b1⟩, ⟨o0, _⟩, t0, t1⟩ := (h.fine a d hd).2 x hx
    unfold preE at hp
    injection hp with h1 h2
    injection h1 with h1 h3
    have hc := (c_of b0 b1 c).1 h1
    have hw := wayBy_mem (h.can a d hd).asc hx
    refine ⟨x, ?_, hx, ?_, o0, t0, t1⟩
    · unfold findW
      rw [← hc, hw]
      rfl
    · rw [← h3, ← h2, show x.2.1 + e.2 - x.2.1 = e.2 by omega]
      exact he
theorem end_left {ds : List Nd} (h : Inv ds) {a : Nat} {d : Nd} (hd : ds[a]? = some d) {z : Int} (hm : (([] : List UInt8), z) ∈ left ds a) : d.fin = true ∧ d.out = z := by
  rw [left_eq h.fine hd] at hm
  unfold ndE at hm
  rcases List.mem_append.1 hm with hm | hm
  · split at hm
    · rename_i hf
      rw [List.mem_singleton] at hm
      injection hm with _ hm
      exact ⟨hf, hm.symm⟩
    · cases hm
  · obtain ⟨x, hx, hm⟩ := List.mem_flatMap.1 hm
    obtain ⟨e, he, hp⟩ := List.mem_map.1 hm
    injection hp with h1 _
    cases h1
theorem left_ge {ds : List Nd} (h : Inv ds) {a : Nat} {d : Nd} (hd : ds[a]? = some d) {e : Ent} (he : e ∈ left ds a) : 0 ≤ e.2 := by
  rw [left_eq h.fine hd] at he
  exact (h.can a d hd).ge e he
theorem node_full {ds : List Nd} (h : Inv ds) {a : Nat} {d : Nd} (hd : ds[a]? = some d) (hf : d.fin = false) : d.ways ≠ [] := by
  intro hw
  obtain ⟨e, he, _⟩ := (h.can a d hd).mn
  unfold ndE at he
  rw [hf, hw] at he
  simp at he
/-- Nodes in a row. -/
structure NdsAt (W : World) (B : Nat) (A : Option Addr) (n c : Nat) (hs : List Nh) : Prop where
  len : hs.length = n
  nod : W.ownsRow B 51 3 (.slice A n c) n (hs.flatMap Nh.hdr)
  way : ∀ h ∈ hs, W.ownsRow B 55 3 h.row h.d.ways.length (waysC h.d.ways)
section
variable {W W' W2 : World} {B : Nat} {A : Option Addr} {n c : Nat} {hs : List Nh}
theorem NdsAt.nil (W : World) (B : Nat) : NdsAt W B none 0 0 [] := ⟨rfl, ⟨rfl, .inl ⟨rfl, rfl⟩⟩, by simp⟩
theorem NdsAt.keep (h : NdsAt W B A n c hs) (hb : Below W.heap.size W W') : NdsAt W' B A n c hs :=
  ⟨h.len, own_kept h.nod hb, fun x hx => own_kept (h.way x hx) hb⟩
theorem NdsAt.push {A' A2 : Option Addr} {c' c2 : Nat} {d : Nd} (h : NdsAt W B A n c hs) (hw : W.ownsRow B 55 3 (.slice A' d.ways.length c') d.ways.length (waysC d.ways)) (hg : W.grownBy W2 (Value.slice A n c).ownBlock)
    (ho : W2.ownsRow B 51 3 (.slice A2 (n + 1) c2) (n + 1) (hs.flatMap Nh.hdr ++ [.bool d.fin, .int .i64 d.out, .slice A' d.ways.length c'])) : NdsAt W2 B A2 (n + 1) c2 (hs ++ [⟨d, A', c'⟩]) := by
  refine ⟨by rw [List.length_append, h.len]; rfl, ?_, ?_⟩
  · rw [List.flatMap_append]
    have e : List.flatMap Nh.hdr [⟨d, A', c'⟩] = [.bool d.fin, .int .i64 d.out, .slice A' d.ways.length c'] := by simp [Nh.hdr, Nh.row]
    rw [e]
    exact ho
  · intro x hx
    rcases List.mem_append.1 hx with hx | hx
    · exact (h.way x hx).kept hg (own_types h.nod (h.way x hx) (by decide))
    · rw [List.mem_singleton.1 hx]
      exact hw.kept hg (own_types h.nod hw (by decide))
theorem NdsAt.node_ (h : NdsAt W B A n c hs) (h0 : 0 < n) : ∃ g, A = some ⟨g, 0, none⟩ ∧ B ≤ g ∧ g < W.heap.size ∧ ∀ i x, hs[i]? = some x →
    W.cell? ⟨g, i * 3, none⟩ = some (.bool x.d.fin) ∧ W.cell? ⟨g, i * 3 + 1, none⟩ = some (.int .i64 x.d.out) ∧ W.cell? ⟨g, i * 3 + 2, none⟩ = some (.slice x.A x.d.ways.length x.c) := by
  obtain ⟨g, rfl, hb, hg⟩ := own_head h.nod h0
  refine ⟨g, rfl, hb, hg, fun i x hx => ?_⟩
  have hc : ∀ j u, x.hdr[j]? = some u → j < 3 → W.cell? ⟨g, i * 3 + j, none⟩ = some u := by
    intro j u hu hj
    have := h.nod.cells (g := g) rfl (i * 3 + j) u (by rw [flat_at Nh.hdr 3 (fun _ => rfl) hs i j x hx hj]; exact hu)
    rwa [Addr.add_lit, Nat.zero_add] at this
  exact ⟨hc 0 _ rfl (by omega), hc 1 _ rfl (by omega), hc 2 _ rfl (by omega)⟩
theorem NdsAt.cap (h : NdsAt W B A n c hs) : n ≤ c := by
  obtain ⟨A', c', hv, hc⟩ := own_shape h.nod
  injection hv with h1 h2 h3
  subst h3
  exact hc
theorem NdsAt.wsl (h : NdsAt W B A n c hs) {x : Nh} (hx : x ∈ hs) : Sl W W.heap.size 3 x.A x.d.ways.length (waysC x.d.ways) ∧ x.d.ways.length ≤ x.c := by
  refine ⟨Sl.of_own (h.way x hx), ?_⟩
  obtain ⟨A', c', hv, hc⟩ := own_shape (h.way x hx)
  unfold Nh.row at hv
  injection hv with h1 h2 h3
  subst h3
  exact hc
end
end Go.Proofs.YtheickndnniomaaDoor
