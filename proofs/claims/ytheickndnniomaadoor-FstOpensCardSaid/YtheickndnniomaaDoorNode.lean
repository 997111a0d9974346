/- fst's node: what it answers, by induction on what is left of 64 bytes. -/
import Derived.Test.YtheickndnniomaaDoorNodeA
import Derived.Test.YtheickndnniomaaDoorNodeB
namespace Go.Proofs.YtheickndnniomaaDoor
open Go.RowKit Go.Maps

theorem Okl.at_le {at_ : Nat} {told : Int} {l : List Ent} (h : Okl at_ told l) : at_ ≤ 64 := by
  obtain ⟨p, hp, hq⟩ := h.pre
  cases hl : l with
  | nil => exact absurd hl h.ne
  | cons e r =>
    have he : e ∈ l := by rw [hl]; exact List.mem_cons_self ..
    obtain ⟨q, e1⟩ := hq e he
    have h64 := h.len e he
    rw [e1, List.length_append] at h64
    omega
theorem node_any (p kb base B : Nat) (hB : B ≤ base) (htb : 0 < base) : ∀ (f at_ : Nat), 65 ≤ at_ + f → ∀ (w : World) (v : Value) (hs : List Nh) (l : List Ent) (A : Option Addr) (n c : Nat) (told : Int), FbAt w p kb base v hs → Ents w B A n c l → Okl at_ told l → l.length ≤ 65536 → hs.length + 1 + cost at_ l ≤ CAP → Tab w →
    Calls Tryd.prog 27 #[.pointer (some ⟨p, 0, none⟩), .slice A n c, .int .i64 (at_ : Int), .int .i64 told] w (NodePost f w p kb base v hs l at_ told)
  | 0, at_, hf, w, v, hs, l, A, n, c, told, hfb, hE, hok, hl, hcap, ht => absurd hok.at_le (by omega)
  | f + 1, at_, hf, w, v, hs, l, A, n, c, told, hfb, hE, hok, hl, hcap, ht => by
    have ih : ∀ (W : World) (v : Value) (hs : List Nh) (g : List Ent) (A : Option Addr) (n c : Nat) (m : Int), FbAt W p kb base v hs → Ents W B A n c g → Okl (at_ + 1) m g → g.length ≤ 65536 → hs.length + 1 + cost (at_ + 1) g ≤ CAP → Tab W → Calls Tryd.prog 27 #[.pointer (some ⟨p, 0, none⟩), .slice A n c, .int .i64 ((at_ : Int) + 1), .int .i64 m] W (NodePost f W p kb base v hs g (at_ + 1) m) := by
      intro W v hs g A n c m h1 h2 h3 h4 h5 h6
      have := node_any p kb base B hB htb f (at_ + 1) (by omega) W v hs g A n c m h1 h2 h3 h4 h5 h6
      rwa [show ((at_ + 1 : Nat) : Int) = (at_ : Int) + 1 by omega] at this
    by_cases hfin : headL l = at_
    · exact node_fin f w p kb base B v hs l A n c at_ told hfb hE hB hok hok.at_le hl hcap ht htb ih hfin
    · exact node_nofin f w p kb base B v hs l A n c at_ told hfb hE hB hok hok.at_le hl hcap ht htb ih hfin
end Go.Proofs.YtheickndnniomaaDoor
