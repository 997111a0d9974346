/- The reference's maker: its state; a byte's round (plain). -/
import Derived.Test.YtheickndnniomaaDoorRests
namespace Go.Proofs.YtheickndnniomaaDoor
open Go.RowKit Go.Maps

/-- One byte of the loop over bytes. -/
theorem byte_round {at_ : Nat} {told : Int} {r : List Ent} (ho : Okr at_ told r) (hl : r.length ≤ 65536) {c : Nat} (hb : ∀ e ∈ r, (c : Int) ≤ byteAt e.1 at_) :
    (rawE c (subE at_ told r) = [] ∧ ∀ e ∈ r, ((c + 1 : Nat) : Int) ≤ byteAt e.1 at_) ∨
    ∃ e r', r = e :: r' ∧ byteAt e.1 at_ = (c : Int) ∧ rawE c (subE at_ told r) = subE (at_ + 1) told ((e :: r').take (grpN at_ (e :: r'))) ∧
      (∀ x ∈ (e :: r').drop (grpN at_ (e :: r')), ((c + 1 : Nat) : Int) ≤ byteAt x.1 at_) ∧ ∀ c', c + 1 ≤ c' → rawE c' (subE at_ told (e :: r')) = rawE c' (subE at_ told ((e :: r').drop (grpN at_ (e :: r')))) := by
  by_cases hhead : ∃ e r', r = e :: r' ∧ byteAt e.1 at_ = (c : Int)
  · obtain ⟨e, r', rfl, hbe⟩ := hhead
    refine .inr ⟨e, r', rfl, hbe, ?_⟩
    have hsame := grp_same (at_ := at_) (e := e) (r := r')
    have hlong := ho.long
    have hlater := ho.later
    have hsplit : (e :: r').take (grpN at_ (e :: r')) ++ (e :: r').drop (grpN at_ (e :: r')) = e :: r' := List.take_append_drop ..
    have hsub : ∀ x ∈ (e :: r').take (grpN at_ (e :: r')), x ∈ e :: r' := fun x hx => List.mem_of_mem_take hx
    have hsub2 : ∀ x ∈ (e :: r').drop (grpN at_ (e :: r')), x ∈ e :: r' := fun x hx => List.mem_of_mem_drop hx
    generalize (e :: r').take (grpN at_ (e :: r')) = g at *
    generalize (e :: r').drop (grpN at_ (e :: r')) = r2 at *
    have hsap : subE at_ told (e :: r') = subE at_ told g ++ subE at_ told r2 := by
      rw [← hsplit]
      unfold subE
      rw [List.map_append]
    have hg1 : rawE c (subE at_ told g) = subE (at_ + 1) told g := rawE_sub (fun x hx => by rw [hsame x hx, hbe]) (fun x hx => hlong x (hsub x hx))
    have hg2 : rawE c (subE at_ told r2) = [] := rawE_none fun y hy => by
      obtain ⟨z, hz, hzb⟩ := fb_sub (fun z hz => hlong z (hsub2 z hz)) y hy
      have := hlater z hz
      rw [hzb]
      omega
    refine ⟨by rw [hsap, rawE_append, hg1, hg2, List.append_nil], fun x hx => by have := hlater x hx; omega, fun c' hc' => ?_⟩
    rw [hsap, rawE_append]
    have : rawE c' (subE at_ told g) = [] := rawE_none fun y hy => by
      obtain ⟨z, hz, hzb⟩ := fb_sub (fun z hz => hlong z (hsub z hz)) y hy
      rw [hzb, hsame z hz, hbe]
      omega
    rw [this, List.nil_append]
  · refine .inl ?_
    have hlow : ∀ e ∈ r, (c : Int) < byteAt e.1 at_ := by
      intro e he
      have h1 := hb e he
      cases r with
      | nil => cases he
      | cons e0 r' =>
        have h0 := hb e0 (List.mem_cons_self ..)
        have hne : byteAt e0.1 at_ ≠ (c : Int) := fun h => hhead ⟨e0, r', rfl, h⟩
        rcases List.mem_cons.1 he with rfl | he
        · omega
        · have := ho.bytes e he
          omega
    refine ⟨rawE_none fun y hy => ?_, fun e he => by have := hlow e he; omega⟩
    obtain ⟨z, hz, hzb⟩ := fb_sub ho.long y hy
    have := hlow z hz
    rw [hzb]
    omega
/-- Where no node is left alike, a new one stands behind. -/
theorem nodeF_fresh {f : Nat} {ds : List Nd} {l : List Ent} {at_ : Nat} {told : Int} (hf : 65 ≤ at_ + (f + 1)) (hi : Inv ds) (ho : Okl at_ told l) (hl : l.length ≤ 65536) (hm : leastO l = told) (hno : ∀ i, i < ds.length → left ds i ≠ subE at_ told l)
    {ds' : List Nd} {ways : List (Int × Int × Int)} (hw : waysL (fun ds g m => nodeF f ds g (at_ + 1) m) at_ told (restL at_ l).length ds [] (restL at_ l) = (ds', ways)) :
    nodeF (f + 1) ds l at_ told = (ds'.length, ds' ++ [⟨isFin at_ l, if headL l = at_ then headO l - told else 0, ways⟩]) ∧ lefts (ds' ++ [⟨isFin at_ l, if headL l = at_ then headO l - told else 0, ways⟩]) = lefts ds' ++ [subE at_ told l] ∧ Inv ds' := by
  have hs := refN_step (f + 1) ds l at_ told hf hi ho hl hm
  have hG := nodeF_left (f + 1) ds l at_ told hf hi ho hl hm
  obtain ⟨hrs, hrl⟩ := restL_sub at_ l
  obtain ⟨es, more, k1, k2, _⟩ := waysL_left (told := told) (fun ds g m h1 h2 h3 h4 => nodeF_left f ds g (at_ + 1) m (by omega) h1 h2 h3 h4) (restL at_ l).length ds [] (restL at_ l) (Nat.le_refl _) hi ho.rest (by omega)
  rw [hw] at k1
  injection k1 with k3 k4
  obtain ⟨g1, _, g3, g4, _⟩ := hG
  have hx : idxE (stOf ds).ls (subE at_ told l) = none := by
    cases hx : idxE (stOf ds).ls (subE at_ told l) with
    | none => rfl
    | some i =>
      exfalso
      have h1 := idxE_some hx
      have hil : i < ds.length := by
        have := (List.getElem?_eq_some_iff.1 h1).1
        rwa [show (stOf ds).ls = lefts ds from rfl, lefts_len] at this
      have := lefts_get hil
      rw [show (stOf ds).ls = lefts ds from rfl, this] at h1
      injection h1 with h1
      exact hno i hil h1
  rw [← k3] at k2
  have hC := refC_step (told := told) (rec_ := fun ds g m => nodeF f ds g (at_ + 1) m) (rr := refN f) (fun ds g m a b c d => ⟨(nodeF_left f ds g (at_ + 1) m (by omega) a b c d).1, refN_step f ds g (at_ + 1) m (by omega) a b c d⟩) (subE at_ told l) 256 (Nat.le_refl _) (restL at_ l).length ds [] (restL at_ l) (Nat.le_refl _) hi ho.rest (by omega)
    (fun c _ => by
      cases l with
      | nil => exact absurd rfl ho.ne
      | cons e r =>
        by_cases hh : e.1.length = at_
        · have h2 : restL at_ (e :: r) = r := if_pos hh
          rw [h2, subE_head hh]
          unfold rawE
          rw [List.filterMap_cons]
        · have h2 : restL at_ (e :: r) = e :: r := if_neg hh
          rw [h2])
    (fun e _ => by have := (byteAt_255 e.1 at_).1; omega)
  rw [refN, hx] at hs
  simp only [hC, hw] at hs
  rw [nodeF] at hs g1 g3 g4 ⊢
  simp only [hw] at hs g1 g3 g4 ⊢
  generalize (⟨isFin at_ l, if headL l = at_ then headO l - told else 0, ways⟩ : Nd) = d at *
  unfold addN at hs g1 g3 g4 ⊢
  cases hy : idx (ds'.map sgn) (sgn d) with
  | some i =>
    exfalso
    rw [hy] at hs
    simp only at hs
    have h1 := congrArg (fun q : Nat × St => q.2.ls.length) hs
    have h2 := congrArg (fun q : Nat × St => q.1) hs
    simp only [List.length_append, List.length_singleton] at h1 h2
    have h3 : (stOf ds').ls.length = ds'.length := lefts_len _
    rw [hy] at g3
    simp only at g3
    omega
  | none =>
    rw [hy] at g1 g4
    simp only at g1 g4 ⊢
    first
      | exact ⟨rfl, by rw [lefts_snoc k2.fine, g4], k2⟩
      | exact ⟨trivial, by rw [lefts_snoc k2.fine, g4], k2⟩
structure Lh where
  l : List Ent
  A : Option Addr
  c : Nat
def Lh.hdr (x : Lh) : List Value := [.slice x.A x.l.length x.c]
/-- The maker in memory: what is left behind each node, the texts. -/
structure MkB (W : World) (p base : Nat) (Al : Option Addr) (n cl : Nat) (At : Option Addr) (k ct : Nat) (H : List Lh) (T : List (List Int)) : Prop where
  blk : W.heap[p]? = some (.cells #[.slice Al n cl, .slice At k ct] 70 (0, 0))
  hn : H.length = n
  tn : T.length = k
  row : W.ownsRow base 22 1 (.slice Al n cl) n (H.flatMap Lh.hdr)
  ent : ∀ x ∈ H, W.ownsRow base 26 2 (.slice x.A x.l.length x.c) x.l.length (entsC x.l)
  txt : W.ownsRow base 9 1 (.slice At k ct) k (T.map fun z => .string (strOfNums z))
  lp : p < base
section
variable {W W' W2 : World} {p base : Nat} {Al At : Option Addr} {n cl k ct : Nat} {H : List Lh} {T : List (List Int)}
theorem MkB.below (h : MkB W p base Al n cl At k ct H T) (hb : Below W.heap.size W W') : MkB W' p base Al n cl At k ct H T :=
  ⟨(hb.block p (Array.getElem?_eq_some_iff.1 h.blk).1).trans h.blk, h.hn, h.tn, own_kept h.row hb, fun x hx => own_kept (h.ent x hx) hb, own_kept h.txt hb, h.lp⟩
theorem MkB.lt (h : MkB W p base Al n cl At k ct H T) : p < W.heap.size := (Array.getElem?_eq_some_iff.1 h.blk).1
theorem MkB.cells (h : MkB W p base Al n cl At k ct H T) : W.cell? ⟨p, 0, none⟩ = some (.slice Al n cl) ∧ W.cell? ⟨p, 1, none⟩ = some (.slice At k ct) :=
  ⟨cell_of_row _ p 0 _ _ (0, 0) h.blk, cell_of_row _ p 1 _ _ (0, 0) h.blk⟩
theorem MkB.free (h : MkB W p base Al n cl At k ct H T) (j : Nat) : W.frozen? ⟨p, j, none⟩ = false := free_at h.blk j
theorem own_low' {W : World} {base : Nat} {e s m k : Nat} {v : Value} {xs : List Value} (h : W.ownsRow base e s v m xs) (hk : k < base) : v.ownBlock ≠ some k := fun e => by
  have := (h.lt k e).1
  omega
/-- Where the row of lists grows, before the block is stored. -/
theorem MkB.growL {A1 : Option Addr} {c1 : Nat} {x : Lh} (h : MkB W p base Al n cl At k ct H T) (hx : W.ownsRow base 26 2 (.slice x.A x.l.length x.c) x.l.length (entsC x.l)) (hg : W.grownBy W2 (Value.slice Al n cl).ownBlock)
    (ho : W2.ownsRow base 22 1 (.slice A1 (n + 1) c1) (n + 1) (H.flatMap Lh.hdr ++ x.hdr)) :
    W2.heap[p]? = some (.cells #[.slice Al n cl, .slice At k ct] 70 (0, 0)) ∧ MkB (W2.setCell ⟨p, 0, none⟩ (.slice A1 (n + 1) c1)) p base A1 (n + 1) c1 At k ct (H ++ [x]) T := by
  have hp := own_low' h.row h.lp
  have hb := (hg.block p h.lt (Ne.symm hp)).trans h.blk
  refine ⟨hb, ⟨by simp [World.setCell, Array.getElem?_modify, hb], by rw [List.length_append, h.hn]; rfl, h.tn, ?_, ?_, ?_, h.lp⟩⟩
  · rw [List.flatMap_append]
    have e : List.flatMap Lh.hdr [x] = x.hdr := by simp
    rw [e]
    exact own_set ho h.lp
  · intro y hy
    rcases List.mem_append.1 hy with hy | hy
    · exact own_set ((h.ent y hy).kept hg (own_types h.row (h.ent y hy) (by decide))) h.lp
    · rw [List.mem_singleton.1 hy]
      exact own_set (hx.kept hg (own_types h.row hx (by decide))) h.lp
  · exact own_set (h.txt.kept hg (own_types h.row h.txt (by decide))) h.lp
/-- Where the row of texts grows. -/
theorem MkB.growT {A1 : Option Addr} {c1 : Nat} {z : List Int} (h : MkB W p base Al n cl At k ct H T) (hg : W.grownBy W2 (Value.slice At k ct).ownBlock)
    (ho : W2.ownsRow base 9 1 (.slice A1 (k + 1) c1) (k + 1) ((T.map fun z => .string (strOfNums z)) ++ [.string (strOfNums z)])) :
    W2.heap[p]? = some (.cells #[.slice Al n cl, .slice At k ct] 70 (0, 0)) ∧ MkB (W2.setCell ⟨p, 1, none⟩ (.slice A1 (k + 1) c1)) p base Al n cl A1 (k + 1) c1 H (T ++ [z]) := by
  have hp := own_low' h.txt h.lp
  have hb := (hg.block p h.lt (Ne.symm hp)).trans h.blk
  refine ⟨hb, ⟨by simp [World.setCell, Array.getElem?_modify, hb], h.hn, by rw [List.length_append, h.tn]; rfl, ?_, ?_, ?_, h.lp⟩⟩
  · exact own_set (h.row.kept hg (own_types h.txt h.row (by decide))) h.lp
  · intro y hy
    exact own_set ((h.ent y hy).kept hg (own_types h.txt (h.ent y hy) (by decide))) h.lp
  · rw [List.map_append]
    exact own_set ho h.lp
end
/-- Blocks of entries stay. -/
def Keeps (W W' : World) : Prop := ∀ (k : Nat) (cs : Array Value), W.heap[k]? = some (.cells cs 26 (0, 0)) → W'.heap[k]? = some (.cells cs 26 (0, 0))
theorem Keeps.refl (W : World) : Keeps W W := fun _ _ h => h
theorem Keeps.trans {a b c : World} (h : Keeps a b) (h' : Keeps b c) : Keeps a c := fun k cs hk => h' k cs (h k cs hk)
theorem Keeps.below {W W' : World} (hb : Below W.heap.size W W') : Keeps W W' := fun k _ hk => (hb.block k (Array.getElem?_eq_some_iff.1 hk).1).trans hk
theorem Keeps.own {W W' : World} {base n : Nat} {v : Value} {xs : List Value} (h : Keeps W W') (ho : W.ownsRow base 26 2 v n xs) : W'.ownsRow base 26 2 v n xs := by
  refine ⟨ho.1, ?_⟩
  rcases ho.2 with h0 | ⟨g, cap, cur, hv, hb, hg, rest⟩
  · exact .inl h0
  · exact .inr ⟨g, cap, cur, hv, hb, h g cur hg, rest⟩
theorem Keeps.grown {W W' : World} {base e s n : Nat} {v : Value} {xs : List Value} (ho : W.ownsRow base e s v n xs) (he : e ≠ 26) (hg : W.grownBy W' v.ownBlock) : Keeps W W' := fun k _ hk => by
  refine (hg.block k (Array.getElem?_eq_some_iff.1 hk).1 fun e' => ?_).trans hk
  rcases row_not_cells ho hk (Ne.symm he) with h | h
  · rw [h] at e'; cases e'
  · exact h e'.symm
theorem Keeps.set {W : World} {p i : Nat} {C : Array Value} {t : TypeId} {v : Value} {f : Nat × Nat} (hb : W.heap[p]? = some (.cells C t f)) (ht : t ≠ 26) : Keeps W (W.setCell ⟨p, i, none⟩ v) := fun k _ hk => by
  by_cases hkp : k = p
  · subst hkp
    rw [hk] at hb
    injection hb with hb
    injection hb with _ hb _
    exact absurd hb.symm ht
  · rw [Below.heap_setCell _ _ _ k (by show k ≠ p; exact hkp)]
    exact hk
theorem el_ents : Elem Tryd.prog 68 22 1 24 := Elem.mk_ Tryd.underlying68 (z := .slice none 0 0) (by kernel_rfl) rfl (by omega)
theorem el_str : Elem Tryd.prog 40 9 1 16 := Elem.mk_ Tryd.underlying40 (z := .string ⟨#[]⟩) (by kernel_rfl) rfl (by omega)
end Go.Proofs.YtheickndnniomaaDoor
