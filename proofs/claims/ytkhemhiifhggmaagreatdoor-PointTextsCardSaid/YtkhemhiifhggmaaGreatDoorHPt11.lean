/- What is packed is read as itself. (plain) -/
import Derived.Test.YtkhemhiifhggmaaGreatDoorHPt7
import Derived.Test.YtkhemhiifhggmaaGreatDoorHPt6
import Derived.Test.YtkhemhiifhggmaaGreatDoorHPt10
import Derived.Test.YtkhemhiifhggmaaGreatDoorHPt3
set_option maxRecDepth 100000
set_option maxHeartbeats 40000000
namespace Go.Proofs.YtkhemhiifhggmaaGreatDoor
set_option linter.unusedVariables false
theorem cntR_enc (z : Int) (hz : 0 ≤ z ∧ z ≤ 9223372036854775807) (r : List UInt8) : cntR (by8 (numI z) ++ r) = some (z, r) := by
 unfold cntR
 rw [readCnt_enc hz r]
 rfl
theorem segB_eq (s : Sg) : segB s = by8 (numI s.id) ++ (by8 (numI s.docs) ++ (by8 (numI s.gen) ++ by8 (numI s.gone))) := by
 unfold segB Sg.nums numsI
 simp [by8]
theorem segR_enc (s : Sg) (h : ∀ z ∈ s.nums, 0 ≤ z ∧ z ≤ 9223372036854775807) (r : List UInt8) : segR (segB s ++ r) = some (s, r) := by
 have h1 := h s.id (by simp [Sg.nums])
 have h2 := h s.docs (by simp [Sg.nums])
 have h3 := h s.gen (by simp [Sg.nums])
 have h4 := h s.gone (by simp [Sg.nums])
 unfold segR
 rw [segB_eq]
 simp only [List.append_assoc]
 rw [cntR_enc _ h1]
 simp only [Option.bind_some]
 rw [cntR_enc _ h2]
 simp only [Option.bind_some]
 rw [cntR_enc _ h3]
 simp only [Option.bind_some]
 rw [cntR_enc _ h4]
 rfl
theorem segsR_enc : ∀ (l : List Sg) (h : ∀ s ∈ l, ∀ z ∈ s.nums, 0 ≤ z ∧ z ≤ 9223372036854775807) (r : List UInt8), segsR l.length (l.flatMap segB ++ r) = some (l, r)
 | [], _, _ => rfl
 |
  s :: l, h, r => by
  rw [List.flatMap_cons, List.append_assoc, List.length_cons]
  unfold segsR
  rw [segR_enc s (h s (List.mem_cons_self ..))]
  simp only [Option.bind_some]
  rw [segsR_enc l (fun s' hs => h s' (List.mem_cons_of_mem _ hs)) r]
  rfl
theorem readBlk_enc (t : List UInt8) (ht : t.length ≤ 4611686018427387000) (r : List UInt8) : readBlk (blockB t ++ r) = (t, 0, r) := by
 unfold blockB readBlk
 rw [List.append_assoc, readCnt_enc (z := (t.length : Int)) ⟨by omega, by omega⟩]
 simp
 omega
theorem open_seal (k : Nat) (t : List UInt8) (ht : t.length ≤ 4611686018427387000) : openB k (sealB k t) = (t, 0) := by
 have hs : sealB k t = wantB k ++ (blockB t ++ four (sumZ (bodyB k t))) := by
  unfold sealB bodyB wantB
  simp
 have hd : (sealB k t).drop 4 = blockB t ++ four (sumZ (bodyB k t)) := by
  rw [hs]
  exact List.drop_left' rfl
 have h4 : (four (sumZ (bodyB k t))).length = 4 := by simp [four, by8]
 unfold openB
 rw [hd, readBlk_enc t ht]
 simp only [h4]
 rw [if_pos (by rw [hs]; exact headE_ok _ _ (List.take_left' rfl))]
 simp
theorem textP_len {next : Int} {l : List Sg} (h : PtOk next l) (hl : l.length ≤ 1099511627776) : (textP next l).length ≤ 36 * l.length + 18 := by
 have hp := segsOk_pos h.2.1 (Int.le_refl 0) h.2.2
 have h1 : (by8 (numsI [next, (l.length : Int)])).length ≤ 18 := by
  rw [by8_length]
  have := numsI_len4 (zs := [next, (l.length : Int)]) (by
   intro z hz
   simp only [List.mem_cons, List.not_mem_nil, or_false] at hz
   rcases hz with e | e <;> subst e <;> have := h.1 <;> have := h.2.1 <;> exact ⟨by omega, by omega⟩)
  simp at this
  omega
 have h2 : ∀ l : List Sg, (∀ s ∈ l, ∀ z ∈ s.nums, 0 ≤ z ∧ z ≤ 9223372036854775807) → (l.flatMap segB).length ≤ 36 * l.length := by
  intro l
  induction l with
  | nil => intro _; simp
  |
   cons s r ih =>
   intro hp
   have h3 := ih fun s' hs => hp s' (List.mem_cons_of_mem _ hs)
   have h4 := numsI_len4 (zs := s.nums) (hp s (List.mem_cons_self ..))
   have h5 : (segB s).length ≤ 36 := by unfold segB; rw [by8_length]; simp [Sg.nums] at h4 ⊢; omega
   simp only [List.flatMap_cons, List.length_append, List.length_cons]
   omega
 have h3 := h2 l hp
 unfold textP
 rw [List.length_append]
 omega
theorem read_seal {next : Int} {l : List Sg} (h : PtOk next l) (hl : l.length ≤ 1099511627776) : readP (sealB 2 (textP next l)) = some (next, l) := by
 have hp := segsOk_pos h.2.1 (Int.le_refl 0) h.2.2
 unfold readP
 rw [open_seal _ _ (by have := textP_len h hl; omega), if_pos rfl]
 have ht : textP next l = by8 (numI next) ++ (by8 (numI (l.length : Int)) ++ (l.flatMap segB ++ [])) := by
  unfold textP numsI
  simp [by8]
 simp only
 rw [ht, cntR_enc _ ⟨by have := h.1; omega, by have := h.2.1; omega⟩]
 simp only [Option.bind_some]
 rw [cntR_enc _ ⟨by omega, by omega⟩]
 simp only [Option.bind_some, Int.toNat_natCast]
 rw [segsR_enc l hp]
 simp only [Option.bind_some]
 rw [if_pos ⟨trivial, h⟩]
end Go.Proofs.YtkhemhiifhggmaaGreatDoor
namespace Go.Proofs.YtkhemhiifhggmaaGreatDoor
open Go.RowKit Go.Maps Go.Sort
set_option linter.unusedVariables false
section
variable {H : Type} {D : DS H} {f h : ByteArray → Option Int} {g : Int → List UInt8 × Int} {L a q : Int}
structure Aft (f : ByteArray → Option Int) (g : Int → List UInt8 × Int) (L : Int) (S nm : ByteArray) (f' : ByteArray → Option Int) (g' : Int → List UInt8 × Int) : Prop where
 o : ∀ s, s ≠ newN → s ≠ nm → f' s = f s
 y : f' nm = f nm ∨ (f' nm = some (L + 1) ∧ g' (L + 1) = (S.data.toList, (S.data.toList.length : Int)))
 g : ∀ k, k ≤ L → g' k = g k
def SaveEnd (R : DS H × Int) (f h : ByteArray → Option Int) (g : Int → List UInt8 × Int) (L a q : Int) (S nm : ByteArray) : Prop :=
 (R.2 = 0 ∧ (a = -1 ∨ 5 ≤ a) ∧ Ar R.1 (max (-1) (a - 5)) q ∧ ∃ f' g' L', DV R.1 f' f' g' L' ∧ Aft f g L S nm f' g' ∧ f' nm = some (L + 1) ∧ g' (L + 1) = (S.data.toList, (S.data.toList.length : Int)) ∧ f' newN = none) ∨
 (R.2 = q ∧ 0 ≤ a ∧ a ≤ 4 ∧ R.1.armed = -1 ∧ R.1.down = (q == 15) ∧ ∃ f' g' L', DV R.1 f' h g' L' ∧ Aft f g L S nm f' g')
theorem saveEnd_no {E : DS H} {R : DS H × Int} {S nm : ByteArray} {f' : ByteArray → Option Int} {g' : Int → List UInt8 × Int} {L' : Int} (e : R = E.step) (hA : Ar E 0 q) (v : DV E f' h g' L') (haft : Aft f g L S nm f' g') (h0 : 0 ≤ a) (h4 : a ≤ 4) : SaveEnd R f h g L a q S nm := by
 rw [step_no hA] at e
 subst e
 obtain ⟨v1, x1, x2, x3⟩ := ar_fault (D := E) rfl hA.2.1 v
 exact .inr ⟨rfl, h0, h4, x1, x3, f', g', L', v1, haft⟩
theorem newN_ok : nameB newN = true := by decide +kernel
theorem upd_le {β : Type} (g : Int → β) {L k : Int} (b : β) (h : k ≤ L) : upd g (L + 1) b k = g k := upd_other _ _ (by omega)
theorem save_run (v : DV D f h g L) (hA : Ar D a q) (ha : -1 ≤ a) (hq : 0 ≤ a → q ≠ 0) (S : ByteArray) {nm : ByteArray} (hnm : nameB nm = true) (hne : nm ≠ newN) : SaveEnd (runS (acts S nm) D) f h g L a q S nm := by
 unfold acts
 by_cases h0 : a = 0
 ·subst h0
  have e := create_no hA (hq (by omega)) newN_ok
  have h1 : (D.create newN).2 ≠ 0 := by rw [e, step_no hA]; exact hq (by omega)
  rw [runS_no h1]
  exact saveEnd_no e hA v ⟨fun _ _ _ => rfl, .inl rfl, fun _ _ => rfl⟩ (Int.le_refl _) (by omega)
 obtain ⟨e1, v1, A1⟩ := create_go v hA h0 newN_ok
 rw [runS_ok (f := fun D => D.create ⟨#[110, 101, 119]⟩) e1]
 have hf1 : upd f newN (some (L + 1)) newN = some (L + 1) := upd_same _ _ _
 have ho1 : ∀ s, s ≠ newN → s ≠ nm → upd f newN (some (L + 1)) s = f s := fun s h1 _ => upd_other _ _ h1
 have hy1 : upd f newN (some (L + 1)) nm = f nm := upd_other _ _ hne
 generalize hE1 : (D.create ⟨#[110, 101, 119]⟩).1 = E1
 have hE1' : (D.create newN).1 = E1 := hE1
 rw [hE1'] at v1 A1
 by_cases h1 : max (-1) (a - 1) = 0
 ·rw [h1] at A1
  have e := change_no v1 A1 (hq (by omega)) newN_ok hf1 (fun f => (f.1 ++ S.data.toList, f.2))
  have hn : (E1.append newN S).2 ≠ 0 := by unfold DS.append; rw [e, step_no A1]; exact hq (by omega)
  rw [runS_no (f := fun D => D.append ⟨#[110, 101, 119]⟩ S) hn]
  exact saveEnd_no e A1 v1 ⟨ho1, .inl hy1, fun k hk => upd_le _ _ hk⟩ (by omega) (by omega)
 obtain ⟨e2, v2, A2⟩ := change_go v1 A1 h1 newN_ok hf1 (fun f => (f.1 ++ S.data.toList, f.2))
 rw [runS_ok (f := fun D => D.append ⟨#[110, 101, 119]⟩ S) (by exact e2)]
 generalize hE2 : (E1.append ⟨#[110, 101, 119]⟩ S).1 = E2
 have hE2' : (E1.change newN (fun f => (f.1 ++ S.data.toList, f.2))).1 = E2 := hE2
 rw [hE2'] at v2 A2
 by_cases h2 : max (-1) (max (-1) (a - 1) - 1) = 0
 ·rw [h2] at A2
  have e := change_no v2 A2 (hq (by omega)) newN_ok hf1 (fun f => (f.1, (f.1.length : Int)))
  have hn : (E2.sync newN).2 ≠ 0 := by unfold DS.sync; rw [e, step_no A2]; exact hq (by omega)
  rw [runS_no (f := fun D => D.sync ⟨#[110, 101, 119]⟩) hn]
  exact saveEnd_no e A2 v2 ⟨ho1, .inl hy1, fun k hk => by rw [upd_le _ _ hk, upd_le _ _ hk]⟩ (by omega) (by omega)
 obtain ⟨e3, v3, A3⟩ := change_go v2 A2 h2 newN_ok hf1 (fun f => (f.1, (f.1.length : Int)))
 rw [runS_ok (f := fun D => D.sync ⟨#[110, 101, 119]⟩) (by exact e3)]
 generalize hE3 : (E2.sync ⟨#[110, 101, 119]⟩).1 = E3
 have hE3' : (E2.change newN (fun f => (f.1, (f.1.length : Int)))).1 = E3 := hE3
 rw [hE3'] at v3 A3
 have hg3 : ∀ k, k ≤ L → upd (upd (upd g (L + 1) ([], 0)) (L + 1) ((upd g (L + 1) ([], 0) (L + 1)).1 ++ S.data.toList, (upd g (L + 1) ([], 0) (L + 1)).2)) (L + 1) ((upd (upd g (L + 1) ([], 0)) (L + 1) ((upd g (L + 1) ([], 0) (L + 1)).1 ++ S.data.toList, (upd g (L + 1) ([], 0) (L + 1)).2) (L + 1)).1, (((upd (upd g (L + 1) ([], 0)) (L + 1) ((upd g (L + 1) ([], 0) (L + 1)).1 ++ S.data.toList, (upd g (L + 1) ([], 0) (L + 1)).2) (L + 1)).1.length : Nat) : Int)) k = g k := fun k hk => by rw [upd_le _ _ hk, upd_le _ _ hk, upd_le _ _ hk]
 have hs3 : upd (upd (upd g (L + 1) ([], 0)) (L + 1) ((upd g (L + 1) ([], 0) (L + 1)).1 ++ S.data.toList, (upd g (L + 1) ([], 0) (L + 1)).2)) (L + 1) ((upd (upd g (L + 1) ([], 0)) (L + 1) ((upd g (L + 1) ([], 0) (L + 1)).1 ++ S.data.toList, (upd g (L + 1) ([], 0) (L + 1)).2) (L + 1)).1, (((upd (upd g (L + 1) ([], 0)) (L + 1) ((upd g (L + 1) ([], 0) (L + 1)).1 ++ S.data.toList, (upd g (L + 1) ([], 0) (L + 1)).2) (L + 1)).1.length : Nat) : Int)) (L + 1) = (S.data.toList, (S.data.toList.length : Int)) := by
  rw [upd_same, upd_same, upd_same]
  rfl
 by_cases h3 : max (-1) (max (-1) (max (-1) (a - 1) - 1) - 1) = 0
 ·rw [h3] at A3
  have e := rename_no v3 A3 (hq (by omega)) newN_ok hnm hf1
  have hn : (E3.rename newN nm).2 ≠ 0 := by rw [e, step_no A3]; exact hq (by omega)
  rw [runS_no (f := fun D => D.rename ⟨#[110, 101, 119]⟩ nm) hn]
  exact saveEnd_no e A3 v3 ⟨ho1, .inl hy1, hg3⟩ (by omega) (by omega)
 obtain ⟨e4, v4, A4⟩ := rename_go v3 A3 h3 newN_ok hnm hf1
 rw [runS_ok (f := fun D => D.rename ⟨#[110, 101, 119]⟩ nm) (by exact e4)]
 generalize hE4 : (E3.rename ⟨#[110, 101, 119]⟩ nm).1 = E4
 have hE4' : (E3.rename newN nm).1 = E4 := hE4
 rw [hE4'] at v4 A4
 have ho4 : ∀ s, s ≠ newN → s ≠ nm → upd (upd (upd f newN (some (L + 1))) newN none) nm (some (L + 1)) s = f s := fun s h1 h2 => by rw [upd_other _ _ h2, upd_other _ _ h1, upd_other _ _ h1]
 have hy4 : upd (upd (upd f newN (some (L + 1))) newN none) nm (some (L + 1)) nm = some (L + 1) := upd_same _ _ _
 by_cases h4 : max (-1) (max (-1) (max (-1) (max (-1) (a - 1) - 1) - 1) - 1) = 0
 ·rw [h4] at A4
  have e := syncDir_no A4 (hq (by omega))
  have hn : (E4.syncDir).2 ≠ 0 := by rw [e, step_no A4]; exact hq (by omega)
  rw [runS_no (f := fun D => D.syncDir) hn]
  exact saveEnd_no e A4 v4 ⟨ho4, .inr ⟨hy4, hs3⟩, hg3⟩ (by omega) (by omega)
 obtain ⟨e5, v5, A5⟩ := syncDir_go v4 A4 h4
 rw [runS_ok (f := fun D => D.syncDir) e5]
 left
 refine ⟨rfl, by omega, ?_, _, _, _, v5, ⟨ho4, .inr ⟨hy4, hs3⟩, hg3⟩, hy4, hs3, ?_⟩
 ·have : max (-1) (max (-1) (max (-1) (max (-1) (max (-1) (a - 1) - 1) - 1) - 1) - 1) = max (-1) (a - 5) := by omega
  rw [this] at A5
  exact A5
 ·rw [upd_other _ _ (fun e => hne e.symm), upd_same]
def StrK (M : DataW H) : Prop := ∃ es, M = .map es ∧ ∀ p ∈ es, ∃ t, p.1 = .string t
theorem StrK.mem {M : DataW H} (h : StrK M) (t : List UInt8) : t ∈ strKeys M ↔ Maps.has M (keyS (bs t)) = true := by
 obtain ⟨es, rfl, hk⟩ := h
 have hks : keyS (bs t) = .string t := by simp [keyS, bs]
 rw [hks, has_eq, List.any_eq_true]
 show t ∈ es.map (fun p => strOf p.1) ↔ _
 rw [List.mem_map]
 constructor
 ·rintro ⟨p, hp, e⟩
  obtain ⟨u, hu⟩ := hk p hp
  refine ⟨p, hp, ?_⟩
  rw [hu] at e ⊢
  have : u = t := e
  rw [this]
  exact Go.WideAt.sameKey_self (by simp [Go.WideAt.IsKeyLit])
 ·rintro ⟨p, hp, e⟩
  have := Go.WideAt.sameKey_eq e
  exact ⟨p, hp, by rw [this]; rfl⟩
theorem lateF_best {F : List UInt8 → List UInt8} {y0 : List UInt8} {m : Int} {p : Int × List Sg} (hy : okName y0 = some m) (hr : readP (F y0) = some p) : ∀ l : List (List UInt8), l.Pairwise (fun x y => y ≤ x) → y0 ∈ l → (∀ s ∈ l, y0 < s → okName s = none) → lateF F l = some (m, p.1, p.2)
 | [], _, h, _ => absurd h List.not_mem_nil
 |
  s :: r, hp, hm, hn => by
  by_cases e : y0 = s
  ·subst e
   unfold lateF
   rw [hy, Option.bind_some, hr]
   rfl
  ·have hmr : y0 ∈ r := (List.mem_cons.1 hm).resolve_left e
   obtain ⟨h1, h2⟩ := List.pairwise_cons.1 hp
   rw [lateF_skip (hn s (List.mem_cons_self ..) (sle_lt (h1 y0 hmr) e))]
   exact lateF_best hy hr r h2 hmr (fun s hs => hn s (List.mem_cons_of_mem _ hs))
theorem bs_inj {s t : List UInt8} (h : bs s = bs t) : s = t := by
 unfold bs at h
 injection h with h
 injection h
theorem bs_data (s : List UInt8) : (bs s).data.toList = s := by simp [bs]
theorem latest_at (v : DV D f h g L) (hd : D.down = false) (hK : StrK D.names) {ss : List (List UInt8)} (hss : ss.Perm (strKeys D.names)) {m : Int} (hm : 1 ≤ m ∧ m ≤ 999999999) {k : Int} (hk : f (bs (nameP 112 m)) = some k) {p : Int × List Sg} (hr : readP (g k).1 = some p)
  (hon : ∀ s k', f s = some k' → s = newN ∨ ∃ m', (1 ≤ m' ∧ m' ≤ m) ∧ s = bs (nameP 112 m')) : latestD D ss = some (m, p.1, p.2) := by
 have hmem : ∀ s, s ∈ (sortedN ss).reverse ↔ (f (bs s)).isSome = true := fun s => by
  rw [List.mem_reverse]
  show s ∈ sortS ss ↔ _
  rw [sortS_mem, hss.mem_iff, hK.mem, (v.n.2 _).1]
 have hng := name_good (c := 112) hm (by decide)
 have hrd := (read_dv v hd hng).1 k hk
 unfold latestD
 refine lateF_best (name_ok hm) ?_ _ ?_ ((hmem _).2 (by rw [hk]; rfl)) ?_
 ·show readP (readS D (bs (nameP 112 m))).data.toList = _
  rw [hrd.2, bs_data]
  exact hr
 ·rw [List.pairwise_reverse]
  exact sortS_le ss
 ·intro s hs hlt
  obtain ⟨k', hk'⟩ := Option.isSome_iff_exists.1 ((hmem s).1 hs)
  rcases hon _ _ hk' with e | ⟨m', hm', e⟩
  ·have : s = [110, 101, 119] := bs_inj e
   rw [this]
   exact new_none
  ·have e := bs_inj e
   subst e
   rcases Int.lt_or_lt_of_ne (a := m') (b := m) (by
    intro e
    subst e
    exact List.lt_irrefl _ hlt) with h1 | h1
   ·exact absurd (List.lt_trans (name_lt hm'.1 hm.2 (by decide) h1) hlt) (List.lt_irrefl _)
   ·omega
theorem acts_small (S nm : ByteArray) : ∀ F ∈ (acts S nm : List (DS H → DS H × Int)), ∀ (D : DS H) (n : Nat), D.small n → (F D).1.small (n + 1) := by
 intro F hF D n hd
 simp only [acts, List.mem_cons, List.not_mem_nil, or_false] at hF
 rcases hF with e | e | e | e | e <;> subst e
 ·exact hd.create _
 ·exact hd.append _ _
 ·exact hd.sync _
 ·exact hd.rename _ _
 ·exact hd.syncDir
theorem acts_good (S nm : ByteArray) : ∀ F ∈ (acts S nm : List (DS H → DS H × Int)), ∀ (D : DS H) (n : Nat), D.good n → (F D).1.good (n + S.size) := by
 intro F hF D n hd
 simp only [acts, List.mem_cons, List.not_mem_nil, or_false] at hF
 rcases hF with e | e | e | e | e <;> subst e
 ·exact (hd.create _).more (by omega)
 ·exact hd.append _ _
 ·exact (hd.sync _).more (by omega)
 ·exact (hd.rename _ _).more (by omega)
 ·exact hd.syncDir.more (by omega)
theorem runS_small : ∀ (l : List (DS H → DS H × Int)) (D : DS H) (n : Nat), (∀ F ∈ l, ∀ (D : DS H) (n : Nat), D.small n → (F D).1.small (n + 1)) → D.small n → (runS l D).1.small (n + l.length)
 | [], D, n, _, h => h
 |
  F :: r, D, n, hl, h => by
  have h1 := hl F (List.mem_cons_self ..) D n h
  rw [List.length_cons]
  by_cases e : (F D).2 = 0
  ·rw [runS_ok e]
   exact (runS_small r _ _ (fun F hF => hl F (List.mem_cons_of_mem _ hF)) h1).more (by omega)
  ·rw [runS_no e]
   exact h1.more (by omega)
theorem runS_good (c : Nat) : ∀ (l : List (DS H → DS H × Int)) (D : DS H) (n : Nat), (∀ F ∈ l, ∀ (D : DS H) (n : Nat), D.good n → (F D).1.good (n + c)) → D.good n → (runS l D).1.good (n + l.length * c)
 | [], D, n, _, h => h.more (by omega)
 |
  F :: r, D, n, hl, h => by
  have h1 := hl F (List.mem_cons_self ..) D n h
  rw [List.length_cons, Nat.succ_mul]
  by_cases e : (F D).2 = 0
  ·rw [runS_ok e]
   exact (runS_good c r _ _ (fun F hF => hl F (List.mem_cons_of_mem _ hF)) h1).more (by omega)
  ·rw [runS_no e]
   exact h1.more (by omega)
theorem saveD_eq {n nx : Int} {l : List Sg} (hn : 1 ≤ n ∧ n ≤ 999999999) (hp : PtOk nx l) (D : DS H) : saveD D n nx l = runS (acts (bs (sealB 2 (textP nx l))) (bs (nameP 112 n))) D := by
 have h1 : packP nx l = (sealB 2 (textP nx l), 0) := if_pos hp
 have h2 : nameP 112 n ≠ [] := by
  rw [name_form hn (by decide)]
  simp
 unfold saveD
 rw [h1, if_pos ⟨rfl, h2⟩]
 rfl
theorem segsOk_len {next : Int} : ∀ {l : List Sg} {x : Int}, x < next → segsOk next x l → x + (l.length : Int) < next
 | [], x, h, _ => by simpa using h
 |
  s :: r, x, h, hs => by
  obtain ⟨⟨h1, h2, _⟩, h3⟩ := hs
  have := segsOk_len h2 h3
  rw [List.length_cons]
  omega
theorem ptOk_len {next : Int} {l : List Sg} (h : PtOk next l) : l.length ≤ 999999998 := by
 have := segsOk_len (by have := h.1; omega) h.2.2
 have := h.2.1
 omega
theorem seal_size {next : Int} {l : List Sg} (h : PtOk next l) : (sealB 2 (textP next l)).length ≤ 36000000000 := by
 have h1 := ptOk_len h
 have h2 := textP_len h (by omega)
 rw [sealB_len]
 have := blockB_len (textP next l) (by omega)
 omega
theorem saveD_small {n nx : Int} {l : List Sg} (hn : 1 ≤ n ∧ n ≤ 999999999) (hp : PtOk nx l) {D : DS H} {k : Nat} (h : D.small k) : (saveD D n nx l).1.small (k + 5) := by
 rw [saveD_eq hn hp]
 exact runS_small _ _ _ (acts_small _ _) h
theorem saveD_good {n nx : Int} {l : List Sg} (hn : 1 ≤ n ∧ n ≤ 999999999) (hp : PtOk nx l) {D : DS H} {k : Nat} (h : D.good k) : (saveD D n nx l).1.good (k + 180000000000) := by
 rw [saveD_eq hn hp]
 refine (runS_good _ _ _ _ (acts_good _ _) h).more ?_
 have := seal_size hp
 rw [bs_size]
 show k + 5 * _ ≤ _
 omega
theorem save_first (H : Type) {n nx : Int} {l : List Sg} (hn : 1 ≤ n ∧ n ≤ 999999999) (hp : PtOk nx l) :
  (saveD (DS.new H) n nx l).2 = 0 ∧ Ar (saveD (DS.new H) n nx l).1 (-1) 0 ∧ ∃ f g L, DV (saveD (DS.new H) n nx l).1 f f g L ∧ f (bs (nameP 112 n)) = some 1 ∧ g 1 = (sealB 2 (textP nx l), ((sealB 2 (textP nx l)).length : Int)) ∧ ∀ s k, f s = some k → s = bs (nameP 112 n) := by
 rw [saveD_eq hn hp]
 rcases save_run (H := H) (a := -1) (q := 0) dv_new ⟨rfl, rfl, rfl⟩ (Int.le_refl _) (fun h => by omega) (bs (sealB 2 (textP nx l))) (name_good (c := 112) hn (by decide)) (fun e => new_ne n (bs_inj e)) with ⟨h1, _, h3, f', g', L', v, ha, hy, hg, hnw⟩ | ⟨_, h, _⟩
 ·rw [bs_data] at hg
  refine ⟨h1, h3, f', g', L', v, hy, hg, fun s k hk => ?_⟩
  apply Classical.byContradiction
  intro hs
  by_cases e : s = newN
  ·rw [e, hnw] at hk
   cases hk
  ·rw [ha.o s e hs] at hk
   cases hk
 ·omega
end
theorem own_strk {H : Type} {w W : World} {p : Nat} {D : DS H} (h : Own w W p D) : StrK D.names := by
 obtain ⟨F, _, hd, _⟩ := h
 obtain ⟨n, _, hm⟩ := hd.nam
 obtain ⟨es, e, hk⟩ := hm.keysOf
 refine ⟨es, e, fun p hp => ?_⟩
 obtain ⟨v, hv⟩ := hk p hp
 obtain ⟨x, _, hx, _⟩ := Maps.keyOf_str Tryz.underlying9 hv
 exact ⟨x, hx⟩
end Go.Proofs.YtkhemhiifhggmaaGreatDoor
namespace Go.Proofs.YtkhemhiifhggmaaGreatDoor
open Go.RowKit Go.Maps Go.Sort
set_option linter.unusedVariables false
theorem el_strs : Elem Tryz.prog 35 9 1 16 := Elem.mk_ Tryz.underlying35 (z := .string ⟨#[]⟩) (by kernel_rfl) rfl (by omega)
def segN (s : Sg) : List (List UInt8) := nameP 115 s.id :: if 0 < s.gen then [nameP 100 s.gen] else []
def filesR (n : Int) (l : List Sg) : List (List UInt8) := nameP 112 n :: l.flatMap segN
def filesZ (n : Int) (l : List Sg) : List (List UInt8) := Lib.compact (sortS (filesR n l))
theorem segN_len (s : Sg) : (segN s).length ≤ 2 := by unfold segN; split <;> simp
theorem flatN_len : ∀ l : List Sg, (l.flatMap segN).length ≤ 2 * l.length
 | [] => by simp
 |
  s :: r => by
  have h1 := segN_len s
  have h2 := flatN_len r
  simp only [List.flatMap_cons, List.length_append, List.length_cons]
  omega
theorem files_o (w W0 : World) (hb0 : Hid (Below w.heap.size w W0)) (hT : Tab w) (B : Nat) (hB : B ≤ w.heap.size) (nn : Int) (Ag : Option Addr) (ng cg : Nat) (l : List Sg) (HG : Hid (SegsIn w B Ag ng l)) (hng : ng ≤ 1099511627776) (HZ : Hid (∀ s ∈ l, (0 ≤ s.id ∧ s.id ≤ 999999999) ∧ 0 ≤ s.gen ∧ s.gen ≤ 999999999))
  (A : Option Addr) (m cp : Nat) (HL : Hid (W0.ownsRow w.heap.size 9 1 (.slice A m cp) m ([nameP 112 nn].map encStr)))
  (c0 c1 c2 c3 c4 c6 c8 c9 c10 c11 c34 c35 c36 c37 u7 u15 u16 u17 u18 u19 u20 u21 u22 u23 u24 u25 u26 u27 u28 u29 u30 u31 u32 u33 : Value) (Q0 : Exit → Act → World → Prop) (hQ0 : ∀ c (a a' : Act) w, a.defers = a'.defers → Q0 (.panic c) a w → Q0 (.panic c) a' w)
  (hexit : ∀ (V : World) (A : Option Addr) (m cp : Nat) (x14 u7 u15 u16 u17 u18 u19 u20 u21 u22 u23 u24 u25 u26 u27 u28 u29 u30 u31 u32 u33 : Value), Hid (m ≤ 2 * ng + 1) → Hid (Below w.heap.size w V) → Hid (V.ownsRow w.heap.size 9 1 (.slice A m cp) m ((filesR nn l).map encStr)) → Q0 (.exit 0) ⟨List.toArray (c0 :: c1 :: c2 :: c3 :: c4 :: .slice A m cp :: c6 :: u7 :: c8 :: c9 :: c10 :: c11 :: .slice Ag ng cg :: .int .i64 (ng : Int) :: x14 :: u15 :: u16 :: u17 :: u18 :: u19 :: u20 :: u21 :: u22 :: u23 :: u24 :: u25 :: u26 :: u27 :: u28 :: u29 :: u30 :: u31 :: u32 :: u33 :: c34 :: c35 :: c36 :: c37 :: []), []⟩ V) :
  Code.wp Tryz.prog (.loop (loopOf Tryz.f15 0)) Q0 ⟨List.toArray (c0 :: c1 :: c2 :: c3 :: c4 :: .slice A m cp :: c6 :: u7 :: c8 :: c9 :: c10 :: c11 :: .slice Ag ng cg :: .int .i64 (ng : Int) :: .int .i64 (0 : Int) :: u15 :: u16 :: u17 :: u18 :: u19 :: u20 :: u21 :: u22 :: u23 :: u24 :: u25 :: u26 :: u27 :: u28 :: u29 :: u30 :: u31 :: u32 :: u33 :: c34 :: c35 :: c36 :: c37 :: []), []⟩ W0 := by
 have hlen := HG.out.2
 conv => arg 2; arg 1; whnf
 go_loopw [5, 14] (fun rv iv wr => ∃ (i m cp : Nat) (A : Option Addr), i ≤ ng ∧ m ≤ 2 * i + 1 ∧ rv = .slice A m cp ∧ iv = .int .i64 (i : Int) ∧ Hid (Below w.heap.size w wr) ∧ Hid (wr.ownsRow w.heap.size 9 1 (.slice A m cp) m ((filesR nn (l.take i)).map encStr))) (fun _ iv _ => ng - (intOf iv).toNat)
 case atStart => exact ⟨0, m, cp, A, Nat.zero_le _, by have := HL.out.1; simp at this; omega, rfl, rfl, hb0, HL⟩
 case round =>
  clear HL hb0
  obtain ⟨i, m, cp, A, hi, hm, rfl, rfl, HB, HR⟩ := hrel
  by_cases hin : i < ng
  ·obtain ⟨s, hs⟩ : ∃ s, l[i]? = some s := ⟨l[i]'(by omega), List.getElem?_eq_getElem _⟩
   have hone : l.take (i + 1) = l.take i ++ [s] := by rw [List.take_add_one, hs]; rfl
   obtain ⟨b, off, rfl, hb, f0, f1, f2, f3⟩ := (HG.out.keep (HB.out.mono hB)).at_ hs
   have hz := HZ.out s (List.mem_of_getElem? hs)
   have HTw := Lib.hid (hT.below HB.out)
   obtain ⟨z0, z1, z2, z3⟩ := s
   dsimp only at f0 f1 f2 f3 hz
   have HO := Lib.hid hone
   clear hone hs
   have hpa := HB.out.trans ((bnew (brefl wr) (.cells #[.int .i64 z0, .int .i64 z1, .int .i64 z2, .int .i64 z3] 61)).mono HB.out.size)
   have HN1 := Lib.hid (pname_any _ (hT.below hpa) 115 z0 (by omega))
   obtain ⟨ns, hns⟩ : ∃ ns, nameP 115 z0 = ns := ⟨_, rfl⟩
   rw [hns] at HN1
   have HNS := Lib.hid hns
   have HX := Lib.hid (heap_alloc_new wr (.cells #[.int .i64 z0, .int .i64 z1, .int .i64 z2, .int .i64 z3] 61))
   have HPA := Lib.hid hpa
   clear hpa hns
   by_cases hgen : 0 < z2
   ·have q0 : decide (z2 > 0) = true := decide_eq_true hgen
    go_wp2_with fail
    refine HN1.out.mono ?_
    rintro e w1 ⟨rfl, hb1⟩
    have HW1 := Lib.hid (HPA.out.trans (hb1.mono HPA.out.size))
    have HR1 := Lib.hid (own_kept HR.out ((bnew (brefl wr) _).trans (hb1.mono (Below.size (bnew (brefl wr) _)))))
    have hx1 := (hb1.block _ (Array.getElem?_eq_some_iff.1 HX.out).1).trans HX.out
    have HX1 := Lib.hid hx1
    clear hb1 hx1
    go_wp2_with (at_builtin; refine wpList_pushm w w1 _ rfl _ _ _ rfl el_strs _ _ _ rfl HR1.out (m := 1) rfl (by simp) rfl (by simp [Value.oneCell']) (by unfold maxLen; omega) (by omega) HW1.out.size HW1.out ?_; intro v2 w2 hown9 hb9 hg9 hor9; obtain ⟨A2, p2, rfl, _⟩ := own_shape hown9; have HR2 := Lib.hid hown9; have HW2 := Lib.hid hb9; have bx : w2.heap[wr.heap.size]? = _ := (hg9.block _ (Array.getElem?_eq_some_iff.1 HX1.out).1 (fun e => by have := (HR.out.lt _ e.symm).2; omega)).trans HX1.out; have c2 := cell_of_row w2 wr.heap.size 2 _ _ (0, 0) bx; simp at c2; clear bx; clear hown9 hb9 hg9 hor9)
    have HN2 := Lib.hid (pname_any w2 (hT.below HW2.out) 100 z2 (by omega))
    obtain ⟨nd, hnd⟩ : ∃ nd, nameP 100 z2 = nd := ⟨_, rfl⟩
    rw [hnd] at HN2
    have HND := Lib.hid hnd
    have HNW : Hid ((filesR nn (l.take i)).map encStr ++ [.string ⟨ns.toArray⟩] ++ [.string ⟨nd.toArray⟩] = (filesR nn (l.take (i + 1))).map encStr) := by
     show _ = _
     rw [HO.out, filesR, filesR, List.flatMap_append, List.flatMap_singleton, segN, if_pos hgen, HNS.out, HND.out]
     simp [encStr]
    clear hnd
    refine HN2.out.mono ?_
    rintro e w3 ⟨rfl, hb3⟩
    have HW3 := Lib.hid (HW2.out.trans (hb3.mono HW2.out.size))
    have HR3 := Lib.hid (own_kept HR2.out hb3)
    clear hb3
    go_wp2_with (at_builtin; refine wpList_pushm w w3 _ rfl _ _ _ rfl el_strs _ _ _ rfl HR3.out (m := 1) rfl (by simp) rfl (by simp [Value.oneCell']) (by unfold maxLen; omega) (by omega) HW3.out.size HW3.out ?_; intro v4 w4 hown9 hb9 hg9 hor9; obtain ⟨A4, p4, rfl, _⟩ := own_shape hown9; have HR4 := Lib.hid hown9; have HW4 := Lib.hid hb9; clear hown9 hb9 hg9 hor9)
    go_roundw
    case rel => exact ⟨i + 1, m + 1 + 1, p4, A4, by omega, by omega, rfl, by go_num, HW4, Lib.hid (by rw [← HNW.out]; exact HR4.out)⟩
    case measure => simp [intOf]; omega
   ·have q0 : decide (z2 > 0) = false := decide_eq_false hgen
    go_wp2_with fail
    refine HN1.out.mono ?_
    rintro e w1 ⟨rfl, hb1⟩
    have HW1 := Lib.hid (HPA.out.trans (hb1.mono HPA.out.size))
    have HR1 := Lib.hid (own_kept HR.out ((bnew (brefl wr) _).trans (hb1.mono (Below.size (bnew (brefl wr) _)))))
    have hx1 := (hb1.block _ (Array.getElem?_eq_some_iff.1 HX.out).1).trans HX.out
    have HX1 := Lib.hid hx1
    clear hb1 hx1
    go_wp2_with (at_builtin; refine wpList_pushm w w1 _ rfl _ _ _ rfl el_strs _ _ _ rfl HR1.out (m := 1) rfl (by simp) rfl (by simp [Value.oneCell']) (by unfold maxLen; omega) (by omega) HW1.out.size HW1.out ?_; intro v2 w2 hown9 hb9 hg9 hor9; obtain ⟨A2, p2, rfl, _⟩ := own_shape hown9; have HR2 := Lib.hid hown9; have HW2 := Lib.hid hb9; have bx : w2.heap[wr.heap.size]? = _ := (hg9.block _ (Array.getElem?_eq_some_iff.1 HX1.out).1 (fun e => by have := (HR.out.lt _ e.symm).2; omega)).trans HX1.out; have c2 := cell_of_row w2 wr.heap.size 2 _ _ (0, 0) bx; simp at c2; clear bx; clear hown9 hb9 hg9 hor9)
    have HNW : Hid ((filesR nn (l.take i)).map encStr ++ [.string ⟨ns.toArray⟩] = (filesR nn (l.take (i + 1))).map encStr) := by
     show _ = _
     rw [HO.out, filesR, filesR, List.flatMap_append, List.flatMap_singleton, segN, if_neg (Int.not_lt.2 hgen), HNS.out]
     simp [encStr]
    go_roundw
    case rel => exact ⟨i + 1, m + 1, p2, A2, by omega, by omega, rfl, by go_num, HW2, Lib.hid (by rw [← HNW.out]; exact HR2.out)⟩
    case measure => simp [intOf]; omega
  ·obtain rfl : i = ng := by omega
   rw [List.take_of_length_le (by omega)] at HR
   go_wp2_with fail
   refine hexit _ _ _ _ _ _ _ _ _ _ _ _ _ _ _ _ _ _ _ _ _ _ _ _ _ ?_ HB HR
   exact Lib.hid hm
end Go.Proofs.YtkhemhiifhggmaaGreatDoor
namespace Go.Proofs.YtkhemhiifhggmaaGreatDoor
open Go.RowKit Go.Maps Go.Sort
set_option linter.unusedVariables false
theorem files_any (w : World) (hT : Tab w) (B : Nat) (hB : B ≤ w.heap.size) (nn nx : Int) (h63 : -9223372036854775808 ≤ nn ∧ nn ≤ 9223372036854775807) (A : Option Addr) (n c : Nat) (l : List Sg) (h : SegsIn w B A n l) (hn : n ≤ 1099511627776) (hz : ∀ s ∈ l, (0 ≤ s.id ∧ s.id ≤ 999999999) ∧ 0 ≤ s.gen ∧ s.gen ≤ 999999999) :
  Calls Tryz.prog 15 #[.int .i64 nn, .agg #[.int .i64 nx, .slice A n c]] w fun e w' => ∃ A' c', e = .returned (.slice A' (filesZ nn l).length c') ∧ w'.ownsRow w.heap.size 9 1 (.slice A' (filesZ nn l).length c') (filesZ nn l).length ((filesZ nn l).map encStr) ∧ Below w.heap.size w w' := by
 have hpa := bnew (brefl w) (.cells #[.int .i64 nx, .slice A n c] 24)
 have HPA := Lib.hid hpa
 have HG := Lib.hid h
 have HZ := Lib.hid hz
 have HNM := Lib.hid (pname_any _ (hT.below hpa) 112 nn h63)
 clear h hz hpa
 go_enter Tryz.func15, Tryz.ntmps15
 go_wp2_with fail
 refine HNM.out.mono ?_
 rintro e w1 ⟨rfl, hb1⟩
 have HB1 := Lib.hid (HPA.out.trans (hb1.mono HPA.out.size))
 have hbx := (hb1.block _ (Array.getElem?_eq_some_iff.1 (heap_alloc_new w (.cells #[.int .i64 nx, .slice A n c] 24))).1).trans (heap_alloc_new w (.cells #[.int .i64 nx, .slice A n c] 24))
 have hb2 := bnew (brefl w1) (.cells #[.string ⟨(nameP 112 nn).toArray⟩] 9)
 have hbx2 := (hb2.block _ (Array.getElem?_eq_some_iff.1 hbx).1).trans hbx
 have c1 := cell_of_row _ w.heap.size 1 _ _ (0, 0) hbx2
 simp at c1
 have HB2 := Lib.hid (HB1.out.trans (hb2.mono HB1.out.size))
 have HR2 := Lib.hid (own_new w1 #[.string ⟨(nameP 112 nn).toArray⟩] 9 1 1 rfl (by unfold maxLen; omega) rfl (base := w.heap.size) HB1.out.size)
 clear hbx hb2 hbx2 hb1
 go_wp2_with fail
 have HTw := Lib.hid (hT)
 refine files_o w _ HB2 hT B hB nn A n c l HG hn HZ _ _ _ HR2 _ _ _ _ _ _ _ _ _ _ _ _ _ _ _ _ _ _ _ _ _ _ _ _ _ _ _ _ _ _ _ _ _ _ _ (fun c a a' w hd h => by cases a; cases a'; cases hd; exact h) ?_
 intro V Av m cp x14 u7 u15 u16 u17 u18 u19 u20 u21 u22 u23 u24 u25 u26 u27 u28 u29 u30 u31 u32 u33 hm hbv hown
 have HMN : Hid ((filesR nn l).length = m) := by have := hown.out.1; simp at this; exact Lib.hid this
 have h0 : 0 < m := by rw [← HMN.out]; unfold filesR; exact Nat.succ_pos _
 have HSO := Lib.hid (sortS_own hown.out (by have := hm.out; omega))
 go_wp2_with fail
 refine HSO.out.mono ?_
 rintro e w4 ⟨rfl, hown4, hg4⟩
 have HB4 := Lib.hid (hbv.out.grown hg4 hbv.out.size (fun k hk => (hown.out.lt k hk).1))
 have HCO := Lib.hid (compactS_own hown4 (by have := hm.out; omega) h0)
 have HO4 := Lib.hid hown4
 clear hown4 hg4
 go_wp2_with fail
 refine HCO.out.mono ?_
 rintro e w5 ⟨rfl, hown5, hg5⟩
 have HB5 := Lib.hid (HB4.out.grown hg5 HB4.out.size (fun k hk => (HO4.out.lt k hk).1))
 have HO5 := Lib.hid hown5
 clear hown5 hg5
 go_wp2_with fail
 go_ret
 exact ⟨Av, cp, rfl, HO5.out, HB5.out⟩
end Go.Proofs.YtkhemhiifhggmaaGreatDoor
namespace Go.Proofs.YtkhemhiifhggmaaGreatDoor
open Go.RowKit Go.Maps
set_option linter.unusedVariables false
theorem neq_seg (w : World) (s t : Sg) : (binOp .neq 61 (.agg #[.int .i64 s.id, .int .i64 s.docs, .int .i64 s.gen, .int .i64 s.gone]) (.agg #[.int .i64 t.id, .int .i64 t.docs, .int .i64 t.gen, .int .i64 t.gone])).run Tryz.prog w = .ok (.bool (!decide (s = t))) w := by
 rw [run_neq_struct, run_equalIn_agg _ _ _ _ _ (by kernel_rfl) (by kernel_rfl)]
 simp [go_sem, Program.fieldsOf, Tryz.underlying61]
 obtain ⟨a, b, c, d⟩ := s
 obtain ⟨a', b', c', d'⟩ := t
 by_cases h1 : a = a' <;> by_cases h2 : b = b' <;> by_cases h3 : c = c' <;> by_cases h4 : d = d' <;> simp [h1, h2, h3, h4]
theorem gu_seg : Tryz.prog.eqGuardType Tryz.prog.depth 61 = false := by kernel_rfl
theorem psame_any (w : World) (B : Nat) (hB : B ≤ w.heap.size) (A A' : Option Addr) (n c n' c' : Nat) (l l' : List Sg) (h : SegsIn w B A n l) (h' : SegsIn w B A' n' l') (hn0 : n ≤ 4398046511104) (hn0' : n' ≤ 4398046511104) (x x' : Int) :
  Calls Tryz.prog 19 #[.agg #[.int .i64 x, .slice A n c], .agg #[.int .i64 x', .slice A' n' c']] w fun e w' => e = .returned (.bool (decide (x = x' ∧ l = l'))) ∧ Below w.heap.size w w' := by
 have hgu := gu_seg
 have hpa := bnew (bnew (brefl w) (.cells #[.int .i64 x, .slice A n c] 24)) (.cells #[.int .i64 x', .slice A' n' c'] 24)
 have HB := Lib.hid hpa
 by_cases hx : x = x'
 ·have q0 : (x != x') = false := by simpa using hx
  by_cases hn : n = n'
  ·have q1 : ((n : Int) != (n' : Int)) = false := by simp; omega
   have HS := Lib.hid h
   have HS' := Lib.hid h'
   have HX := Lib.hid hx
   subst hn
   clear h h' hpa hx
   go_enter Tryz.func19, Tryz.ntmps19
   go_wp2_with fail
   have HW := Lib.hid (bnew (bnew (brefl w) (.cells #[.int .i64 x, .slice A n c] 24)) (.cells #[.int .i64 x', .slice A' n c'] 24))
   go_loopw [5] (fun i wr => ∃ k : Nat, k ≤ n ∧ i = .int .i64 k ∧ Hid (l.take k = l'.take k) ∧ Hid (Below (w.heap.size + 2) ((w.alloc (.cells #[.int .i64 x, .slice A n c] 24)).alloc (.cells #[.int .i64 x', .slice A' n c'] 24)) wr)) (fun i _ => n - (intOf i).toNat)
   case atStart => exact ⟨0, Nat.zero_le _, rfl, rfl, Lib.hid ((brefl _).mono (by show w.heap.size + 2 ≤ ((w.heap.push _).push _).size; rw [Array.size_push, Array.size_push]; exact Nat.le_refl _))⟩
   case round =>
    obtain ⟨k, hk, rfl, HL, HBr⟩ := hrel
    have HBw := Lib.hid (HB.out.trans (HBr.out.mono (Nat.le_add_right _ _)))
    have b0 : wr.cell? ⟨w.heap.size, 1, none⟩ = some (.slice A n c) := by
     rw [HBr.out.cell (p := ⟨w.heap.size, 1, none⟩) (by show w.heap.size < w.heap.size + 2; omega)]
     simp [go_sem]
    have b1 : wr.cell? ⟨w.heap.size + 1, 1, none⟩ = some (.slice A' n c') := by
     rw [HBr.out.cell (p := ⟨w.heap.size + 1, 1, none⟩) (by show w.heap.size + 1 < w.heap.size + 2; omega)]
     simp [go_sem]
    have hlen := HS.out.2
    have hlen' := HS'.out.2
    by_cases hlt : k < n
    ·obtain ⟨s, hs⟩ : ∃ s, l[k]? = some s := ⟨l[k]'(by omega), List.getElem?_eq_getElem _⟩
     obtain ⟨s', hs'⟩ : ∃ s, l'[k]? = some s := ⟨l'[k]'(by omega), List.getElem?_eq_getElem _⟩
     obtain ⟨b, off, rfl, hb, f0, f1, f2, f3⟩ := (HS.out.keep (HBw.out.mono hB)).at_ hs
     obtain ⟨b', off', rfl, hb', g0, g1, g2, g3⟩ := (HS'.out.keep (HBw.out.mono hB)).at_ hs'
     have hq := neq_seg wr s s'
     have hone : l.take (k + 1) = l.take k ++ [s] := by rw [List.take_add_one, hs]; rfl
     have hone' : l'.take (k + 1) = l'.take k ++ [s'] := by rw [List.take_add_one, hs']; rfl
     have HQ := Lib.hid (fun w => neq_seg w s s')
     clear hq
     by_cases hee : s = s'
     ·subst hee
      have hq := HQ.out
      rw [decide_eq_true rfl] at hq
      have HN : Hid (l.take (k + 1) = l'.take (k + 1)) := by show _ = _; rw [hone, hone', HL.out]
      clear HQ hone hone' hs hs'
      go_wp2_with fail
      go_quiet (fail)
      go_wp2_with fail
      go_roundw
      case rel => exact ⟨k + 1, by omega, by go_num, HN, Lib.hid (below_drewN HBr.out nq)⟩
      case measure => simp [intOf]; omega
     ·have hq := HQ.out
      rw [decide_eq_false hee] at hq
      have HN : Hid (decide (x = x' ∧ l = l') = false) := by
       refine decide_eq_false fun h => hee ?_
       rw [h.2, hs'] at hs
       injection hs with hs
       exact hs.symm
      clear HQ hone hone' hs hs' hee
      go_wp2_with fail
      go_quiet (fail)
      go_wp2_with fail
      go_ret
      exact ⟨ret_bool HN.out.symm, below_drewN HBw.out nq⟩
    ·obtain rfl : k = n := by omega
     rw [List.take_of_length_le (by omega), List.take_of_length_le (by omega)] at HL
     have HN : Hid (decide (x = x' ∧ l = l') = true) := decide_eq_true ⟨HX.out, HL.out⟩
     clear HL
     go_wp2_with fail
     go_ret
     exact ⟨ret_bool HN.out.symm, HBw.out⟩
  ·have q1 : ((n : Int) != (n' : Int)) = true := by simp; omega
   have HR : Hid (decide (x = x' ∧ l = l') = false) := by
    refine decide_eq_false fun hh => hn ?_
    rw [← h.2, ← h'.2, hh.2]
   clear h h' hpa hx hn
   go_enter Tryz.func19, Tryz.ntmps19
   go_wp2_with fail
   go_ret
   exact ⟨ret_bool HR.out.symm, HB.out⟩
 ·have q0 : (x != x') = true := by simpa using hx
  have HR : Hid (decide (x = x' ∧ l = l') = false) := decide_eq_false fun hh => hx hh.1
  clear h h' hpa hx
  go_enter Tryz.func19, Tryz.ntmps19
  go_wp2_with fail
  go_ret
  exact ⟨ret_bool HR.out.symm, HB.out⟩
end Go.Proofs.YtkhemhiifhggmaaGreatDoor
namespace Go.Proofs.YtkhemhiifhggmaaGreatDoor
open Go.RowKit Go.Maps Go.Sort
set_option linter.unusedVariables false
def oneL : List Sg := [⟨2, 8, 0, 0⟩, ⟨5, 9, 6, 1⟩]
theorem sl_row {W : World} {b : Nat} {cs : Array Value} {ty : TypeId} (h : W.heap[b]? = some (.cells cs ty (0, 0))) (s m : Nat) (hm : cs.size = m * s) : Sl W (b + 1) s (some ⟨b, 0, none⟩) m cs.toList := by
 refine ⟨by rw [Array.length_toList, hm], ?_⟩
 refine fun _ => ⟨b, 0, rfl, by omega, fun j u hj => ?_⟩
 rw [Nat.zero_add, cell_of_row W b j cs ty (0, 0) h]
 simpa using hj
theorem results_cell1 {fn : Func} {p : Tmp} {ty : TypeId} (h : fn.results = #[.cell p ty]) {P : Program} (tmps : Array Value) (w : World) (g : Nat) (cs : Array Value)
  (hp : tmps.getD p undef = .pointer (some ⟨g, 0, none⟩)) (hl : (loadVar ty ⟨g, 0, none⟩).run P w = .ok (.agg cs) w) : (results fn tmps).run P w = .ok (.agg cs) w := by
 have hp' : tmps[p]?.getD undef = .pointer (some ⟨g, 0, none⟩) := by simpa using hp
 simp [results, h, hp', asAddr, hl]
def OnePost (V : World) (e : Ending) (V' : World) : Prop := ∃ A c, e = .returned (.agg #[.int .i64 7, .slice A 2 c]) ∧ SegsIn V' V'.heap.size A 2 oneL ∧ Below V.heap.size V V'
theorem one_any (V : World) : Calls Tryz.prog 36 #[] V (OnePost V) := by
 obtain ⟨w1, hw1⟩ : ∃ w1, (V.alloc (.cells #[.int .i64 0, .slice none 0 0] 24)) = w1 := ⟨_, rfl⟩
 obtain ⟨w2, hw2⟩ : ∃ w2, w1.alloc (.cells #[.int .i64 2, .int .i64 8, .int .i64 0, .int .i64 0, .int .i64 5, .int .i64 9, .int .i64 6, .int .i64 1] 61) = w2 := ⟨_, rfl⟩
 have hx1 : w1.heap[V.heap.size]? = some (.cells #[.int .i64 0, .slice none 0 0] 24 (0, 0)) := by rw [← hw1]; exact heap_alloc_new _ _
 have hs1 : w1.heap.size = V.heap.size + 1 := by rw [← hw1]; exact Array.size_push ..
 have hb1 : Below V.heap.size V w1 := by rw [← hw1]; exact bnew (brefl V) _
 have hb2 : Below w1.heap.size w1 w2 := by rw [← hw2]; exact bnew (brefl w1) _
 have hx2 : w2.heap[V.heap.size]? = some (.cells #[.int .i64 0, .slice none 0 0] 24 (0, 0)) := (hb2.block _ (by omega)).trans hx1
 have hy2 : w2.heap[w1.heap.size]? = some (.cells #[.int .i64 2, .int .i64 8, .int .i64 0, .int .i64 0, .int .i64 5, .int .i64 9, .int .i64 6, .int .i64 1] 61 (0, 0)) := by rw [← hw2]; exact heap_alloc_new _ _
 rw [hs1] at hy2
 have HX := Lib.hid hx2
 have HY := Lib.hid hy2
 have HB := Lib.hid (hb1.trans (hb2.mono (by omega)))
 obtain ⟨c0, c1, f0, f1⟩ := cells2 hx2
 clear hx1 hb1 hb2 hx2 hy2
 go_enter Tryz.func36, Tryz.ntmps36
 go_wp2_with fail
 refine bodyPost_ret (results_cell1 rfl _ _ _ _ rfl (load_point (two_set HX.out _ _) rfl)) rfl ?_
 have hne : V.heap.size + 1 ≠ V.heap.size := by omega
 have hy3 : ((w2.setCell ⟨V.heap.size, 0, none⟩ (.int .i64 7)).setCell ⟨V.heap.size, 1, none⟩ (.slice (some ⟨V.heap.size + 1, 0, none⟩) 2 2)).heap[V.heap.size + 1]? = _ := (Below.heap_setCell _ _ _ _ hne).trans ((Below.heap_setCell _ _ _ _ hne).trans HY.out)
 refine ⟨_, _, rfl, ⟨?_, rfl⟩, (HB.out.setCell (Nat.le_refl _) _).setCell (Nat.le_refl _) _⟩
 refine (sl_row hy3 4 2 rfl).more ?_
 have := (Array.getElem?_eq_some_iff.1 hy3).1
 omega
end Go.Proofs.YtkhemhiifhggmaaGreatDoor
namespace Go.Proofs.YtkhemhiifhggmaaGreatDoor
open Go.RowKit Go.Maps Go.Sort
set_option linter.unusedVariables false
theorem one_ok : PtOk 7 oneL := by decide
theorem ones_z : ∀ s ∈ oneL, (0 ≤ s.id ∧ s.id ≤ 999999999) ∧ 0 ≤ s.gen ∧ s.gen ≤ 999999999 := by decide
def DA : DS Unit := (saveD (DS.new Unit) 3 7 oneL).1
theorem da_keys {ss : List (List UInt8)} (hK : StrK DA.names) (hss : ss.Perm (strKeys DA.names)) (ht : ∃ n, n ≤ DA.cap ∧ (strKeys DA.names).Nodup) : sortedN ss = [nameP 112 3] := by
 obtain ⟨h1, h2, f, g, L, v, hf, hg, hon⟩ := save_first Unit (n := 3) (nx := 7) (l := oneL) (by decide) one_ok
 have v : DV DA f f g L := v
 have hmem : ∀ s, s ∈ strKeys DA.names ↔ s = nameP 112 3 := fun s => by
  rw [hK.mem, (v.n.2 _).1]
  constructor
  ·intro h
   obtain ⟨k, hk⟩ := Option.isSome_iff_exists.1 h
   exact bs_inj (hon _ _ hk)
  ·intro e
   rw [e, hf]
   rfl
 obtain ⟨_, _, hnd⟩ := ht
 have hl : strKeys DA.names = [nameP 112 3] := by
  generalize strKeys DA.names = l at hmem hnd
  match l, hmem, hnd with
  | [], hmem, _ => exact absurd ((hmem _).2 rfl) List.not_mem_nil
  | [a], hmem, _ => rw [(hmem a).1 (List.mem_cons_self ..)]
  |
   a :: b :: r, hmem, hnd =>
   have h1 := (hmem a).1 (by simp)
   have h2 := (hmem b).1 (by simp)
   rw [h1, h2] at hnd
   simp at hnd
 rw [hl] at hss
 rw [hss.eq_singleton]
 simp [sortedN]
theorem own_nodup {H : Type} {w W : World} {p : Nat} {D : DS H} (h : Own w W p D) : (strKeys D.names).Nodup := by
 have hK := own_strk h
 obtain ⟨F, _, hd, _⟩ := h
 obtain ⟨n, _, hm⟩ := hd.nam
 obtain ⟨es, e, hp⟩ := hm.tidy lawS
 obtain ⟨es', e', hk⟩ := hK
 rw [e] at e' ⊢
 injection e' with e'
 subst e'
 show (es.map fun p => strOf p.1).Nodup
 refine List.pairwise_map.2 (List.Pairwise.imp_of_mem ?_ hp)
 intro a b ha hb hne e
 obtain ⟨x, hx⟩ := hk a ha
 obtain ⟨y, hy⟩ := hk b hb
 rw [hx, hy] at e hne
 have : x = y := e
 exact hne (by rw [this])
theorem filesZ_lt (n : Int) (l : List Sg) : (filesZ n l).Pairwise (fun x y => x < y) ∧ ∀ x, x ∈ filesZ n l ↔ x ∈ filesR n l := by
 obtain ⟨h1, h2⟩ := compactS_sorted (sortS_le (filesR n l))
 exact ⟨h1, fun x => (h2 x).trans (sortS_mem _ _)⟩
theorem one_raw : filesR 3 oneL = [[112, 95, 48, 48, 48, 48, 48, 48, 48, 48, 51], [115, 95, 48, 48, 48, 48, 48, 48, 48, 48, 50], [115, 95, 48, 48, 48, 48, 48, 48, 48, 48, 53], [100, 95, 48, 48, 48, 48, 48, 48, 48, 48, 54]] := by decide +kernel
theorem one_files : filesZ 3 oneL = [[100, 95, 48, 48, 48, 48, 48, 48, 48, 48, 54], [112, 95, 48, 48, 48, 48, 48, 48, 48, 48, 51], [115, 95, 48, 48, 48, 48, 48, 48, 48, 48, 50], [115, 95, 48, 48, 48, 48, 48, 48, 48, 48, 53]] := by
 obtain ⟨h1, h2⟩ := filesZ_lt 3 oneL
 refine slt_ext h1 (by decide +kernel) fun x => ?_
 rw [h2, one_raw]
 simp only [List.mem_cons, List.not_mem_nil, or_false]
 constructor
 ·rintro (h | h | h | h)
  ·exact .inr (.inl h)
  ·exact .inr (.inr (.inl h))
  ·exact .inr (.inr (.inr h))
  ·exact .inl h
 ·rintro (h | h | h | h)
  ·exact .inr (.inr (.inr h))
  ·exact .inl h
  ·exact .inr (.inl h)
  ·exact .inr (.inr (.inl h))
theorem one_name : bs (nameP 112 3) = ⟨#[112, 95, 48, 48, 48, 48, 48, 48, 48, 48, 51]⟩ := by decide +kernel
theorem le_al (W : World) (o : Obj) : W.heap.size + 1 ≤ (W.alloc o).heap.size := Nat.le_of_eq (Array.size_push ..).symm
theorem SegsIn.more {W : World} {B B' : Nat} {A : Option Addr} {n : Nat} {l : List Sg} (h : SegsIn W B A n l) (hB : B ≤ B') : SegsIn W B' A n l := ⟨h.1.more hB, h.2⟩
theorem psame_self (w : World) (B : Nat) (hB : B ≤ w.heap.size) (A A' : Option Addr) (n c n' c' : Nat) (l : List Sg) (h : SegsIn w B A n l) (h' : SegsIn w B A' n' l) (hn0 : n ≤ 4398046511104) (hn0' : n' ≤ 4398046511104) (x : Int) :
  Calls Tryz.prog 19 #[.agg #[.int .i64 x, .slice A n c], .agg #[.int .i64 x, .slice A' n' c']] w fun e w' => e = .returned (.bool true) ∧ Below w.heap.size w w' :=
 (psame_any w B hB A A' n c n' c' l l h h' hn0 hn0' x x).mono fun e w' hh => ⟨hh.1.trans (by simp), hh.2⟩
theorem same_yes (w : World) (B : Nat) (A A' : Option Addr) (n n' c c' : Nat) (xs ys : List ByteArray) (hx : Sl w B 1 A n (xs.map .string)) (hy : Sl w B 1 A' n' (ys.map .string)) (hB : B ≤ w.heap.size) (hn : n ≤ maxLen) (hn' : n' ≤ maxLen) (e : xs = ys) :
  Calls Tryz.prog 14 #[.slice A n c, .slice A' n' c'] w fun e w' => e = .returned (.bool true) ∧ Below w.heap.size w w' :=
 (same_any w B A A' n n' c c' xs ys hx hy hB hn hn').mono fun e' w' hh => ⟨hh.1.trans (by rw [decide_eq_true e]), hh.2⟩
theorem own_sl {W : World} {base : Nat} {A : Option Addr} {n c : Nat} {l : List (List UInt8)} (h : W.ownsRow base 9 1 (.slice A n c) n (l.map encStr)) : Sl W W.heap.size 1 A n ((l.map bs).map .string) := by
 have := Sl.of_own h
 rw [List.map_map]
 exact this
def F4 : List ByteArray := [(⟨#[100, 95, 48, 48, 48, 48, 48, 48, 48, 48, 54]⟩ : ByteArray), ⟨#[112, 95, 48, 48, 48, 48, 48, 48, 48, 48, 51]⟩, ⟨#[115, 95, 48, 48, 48, 48, 48, 48, 48, 48, 50]⟩, ⟨#[115, 95, 48, 48, 48, 48, 48, 48, 48, 48, 53]⟩]
theorem files_one (w : World) (hT : Tab w) (B : Nat) (hB : B ≤ w.heap.size) (A : Option Addr) (c : Nat) (h : SegsIn w B A 2 oneL) :
  Calls Tryz.prog 15 #[.int .i64 3, .agg #[.int .i64 7, .slice A 2 c]] w fun e w' => ∃ A' c', e = .returned (.slice A' 4 c') ∧ Sl w' w'.heap.size 1 A' 4 (F4.map .string) ∧ Below w.heap.size w w' := by
 refine (files_any w hT B hB 3 7 (by omega) A 2 c oneL h (by omega) ones_z).mono ?_
 rintro e w' ⟨A', c', h1, h2, h3⟩
 have hl : (filesZ 3 oneL).length = 4 := by rw [one_files]; rfl
 rw [hl] at h1 h2
 rw [one_files] at h2
 exact ⟨A', c', h1, own_sl h2, h3⟩
theorem pawake_any (w : World) (hT : Tab w) (hE : Errs w) : Calls Tryz.prog 9 #[] w fun e w' => e = .returned (.bool true) ∧ Below w.heap.size w w' := by
 have HN := Lib.hid (dk_new Unit (brefl w))
 go_enter Tryz.func9, Tryz.ntmps9
 go_wp2_with fail
 refine HN.out.mono ?_
 rintro e w1 ⟨rfl, ho1⟩
 have HO1 := Lib.hid ho1
 obtain ⟨p, hp⟩ : ∃ p, w.heap.size + 3 = p := ⟨_, rfl⟩
 rw [hp] at HO1 ⊢
 clear ho1 hp HN
 go_wp2_with fail
 refine (one_any w1).mono ?_
 rintro e w2 ⟨A2, c2, rfl, hs2, hb2⟩
 have HO2 := Lib.hid (HO1.out.on hb2)
 have HSV := Lib.hid (save_any w w2 p (DS.new Unit) HO2.out hT 0 0 (by omega) (small_new Unit) (good_new Unit) (by omega) 3 (by omega) w2.heap.size (Nat.le_refl _) A2 2 c2 oneL (Lib.hid hs2) (by omega) 7)
 have HE := Lib.hid (save_first Unit (n := 3) (nx := 7) (l := oneL) (by decide) one_ok)
 rw [HE.out.1] at HSV
 clear hs2 hb2
 go_wp2_with fail
 refine HSV.out.mono ?_
 rintro e w3 ⟨rfl, ho3, _⟩
 have HO3 : Hid (Own w w3 p DA) := ho3
 have HSM : Hid (DA.small (0 + 5)) := saveD_small (by decide) one_ok (small_new Unit)
 have HGD : Hid (DA.good (0 + 180000000000)) := saveD_good (by decide) one_ok (good_new Unit)
 have HDN : Hid (DA.down = false) := HE.out.2.1.2.2
 have HND := Lib.hid (own_nodup ho3)
 have HSK := Lib.hid (own_strk ho3)
 have HSS : Hid (∀ ss : List (List UInt8), ss.Perm (strKeys DA.names) → sortedN ss = [nameP 112 3]) := fun ss h => da_keys HSK.out h ⟨0, Nat.zero_le _, HND.out⟩
 have HLA : Hid (∀ ss : List (List UInt8), ss.Perm (strKeys DA.names) → latestD DA ss = some (3, 7, oneL)) := fun ss h => by
  obtain ⟨_, _, f, g, L, v, hf, hg, hon⟩ := HE.out
  exact latest_at v HDN.out HSK.out h (by decide) hf (by rw [hg]; exact read_seal one_ok (by decide)) (fun s k hk => .inr ⟨3, by decide, hon s k hk⟩)
 have HLT := Lib.hid (latest_any w w3 p DA ho3 hT hE (HSM.out.fits (by omega)) HDN.out (HGD.out.more (by omega)) (by
  intro s hs
  have h1 : s ∈ sortedN (strKeys DA.names) := by
   show s ∈ sortS _
   rw [sortS_mem]
   exact hs
  rw [HSS.out _ (List.Perm.refl _), List.mem_singleton] at h1
  rw [h1]
  have := name_le 112 3
  omega))
 clear ho3
 go_wp2_with fail
 refine HLT.out.mono ?_
 rintro e w4 ⟨ss, hss, hpost, ho4, hb4⟩
 rw [HLA.out ss hss] at hpost
 obtain ⟨A4, n4, c4, rfl, hs4, _⟩ := hpost
 have hn4 : n4 = 2 := by have := hs4.2; simpa [oneL] using this.symm
 subst hn4
 have HO4 := Lib.hid ho4
 have HS4 := Lib.hid hs4
 clear hss ho4 hs4 hb4
 go_wp2_with fail
 obtain ⟨V0, hV0⟩ : ∃ V0, w4.alloc (.cells #[.int .i64 7, .slice A4 2 c4] 24) = V0 := ⟨_, rfl⟩
 have hb0 : Below w4.heap.size w4 V0 := by rw [← hV0]; exact bnew (brefl w4) _
 have hx0 : V0.heap[w4.heap.size]? = some (.cells #[.int .i64 7, .slice A4 2 c4] 24 (0, 0)) := by rw [← hV0]; exact heap_alloc_new _ _
 rw [hV0]
 have HX := Lib.hid hx0
 have HO0 := Lib.hid (HO4.out.on hb0)
 have HS0 := Lib.hid ((HS4.out.keep hb0).more hb0.size)
 have HK : Hid (∀ V, Below V0.heap.size V0 V → V.cell? ⟨w4.heap.size, 0, none⟩ = some (.int .i64 7) ∧ V.cell? ⟨w4.heap.size, 1, none⟩ = some (.slice A4 2 c4)) := fun V hv => by
  obtain ⟨k0, k1, _, _⟩ := cells2 ((hv.block _ (Array.getElem?_eq_some_iff.1 hx0).1).trans hx0)
  exact ⟨k0, k1⟩
 have HTV : Hid (∀ V, Below V0.heap.size V0 V → Tab V) := fun V hv => hT.below (HO0.out.below.trans (hv.mono HO0.out.below.size))
 have HON1 := Lib.hid one_any
 have HON2 := Lib.hid one_any
 clear hV0 hb0 hx0 HLT HSV HO1 HO2 HO3 HO4 HS4 HLA HND HSK HGD HE
 go_region_held3 (fun w' => w'.cell? ⟨w4.heap.size, 0, none⟩ = some (.int .i64 7) ∧ w'.cell? ⟨w4.heap.size, 1, none⟩ = some (.slice A4 2 c4))
  (first | assumption | (refine HK.out _ ?_; (repeat (first | exact HV7.out | exact HV6.out | exact HV5.out | exact HV4.out | exact HV3.out | exact HV2.out | exact HV1.out | exact brefl _ | refine Below.drew ?_ | refine bnew ?_ _)); done))
  (first
  | (go_at_call 36; refine (HON1.out _).mono ?_; rintro e V1 ⟨A1, c1, rfl, hs1, hv1⟩; have HV1 : Hid (Below V0.heap.size V0 V1) := bcall (by repeat (first | exact HV7.out | exact HV6.out | exact HV5.out | exact HV4.out | exact HV3.out | exact HV2.out | exact HV1.out | exact brefl _ | refine Below.drew ?_ | refine bnew ?_ _)) hv1; have HS1 := Lib.hid hs1; have HS4 := Lib.hid ((HS0.out.keep HV1.out).more HV1.out.size); clear HON1 hs1 hv1)
  | (go_at_call 19; refine (psame_self _ V1.heap.size (Below.size (B := V1.heap.size) (by repeat (first | exact brefl _ | refine Below.drew ?_ | refine bnew ?_ _))) A4 A1 2 c4 2 c1 oneL (HS4.out.keep (by repeat (first | exact brefl _ | refine Below.drew ?_ | refine bnew ?_ _))) (HS1.out.keep (by repeat (first | exact brefl _ | refine Below.drew ?_ | refine bnew ?_ _))) (by omega) (by omega) 7).mono ?_; rintro e V2 ⟨rfl, hv2⟩; have HV2 : Hid (Below V0.heap.size V0 V2) := bcall (by repeat (first | exact HV7.out | exact HV6.out | exact HV5.out | exact HV4.out | exact HV3.out | exact HV2.out | exact HV1.out | exact brefl _ | refine Below.drew ?_ | refine bnew ?_ _)) hv2; clear hv2)
  | (
    go_at_call 29; refine (dr_list (HO0.out.on (by repeat (first | exact HV7.out | exact HV6.out | exact HV5.out | exact HV4.out | exact HV3.out | exact HV2.out | exact HV1.out | exact brefl _ | refine Below.drew ?_ | refine bnew ?_ _))) (HSM.out.fits (by omega)) HDN.out).mono ?_; rintro e V3 ⟨⟨v, ss3, rfl, hp3, hown3, hv3⟩, ho3⟩; have h3 := HSS.out ss3 hp3; have hl3 : ss3.length = 1 := by rw [← sortS_len ss3]; show (sortedN ss3).length = 1; rw [h3]; rfl
    rw [hl3] at hown3; obtain ⟨A3, c3, rfl, _⟩ := own_shape hown3; have HV3 : Hid (Below V0.heap.size V0 V3) := bcall (by repeat (first | exact HV7.out | exact HV6.out | exact HV5.out | exact HV4.out | exact HV3.out | exact HV2.out | exact HV1.out | exact brefl _ | refine Below.drew ?_ | refine bnew ?_ _)) hv3; have HR3 : Hid (Sl V3 V3.heap.size 1 A3 1 (([nameP 112 3].map bs).map .string)) := (by have h := hown3; change V3.ownsRow _ _ _ _ _ ((sortedN ss3).map encStr) at h; rw [h3] at h; exact own_sl h); have HQ3 := Lib.hid hv3; clear hown3 ho3 hv3 h3 hl3 hp3)
  | (
    go_at_call 14; refine (same_yes _ _ A3 _ 1 1 c3 1 ([nameP 112 3].map bs) [(⟨#[112, 95, 48, 48, 48, 48, 48, 48, 48, 48, 51]⟩ : ByteArray)] ((HR3.out.below (by repeat (first | exact (brefl V3) | refine Below.drew ?_ | refine bnew ?_ _))).more (Below.size (B := V3.heap.size) (by repeat (first | exact (brefl V3) | refine Below.drew ?_ | refine bnew ?_ _)))) ?r4 (Nat.le_refl _) (by unfold maxLen; omega) (by unfold maxLen; omega) ?e4).mono ?_
    case r4 => first
     | exact (sl_row (heap_alloc_new V3 _) 1 1 rfl).more (le_al _ _)
     | exact (sl_row ((HQ3.out.block _ (le_al _ _)).trans (heap_alloc_new _ _)) 1 1 rfl).more (Nat.lt_of_lt_of_le (le_al _ _) HQ3.out.size)
    case e4 => show [bs (nameP 112 3)] = _; rw [one_name]
    rintro e V4 ⟨rfl, hv4⟩; have HV4 : Hid (Below V0.heap.size V0 V4) := bcall (by repeat (first | exact HV7.out | exact HV6.out | exact HV5.out | exact HV4.out | exact HV3.out | exact HV2.out | exact HV1.out | exact brefl _ | refine Below.drew ?_ | refine bnew ?_ _)) hv4; clear HR3 HQ3 hv4)
  | (go_at_call 36; refine (HON2.out _).mono ?_; rintro e V5 ⟨A5, c5, rfl, hs5, hv5⟩; have HV5 : Hid (Below V0.heap.size V0 V5) := bcall (by repeat (first | exact HV7.out | exact HV6.out | exact HV5.out | exact HV4.out | exact HV3.out | exact HV2.out | exact HV1.out | exact brefl _ | refine Below.drew ?_ | refine bnew ?_ _)) hv5; have HS5 := Lib.hid hs5; have HQ5 := Lib.hid hv5; clear HON2 hs5 hv5)
  | (
    go_at_call 15; refine (files_one _ (HTV.out _ (by repeat (first | exact HV7.out | exact HV6.out | exact HV5.out | exact HV4.out | exact HV3.out | exact HV2.out | exact HV1.out | exact brefl _ | refine Below.drew ?_ | refine bnew ?_ _))) V5.heap.size (Below.size (B := V5.heap.size) (by repeat (first | exact (brefl V5) | refine Below.drew ?_ | refine bnew ?_ _))) A5 c5 (HS5.out.keep (by repeat (first | exact (brefl V5) | refine Below.drew ?_ | refine bnew ?_ _)))).mono ?_
    rintro e V6 ⟨A6, c6, rfl, hr6, hv6⟩; have HV6 : Hid (Below V0.heap.size V0 V6) := bcall (by repeat (first | exact HV7.out | exact HV6.out | exact HV5.out | exact HV4.out | exact HV3.out | exact HV2.out | exact HV1.out | exact brefl _ | refine Below.drew ?_ | refine bnew ?_ _)) hv6; have HQ6 := Lib.hid hv6; have HR6 := Lib.hid hr6; clear hr6 hv6)
  | (
    go_at_call 14; refine (same_yes _ _ A6 _ 4 4 c6 4 F4 [(⟨#[100, 95, 48, 48, 48, 48, 48, 48, 48, 48, 54]⟩ : ByteArray), ⟨#[112, 95, 48, 48, 48, 48, 48, 48, 48, 48, 51]⟩, ⟨#[115, 95, 48, 48, 48, 48, 48, 48, 48, 48, 50]⟩, ⟨#[115, 95, 48, 48, 48, 48, 48, 48, 48, 48, 53]⟩] ((HR6.out.below (by repeat (first | exact (brefl V6) | refine Below.drew ?_ | refine bnew ?_ _))).more (Below.size (B := V6.heap.size) (by repeat (first | exact (brefl V6) | refine Below.drew ?_ | refine bnew ?_ _)))) ?r7 (Nat.le_refl _) (by unfold maxLen; omega) (by unfold maxLen; omega) ?e7).mono ?_
    case r7 => first
     | exact (sl_row (heap_alloc_new V6 _) 1 4 rfl).more (le_al _ _)
     | exact (sl_row ((HQ6.out.block _ (le_al _ _)).trans (heap_alloc_new _ _)) 1 4 rfl).more (Nat.lt_of_lt_of_le (le_al _ _) HQ6.out.size)
     | exact (sl_row ((HQ6.out.block _ (Nat.lt_of_lt_of_le (le_al _ _) HQ5.out.size)).trans ((HQ5.out.block _ (le_al _ _)).trans (heap_alloc_new _ _))) 1 4 rfl).more (Nat.lt_of_lt_of_le (Nat.lt_of_lt_of_le (le_al _ _) HQ5.out.size) HQ6.out.size)
    case e7 => rfl
    rintro e V7 ⟨rfl, hv7⟩; have HV7 : Hid (Below V0.heap.size V0 V7) := bcall (by repeat (first | exact HV7.out | exact HV6.out | exact HV5.out | exact HV4.out | exact HV3.out | exact HV2.out | exact HV1.out | exact brefl _ | refine Below.drew ?_ | refine bnew ?_ _)) hv7; clear hv7))
 all_goals
  go_wp2_with fail
  go_ret
  exact ⟨rfl, HO0.out.below.trans (HV7.out.mono HO0.out.below.size)⟩
end Go.Proofs.YtkhemhiifhggmaaGreatDoor
