/- The names of files. (plain) -/
import Derived.Test.YtkhemhiifhggmaaGreatDoorHPa9
import Derived.Test.YtkhemhiifhggmaaGreatDoorHPa8
import Derived.Test.YtkhemhiifhggmaaGreatDoorHPa7
import Derived.Test.YtkhemhiifhggmaaGreatDoorHPa6
set_option maxRecDepth 100000
set_option maxHeartbeats 40000000
namespace Go.Proofs.YtkhemhiifhggmaaGreatDoor
open Go.Sort
set_option linter.unusedVariables false
def digs : Nat → Nat → List UInt8
 | 0, _ => []
 | k + 1, u => digs k (u / 10) ++ [UInt8.ofNat (48 + u % 10)]
theorem digs_len : ∀ k u, (digs k u).length = k
 | 0, _ => rfl
 |
  k + 1, u => by
  unfold digs
  rw [List.length_append, digs_len k]
  rfl
theorem digs_zero : ∀ k, digs k 0 = List.replicate k 48
 | 0 => rfl
 |
  k + 1 => by
  unfold digs
  rw [show 0 / 10 = 0 from rfl, digs_zero k, List.replicate_succ']
  rfl
theorem digs_ch : ∀ k u, ∀ c ∈ digs k u, 48 ≤ c.toNat ∧ c.toNat ≤ 57
 | 0, _, c, hc => absurd hc List.not_mem_nil
 |
  k + 1, u, c, hc => by
  unfold digs at hc
  rcases List.mem_append.1 hc with hc | hc
  ·exact digs_ch k _ c hc
  ·rw [List.mem_singleton.1 hc]
   have : (UInt8.ofNat (48 + u % 10)).toNat = 48 + u % 10 := by
    rw [UInt8.toNat_ofNat']
    omega
   omega
theorem pad_digs : ∀ k u, u < 10 ^ (k + 1) → List.replicate (k + 1 - (Lib.decDigits u).length) 48 ++ Lib.decDigits u = digs (k + 1) u
 |
  k, u, h => by
  by_cases h10 : u < 10
  ·rw [Lib.decDigits, dif_pos h10]
   unfold digs
   rw [show u / 10 = 0 by omega, digs_zero, show u % 10 = u by omega]
   rfl
  ·rw [Lib.decDigits, dif_neg h10]
   unfold digs
   match k, h with
   | 0, h => omega
   |
    k + 1, h =>
    rw [← pad_digs k (u / 10) (by rw [Nat.pow_succ] at h; omega), List.length_append, List.append_assoc, List.length_singleton, Nat.add_sub_add_right]
theorem parse_app (b : List UInt8) : ∀ (a : List UInt8) (acc v : Nat), Lib.parseUint10 acc a = .ok v → Lib.parseUint10 acc (a ++ b) = Lib.parseUint10 v b
 |
  [], acc, v, h => by
  unfold Lib.parseUint10 at h
  injection h with h
  rw [h]
  rfl
 |
  c :: r, acc, v, h => by
  rw [List.cons_append]
  unfold Lib.parseUint10 at h
  conv => lhs; unfold Lib.parseUint10
  split at h
  ·rename_i hc
   rw [if_pos hc]
   split at h
   ·cases h
   ·rename_i h1
    rw [if_neg h1]
    split at h
    ·cases h
    ·rename_i h2
     rw [if_neg h2]
     exact parse_app b r _ v h
  ·cases h
theorem parse_digs : ∀ k u, k ≤ 18 → u < 10 ^ k → Lib.parseUint10 0 (digs k u) = .ok u
 |
  0, u, _, h => by
  have : u = 0 := by simpa using h
  subst this
  rfl
 |
  k + 1, u, hk, h => by
  have h2 : u / 10 < 10 ^ k := by rw [Nat.pow_succ] at h; omega
  have h3 : (10 : Nat) ^ k ≤ 10 ^ 17 := Nat.pow_le_pow_right (by decide) (by omega)
  have h4 : (10 : Nat) ^ 17 = 100000000000000000 := by decide
  have h5 : (UInt8.ofNat (48 + u % 10)).toNat = 48 + u % 10 := by
   rw [UInt8.toNat_ofNat']
   omega
  unfold digs
  rw [parse_app _ _ _ _ (parse_digs k (u / 10) (by omega) h2)]
  unfold Lib.parseUint10 Lib.parseUint10
  rw [h5, if_pos (by omega), if_neg (by omega), if_neg (by omega)]
  congr 1
  omega
theorem lt_app {c d : List UInt8} : ∀ {a b : List UInt8}, a.length = b.length → a < b → a ++ c < b ++ d
 | [], [], _, h => absurd h (List.lt_irrefl _)
 | [], _ :: _, h, _ => by cases h
 | _ :: _, [], h, _ => by cases h
 |
  x :: a, y :: b, hl, h => by
  rw [List.cons_append, List.cons_append]
  rw [List.cons_lt_cons_iff] at h ⊢
  rcases h with h | ⟨h1, h2⟩
  ·exact .inl h
  ·exact .inr ⟨h1, lt_app (by simpa using hl) h2⟩
theorem lt_pre (a : List UInt8) {c d : List UInt8} (h : c < d) : a ++ c < a ++ d := by
 induction a with
 | nil => exact h
 | cons x r ih => rw [List.cons_append, List.cons_append, List.cons_lt_cons_iff]; exact .inr ⟨rfl, ih⟩
theorem digs_lt : ∀ k u v, v < 10 ^ k → u < v → digs k u < digs k v
 |
  0, u, v, h, h2 => by
  have : v = 0 := by simpa using h
  omega
 |
  k + 1, u, v, h, h2 => by
  unfold digs
  by_cases hd : u / 10 = v / 10
  ·rw [hd]
   refine lt_pre _ ?_
   rw [List.cons_lt_cons_iff]
   left
   rw [UInt8.lt_iff_toNat_lt, UInt8.toNat_ofNat', UInt8.toNat_ofNat']
   omega
  ·exact lt_app (by rw [digs_len, digs_len]) (digs_lt k (u / 10) (v / 10) (by rw [Nat.pow_succ] at h; omega) (by omega))
theorem name_form {c : UInt8} {n : Int} (hn : 1 ≤ n ∧ n ≤ 999999999) (hc : 97 ≤ c.toNat ∧ c.toNat ≤ 122) : nameP c n = c :: 95 :: digs 9 n.toNat := by
 unfold nameP
 rw [if_pos ⟨hn, hc⟩]
 unfold pad9 Lib.itoa
 rw [if_neg (by omega), pad_digs 8 n.toNat (by
                        have : (10 : Nat) ^ (8 + 1) = 1000000000 := by decide
                        omega)]
 rfl
theorem name_len {c : UInt8} {n : Int} (hn : 1 ≤ n ∧ n ≤ 999999999) (hc : 97 ≤ c.toNat ∧ c.toNat ≤ 122) : (nameP c n).length = 11 := by
 rw [name_form hn hc]
 simp [digs_len]
theorem name_le (c : UInt8) (n : Int) : (nameP c n).length ≤ 11 := by
 by_cases h : (1 ≤ n ∧ n ≤ 999999999) ∧ 97 ≤ c.toNat ∧ c.toNat ≤ 122
 ·rw [name_len h.1 h.2]; omega
 ·unfold nameP; rw [if_neg h]; simp
theorem name_lt {c : UInt8} {n m : Int} (hn : 1 ≤ n) (hm : m ≤ 999999999) (hc : 97 ≤ c.toNat ∧ c.toNat ≤ 122) (h : n < m) : nameP c n < nameP c m := by
 rw [name_form ⟨hn, by omega⟩ hc, name_form ⟨by omega, hm⟩ hc]
 have := digs_lt 9 n.toNat m.toNat (by
                    have : (10 : Nat) ^ 9 = 1000000000 := by decide
                    omega) (by omega)
 exact lt_pre [c, 95] this
theorem name_inj {c : UInt8} {n m : Int} (hn : 1 ≤ n ∧ n ≤ 999999999) (hm : 1 ≤ m ∧ m ≤ 999999999) (hc : 97 ≤ c.toNat ∧ c.toNat ≤ 122) (h : nameP c n = nameP c m) : n = m := by
 rcases Int.lt_trichotomy n m with h1 | h1 | h1
 ·exact absurd h (slt_ne (name_lt hn.1 hm.2 hc h1))
 ·exact h1
 ·exact absurd h.symm (slt_ne (name_lt hm.1 hn.2 hc h1))
theorem name_ok {n : Int} (hn : 1 ≤ n ∧ n ≤ 999999999) : okName (nameP 112 n) = some n := by
 have hf := name_form (c := 112) hn (by decide)
 have hd : (nameP 112 n).drop (min 2 (nameP 112 n).length) = digs 9 n.toNat := by
  rw [hf]
  simp [digs_len]
 have hlt : n.toNat < 10 ^ 9 := by
  have : (10 : Nat) ^ 9 = 1000000000 := by decide
  omega
 have hp := parse_digs 9 n.toNat (by decide) hlt
 have hnum : numT (digs 9 n.toNat) = some n := by
  have hch := digs_ch 9 n.toNat
  have hlen := digs_len 9 n.toNat
  generalize digs 9 n.toNat = t at hp hch hlen
  match t, hlen with
  |
   c :: r, _ =>
   have h1 := hch c (List.mem_cons_self ..)
   unfold numT
   rw [Lib.atoiAll_plain c r (by omega) (by omega)]
   unfold Lib.parseMag
   rw [if_neg (by simp), hp]
   unfold Lib.signless
   simp only
   rw [if_neg (by omega)]
   simp only
   congr 1
   omega
 unfold okName
 rw [hd, hnum, Option.bind_some, if_pos rfl]
theorem new_none : okName [110, 101, 119] = none := by decide +kernel
theorem new_ne (n : Int) : nameP 112 n ≠ [110, 101, 119] := by
 by_cases h : (1 ≤ n ∧ n ≤ 999999999) ∧ (97 ≤ (112 : UInt8).toNat ∧ (112 : UInt8).toNat ≤ 122)
 ·rw [name_form h.1 h.2]
  intro e
  injection e with e
  cases e
 ·unfold nameP
  rw [if_neg h]
  simp
theorem name_good {c : UInt8} {n : Int} (hn : 1 ≤ n ∧ n ≤ 999999999) (hc : 97 ≤ c.toNat ∧ c.toNat ≤ 122) : nameB (bs (nameP c n)) = true := by
 unfold nameB
 have h1 : (bs (nameP c n)).size = 11 := by rw [bs_size, name_len hn hc]
 have h2 : (bs (nameP c n)).data.toList = nameP c n := by simp [bs]
 rw [h1, h2, name_form hn hc]
 simp only [List.all_cons, Bool.and_eq_true, decide_eq_true_eq]
 refine ⟨by omega, ?_, by decide, ?_⟩
 ·unfold nameC
  exact decide_eq_true (.inl ⟨by omega, by omega⟩)
 ·rw [List.all_eq_true]
  intro x hx
  have := digs_ch _ _ x hx
  unfold nameC
  exact decide_eq_true (.inr (.inl ⟨by omega, by omega⟩))
end Go.Proofs.YtkhemhiifhggmaaGreatDoor
namespace Go.Proofs.YtkhemhiifhggmaaGreatDoor
set_option linter.unusedVariables false
theorem cntR_enc (z : Int) (hz : 0 ≤ z ∧ z ≤ 9223372036854775807) (r : List UInt8) : cntR (by8 (numI z) ++ r) = some (z, r) := by
 unfold cntR
 rw [readCnt_enc hz r]
 rfl
theorem segB_eq (s : Sg) : segB s = by8 (numI s.id) ++ (by8 (numI s.docs) ++ (by8 (numI s.gen) ++ by8 (numI s.gone))) := by
 unfold segB Sg.nums numsI
 simp [by8]
theorem segR_enc (s : Sg) (h : ∀ z ∈ s.nums, 0 ≤ z ∧ z ≤ 9223372036854775807) (r : List UInt8) : segR (segB s ++ r) = some (s, r) := by
 have h1 := h s.id (by simp [Sg.nums])
 have h2 := h s.docs (by simp [Sg.nums])
 have h3 := h s.gen (by simp [Sg.nums])
 have h4 := h s.gone (by simp [Sg.nums])
 unfold segR
 rw [segB_eq]
 simp only [List.append_assoc]
 rw [cntR_enc _ h1]
 simp only [Option.bind_some]
 rw [cntR_enc _ h2]
 simp only [Option.bind_some]
 rw [cntR_enc _ h3]
 simp only [Option.bind_some]
 rw [cntR_enc _ h4]
 rfl
theorem segsR_enc : ∀ (l : List Sg) (h : ∀ s ∈ l, ∀ z ∈ s.nums, 0 ≤ z ∧ z ≤ 9223372036854775807) (r : List UInt8), segsR l.length (l.flatMap segB ++ r) = some (l, r)
 | [], _, _ => rfl
 |
  s :: l, h, r => by
  rw [List.flatMap_cons, List.append_assoc, List.length_cons]
  unfold segsR
  rw [segR_enc s (h s (List.mem_cons_self ..))]
  simp only [Option.bind_some]
  rw [segsR_enc l (fun s' hs => h s' (List.mem_cons_of_mem _ hs)) r]
  rfl
theorem readBlk_enc (t : List UInt8) (ht : t.length ≤ 4611686018427387000) (r : List UInt8) : readBlk (blockB t ++ r) = (t, 0, r) := by
 unfold blockB readBlk
 rw [List.append_assoc, readCnt_enc (z := (t.length : Int)) ⟨by omega, by omega⟩]
 simp
 omega
theorem open_seal (k : Nat) (t : List UInt8) (ht : t.length ≤ 4611686018427387000) : openB k (sealB k t) = (t, 0) := by
 have hs : sealB k t = wantB k ++ (blockB t ++ four (sumZ (bodyB k t))) := by
  unfold sealB bodyB wantB
  simp
 have hd : (sealB k t).drop 4 = blockB t ++ four (sumZ (bodyB k t)) := by
  rw [hs]
  exact List.drop_left' rfl
 have h4 : (four (sumZ (bodyB k t))).length = 4 := by simp [four, by8]
 unfold openB
 rw [hd, readBlk_enc t ht]
 simp only [h4]
 rw [if_pos (by rw [hs]; exact headE_ok _ _ (List.take_left' rfl))]
 simp
theorem textP_len {next : Int} {l : List Sg} (h : PtOk next l) (hl : l.length ≤ 1099511627776) : (textP next l).length ≤ 36 * l.length + 18 := by
 have hp := segsOk_pos h.2.1 (Int.le_refl 0) h.2.2
 have h1 : (by8 (numsI [next, (l.length : Int)])).length ≤ 18 := by
  rw [by8_length]
  have := numsI_len4 (zs := [next, (l.length : Int)]) (by
   intro z hz
   simp only [List.mem_cons, List.not_mem_nil, or_false] at hz
   rcases hz with e | e <;> subst e <;> have := h.1 <;> have := h.2.1 <;> exact ⟨by omega, by omega⟩)
  simp at this
  omega
 have h2 : ∀ l : List Sg, (∀ s ∈ l, ∀ z ∈ s.nums, 0 ≤ z ∧ z ≤ 9223372036854775807) → (l.flatMap segB).length ≤ 36 * l.length := by
  intro l
  induction l with
  | nil => intro _; simp
  |
   cons s r ih =>
   intro hp
   have h3 := ih fun s' hs => hp s' (List.mem_cons_of_mem _ hs)
   have h4 := numsI_len4 (zs := s.nums) (hp s (List.mem_cons_self ..))
   have h5 : (segB s).length ≤ 36 := by unfold segB; rw [by8_length]; simp [Sg.nums] at h4 ⊢; omega
   simp only [List.flatMap_cons, List.length_append, List.length_cons]
   omega
 have h3 := h2 l hp
 unfold textP
 rw [List.length_append]
 omega
theorem read_seal {next : Int} {l : List Sg} (h : PtOk next l) (hl : l.length ≤ 1099511627776) : readP (sealB 2 (textP next l)) = some (next, l) := by
 have hp := segsOk_pos h.2.1 (Int.le_refl 0) h.2.2
 unfold readP
 rw [open_seal _ _ (by have := textP_len h hl; omega), if_pos rfl]
 have ht : textP next l = by8 (numI next) ++ (by8 (numI (l.length : Int)) ++ (l.flatMap segB ++ [])) := by
  unfold textP numsI
  simp [by8]
 simp only
 rw [ht, cntR_enc _ ⟨by have := h.1; omega, by have := h.2.1; omega⟩]
 simp only [Option.bind_some]
 rw [cntR_enc _ ⟨by omega, by omega⟩]
 simp only [Option.bind_some, Int.toNat_natCast]
 rw [segsR_enc l hp]
 simp only [Option.bind_some]
 rw [if_pos ⟨trivial, h⟩]
end Go.Proofs.YtkhemhiifhggmaaGreatDoor
namespace Go.Proofs.YtkhemhiifhggmaaGreatDoor
open Go.RowKit Go.Maps Go.Sort
set_option linter.unusedVariables false
section
variable {H : Type} {D : DS H} {f h : ByteArray → Option Int} {g : Int → List UInt8 × Int} {L a q : Int}
structure Aft (f : ByteArray → Option Int) (g : Int → List UInt8 × Int) (L : Int) (S nm : ByteArray) (f' : ByteArray → Option Int) (g' : Int → List UInt8 × Int) : Prop where
 o : ∀ s, s ≠ newN → s ≠ nm → f' s = f s
 y : f' nm = f nm ∨ (f' nm = some (L + 1) ∧ g' (L + 1) = (S.data.toList, (S.data.toList.length : Int)))
 g : ∀ k, k ≤ L → g' k = g k
def SaveEnd (R : DS H × Int) (f h : ByteArray → Option Int) (g : Int → List UInt8 × Int) (L a q : Int) (S nm : ByteArray) : Prop :=
 (R.2 = 0 ∧ (a = -1 ∨ 5 ≤ a) ∧ Ar R.1 (max (-1) (a - 5)) q ∧ ∃ f' g' L', DV R.1 f' f' g' L' ∧ Aft f g L S nm f' g' ∧ f' nm = some (L + 1) ∧ g' (L + 1) = (S.data.toList, (S.data.toList.length : Int)) ∧ f' newN = none) ∨
 (R.2 = q ∧ 0 ≤ a ∧ a ≤ 4 ∧ R.1.armed = -1 ∧ R.1.down = (q == 15) ∧ ∃ f' g' L', DV R.1 f' h g' L' ∧ Aft f g L S nm f' g')
theorem saveEnd_no {E : DS H} {R : DS H × Int} {S nm : ByteArray} {f' : ByteArray → Option Int} {g' : Int → List UInt8 × Int} {L' : Int} (e : R = E.step) (hA : Ar E 0 q) (v : DV E f' h g' L') (haft : Aft f g L S nm f' g') (h0 : 0 ≤ a) (h4 : a ≤ 4) : SaveEnd R f h g L a q S nm := by
 rw [step_no hA] at e
 subst e
 obtain ⟨v1, x1, x2, x3⟩ := ar_fault (D := E) rfl hA.2.1 v
 exact .inr ⟨rfl, h0, h4, x1, x3, f', g', L', v1, haft⟩
theorem newN_ok : nameB newN = true := by decide +kernel
theorem upd_le {β : Type} (g : Int → β) {L k : Int} (b : β) (h : k ≤ L) : upd g (L + 1) b k = g k := upd_other _ _ (by omega)
theorem save_run (v : DV D f h g L) (hA : Ar D a q) (ha : -1 ≤ a) (hq : 0 ≤ a → q ≠ 0) (S : ByteArray) {nm : ByteArray} (hnm : nameB nm = true) (hne : nm ≠ newN) : SaveEnd (runS (acts S nm) D) f h g L a q S nm := by
 unfold acts
 by_cases h0 : a = 0
 ·subst h0
  have e := create_no hA (hq (by omega)) newN_ok
  have h1 : (D.create newN).2 ≠ 0 := by rw [e, step_no hA]; exact hq (by omega)
  rw [runS_no h1]
  exact saveEnd_no e hA v ⟨fun _ _ _ => rfl, .inl rfl, fun _ _ => rfl⟩ (Int.le_refl _) (by omega)
 obtain ⟨e1, v1, A1⟩ := create_go v hA h0 newN_ok
 rw [runS_ok (f := fun D => D.create ⟨#[110, 101, 119]⟩) e1]
 have hf1 : upd f newN (some (L + 1)) newN = some (L + 1) := upd_same _ _ _
 have ho1 : ∀ s, s ≠ newN → s ≠ nm → upd f newN (some (L + 1)) s = f s := fun s h1 _ => upd_other _ _ h1
 have hy1 : upd f newN (some (L + 1)) nm = f nm := upd_other _ _ hne
 generalize hE1 : (D.create ⟨#[110, 101, 119]⟩).1 = E1
 have hE1' : (D.create newN).1 = E1 := hE1
 rw [hE1'] at v1 A1
 by_cases h1 : max (-1) (a - 1) = 0
 ·rw [h1] at A1
  have e := change_no v1 A1 (hq (by omega)) newN_ok hf1 (fun f => (f.1 ++ S.data.toList, f.2))
  have hn : (E1.append newN S).2 ≠ 0 := by unfold DS.append; rw [e, step_no A1]; exact hq (by omega)
  rw [runS_no (f := fun D => D.append ⟨#[110, 101, 119]⟩ S) hn]
  exact saveEnd_no e A1 v1 ⟨ho1, .inl hy1, fun k hk => upd_le _ _ hk⟩ (by omega) (by omega)
 obtain ⟨e2, v2, A2⟩ := change_go v1 A1 h1 newN_ok hf1 (fun f => (f.1 ++ S.data.toList, f.2))
 rw [runS_ok (f := fun D => D.append ⟨#[110, 101, 119]⟩ S) (by exact e2)]
 generalize hE2 : (E1.append ⟨#[110, 101, 119]⟩ S).1 = E2
 have hE2' : (E1.change newN (fun f => (f.1 ++ S.data.toList, f.2))).1 = E2 := hE2
 rw [hE2'] at v2 A2
 by_cases h2 : max (-1) (max (-1) (a - 1) - 1) = 0
 ·rw [h2] at A2
  have e := change_no v2 A2 (hq (by omega)) newN_ok hf1 (fun f => (f.1, (f.1.length : Int)))
  have hn : (E2.sync newN).2 ≠ 0 := by unfold DS.sync; rw [e, step_no A2]; exact hq (by omega)
  rw [runS_no (f := fun D => D.sync ⟨#[110, 101, 119]⟩) hn]
  exact saveEnd_no e A2 v2 ⟨ho1, .inl hy1, fun k hk => by rw [upd_le _ _ hk, upd_le _ _ hk]⟩ (by omega) (by omega)
 obtain ⟨e3, v3, A3⟩ := change_go v2 A2 h2 newN_ok hf1 (fun f => (f.1, (f.1.length : Int)))
 rw [runS_ok (f := fun D => D.sync ⟨#[110, 101, 119]⟩) (by exact e3)]
 generalize hE3 : (E2.sync ⟨#[110, 101, 119]⟩).1 = E3
 have hE3' : (E2.change newN (fun f => (f.1, (f.1.length : Int)))).1 = E3 := hE3
 rw [hE3'] at v3 A3
 have hg3 : ∀ k, k ≤ L → upd (upd (upd g (L + 1) ([], 0)) (L + 1) ((upd g (L + 1) ([], 0) (L + 1)).1 ++ S.data.toList, (upd g (L + 1) ([], 0) (L + 1)).2)) (L + 1) ((upd (upd g (L + 1) ([], 0)) (L + 1) ((upd g (L + 1) ([], 0) (L + 1)).1 ++ S.data.toList, (upd g (L + 1) ([], 0) (L + 1)).2) (L + 1)).1, (((upd (upd g (L + 1) ([], 0)) (L + 1) ((upd g (L + 1) ([], 0) (L + 1)).1 ++ S.data.toList, (upd g (L + 1) ([], 0) (L + 1)).2) (L + 1)).1.length : Nat) : Int)) k = g k := fun k hk => by rw [upd_le _ _ hk, upd_le _ _ hk, upd_le _ _ hk]
 have hs3 : upd (upd (upd g (L + 1) ([], 0)) (L + 1) ((upd g (L + 1) ([], 0) (L + 1)).1 ++ S.data.toList, (upd g (L + 1) ([], 0) (L + 1)).2)) (L + 1) ((upd (upd g (L + 1) ([], 0)) (L + 1) ((upd g (L + 1) ([], 0) (L + 1)).1 ++ S.data.toList, (upd g (L + 1) ([], 0) (L + 1)).2) (L + 1)).1, (((upd (upd g (L + 1) ([], 0)) (L + 1) ((upd g (L + 1) ([], 0) (L + 1)).1 ++ S.data.toList, (upd g (L + 1) ([], 0) (L + 1)).2) (L + 1)).1.length : Nat) : Int)) (L + 1) = (S.data.toList, (S.data.toList.length : Int)) := by
  rw [upd_same, upd_same, upd_same]
  rfl
 by_cases h3 : max (-1) (max (-1) (max (-1) (a - 1) - 1) - 1) = 0
 ·rw [h3] at A3
  have e := rename_no v3 A3 (hq (by omega)) newN_ok hnm hf1
  have hn : (E3.rename newN nm).2 ≠ 0 := by rw [e, step_no A3]; exact hq (by omega)
  rw [runS_no (f := fun D => D.rename ⟨#[110, 101, 119]⟩ nm) hn]
  exact saveEnd_no e A3 v3 ⟨ho1, .inl hy1, hg3⟩ (by omega) (by omega)
 obtain ⟨e4, v4, A4⟩ := rename_go v3 A3 h3 newN_ok hnm hf1
 rw [runS_ok (f := fun D => D.rename ⟨#[110, 101, 119]⟩ nm) (by exact e4)]
 generalize hE4 : (E3.rename ⟨#[110, 101, 119]⟩ nm).1 = E4
 have hE4' : (E3.rename newN nm).1 = E4 := hE4
 rw [hE4'] at v4 A4
 have ho4 : ∀ s, s ≠ newN → s ≠ nm → upd (upd (upd f newN (some (L + 1))) newN none) nm (some (L + 1)) s = f s := fun s h1 h2 => by rw [upd_other _ _ h2, upd_other _ _ h1, upd_other _ _ h1]
 have hy4 : upd (upd (upd f newN (some (L + 1))) newN none) nm (some (L + 1)) nm = some (L + 1) := upd_same _ _ _
 by_cases h4 : max (-1) (max (-1) (max (-1) (max (-1) (a - 1) - 1) - 1) - 1) = 0
 ·rw [h4] at A4
  have e := syncDir_no A4 (hq (by omega))
  have hn : (E4.syncDir).2 ≠ 0 := by rw [e, step_no A4]; exact hq (by omega)
  rw [runS_no (f := fun D => D.syncDir) hn]
  exact saveEnd_no e A4 v4 ⟨ho4, .inr ⟨hy4, hs3⟩, hg3⟩ (by omega) (by omega)
 obtain ⟨e5, v5, A5⟩ := syncDir_go v4 A4 h4
 rw [runS_ok (f := fun D => D.syncDir) e5]
 left
 refine ⟨rfl, by omega, ?_, _, _, _, v5, ⟨ho4, .inr ⟨hy4, hs3⟩, hg3⟩, hy4, hs3, ?_⟩
 ·have : max (-1) (max (-1) (max (-1) (max (-1) (max (-1) (a - 1) - 1) - 1) - 1) - 1) = max (-1) (a - 5) := by omega
  rw [this] at A5
  exact A5
 ·rw [upd_other _ _ (fun e => hne e.symm), upd_same]
def StrK (M : DataW H) : Prop := ∃ es, M = .map es ∧ ∀ p ∈ es, ∃ t, p.1 = .string t
theorem StrK.keyed {M : DataW H} (h : StrK M) : Keyed' M := by
 obtain ⟨es, e, hk⟩ := h
 refine ⟨es, e, fun p hp => ?_⟩
 obtain ⟨t, ht⟩ := hk p hp
 rw [ht]
 simp [Go.WideAt.IsKeyLit]
theorem StrK.mem {M : DataW H} (h : StrK M) (t : List UInt8) : t ∈ strKeys M ↔ Maps.has M (keyS (bs t)) = true := by
 obtain ⟨es, rfl, hk⟩ := h
 have hks : keyS (bs t) = .string t := by simp [keyS, bs]
 rw [hks, has_eq, List.any_eq_true]
 show t ∈ es.map (fun p => strOf p.1) ↔ _
 rw [List.mem_map]
 constructor
 ·rintro ⟨p, hp, e⟩
  obtain ⟨u, hu⟩ := hk p hp
  refine ⟨p, hp, ?_⟩
  rw [hu] at e ⊢
  have : u = t := e
  rw [this]
  exact Go.WideAt.sameKey_self (by simp [Go.WideAt.IsKeyLit])
 ·rintro ⟨p, hp, e⟩
  have := Go.WideAt.sameKey_eq e
  exact ⟨p, hp, by rw [this]; rfl⟩
theorem lateF_best {F : List UInt8 → List UInt8} {y0 : List UInt8} {m : Int} {p : Int × List Sg} (hy : okName y0 = some m) (hr : readP (F y0) = some p) : ∀ l : List (List UInt8), l.Pairwise (fun x y => y ≤ x) → y0 ∈ l → (∀ s ∈ l, y0 < s → okName s = none) → lateF F l = some (m, p.1, p.2)
 | [], _, h, _ => absurd h List.not_mem_nil
 |
  s :: r, hp, hm, hn => by
  by_cases e : y0 = s
  ·subst e
   unfold lateF
   rw [hy, Option.bind_some, hr]
   rfl
  ·have hmr : y0 ∈ r := (List.mem_cons.1 hm).resolve_left e
   obtain ⟨h1, h2⟩ := List.pairwise_cons.1 hp
   rw [lateF_skip (hn s (List.mem_cons_self ..) (sle_lt (h1 y0 hmr) e))]
   exact lateF_best hy hr r h2 hmr (fun s hs => hn s (List.mem_cons_of_mem _ hs))
theorem bs_inj {s t : List UInt8} (h : bs s = bs t) : s = t := by
 unfold bs at h
 injection h with h
 injection h
theorem bs_data (s : List UInt8) : (bs s).data.toList = s := by simp [bs]
theorem latest_at (v : DV D f h g L) (hd : D.down = false) (hK : StrK D.names) {ss : List (List UInt8)} (hss : ss.Perm (strKeys D.names)) {m : Int} (hm : 1 ≤ m ∧ m ≤ 999999999) {k : Int} (hk : f (bs (nameP 112 m)) = some k) {p : Int × List Sg} (hr : readP (g k).1 = some p)
  (hon : ∀ s k', f s = some k' → s = newN ∨ ∃ m', (1 ≤ m' ∧ m' ≤ m) ∧ s = bs (nameP 112 m')) : latestD D ss = some (m, p.1, p.2) := by
 have hmem : ∀ s, s ∈ (sortedN ss).reverse ↔ (f (bs s)).isSome = true := fun s => by
  rw [List.mem_reverse]
  show s ∈ sortS ss ↔ _
  rw [sortS_mem, hss.mem_iff, hK.mem, (v.n.2 _).1]
 have hng := name_good (c := 112) hm (by decide)
 have hrd := (read_dv v hd hng).1 k hk
 unfold latestD
 refine lateF_best (name_ok hm) ?_ _ ?_ ((hmem _).2 (by rw [hk]; rfl)) ?_
 ·show readP (readS D (bs (nameP 112 m))).data.toList = _
  rw [hrd.2, bs_data]
  exact hr
 ·rw [List.pairwise_reverse]
  exact sortS_le ss
 ·intro s hs hlt
  obtain ⟨k', hk'⟩ := Option.isSome_iff_exists.1 ((hmem s).1 hs)
  rcases hon _ _ hk' with e | ⟨m', hm', e⟩
  ·have : s = [110, 101, 119] := bs_inj e
   rw [this]
   exact new_none
  ·have e := bs_inj e
   subst e
   rcases Int.lt_or_lt_of_ne (a := m') (b := m) (by
    intro e
    subst e
    exact List.lt_irrefl _ hlt) with h1 | h1
   ·exact absurd (List.lt_trans (name_lt hm'.1 hm.2 (by decide) h1) hlt) (List.lt_irrefl _)
   ·omega
theorem acts_small (S nm : ByteArray) : ∀ F ∈ (acts S nm : List (DS H → DS H × Int)), ∀ (D : DS H) (n : Nat), D.small n → (F D).1.small (n + 1) := by
 intro F hF D n hd
 simp only [acts, List.mem_cons, List.not_mem_nil, or_false] at hF
 rcases hF with e | e | e | e | e <;> subst e
 ·exact hd.create _
 ·exact hd.append _ _
 ·exact hd.sync _
 ·exact hd.rename _ _
 ·exact hd.syncDir
theorem acts_good (S nm : ByteArray) : ∀ F ∈ (acts S nm : List (DS H → DS H × Int)), ∀ (D : DS H) (n : Nat), D.good n → (F D).1.good (n + S.size) := by
 intro F hF D n hd
 simp only [acts, List.mem_cons, List.not_mem_nil, or_false] at hF
 rcases hF with e | e | e | e | e <;> subst e
 ·exact (hd.create _).more (by omega)
 ·exact hd.append _ _
 ·exact (hd.sync _).more (by omega)
 ·exact (hd.rename _ _).more (by omega)
 ·exact hd.syncDir.more (by omega)
theorem runS_small : ∀ (l : List (DS H → DS H × Int)) (D : DS H) (n : Nat), (∀ F ∈ l, ∀ (D : DS H) (n : Nat), D.small n → (F D).1.small (n + 1)) → D.small n → (runS l D).1.small (n + l.length)
 | [], D, n, _, h => h
 |
  F :: r, D, n, hl, h => by
  have h1 := hl F (List.mem_cons_self ..) D n h
  rw [List.length_cons]
  by_cases e : (F D).2 = 0
  ·rw [runS_ok e]
   exact (runS_small r _ _ (fun F hF => hl F (List.mem_cons_of_mem _ hF)) h1).more (by omega)
  ·rw [runS_no e]
   exact h1.more (by omega)
theorem runS_good (c : Nat) : ∀ (l : List (DS H → DS H × Int)) (D : DS H) (n : Nat), (∀ F ∈ l, ∀ (D : DS H) (n : Nat), D.good n → (F D).1.good (n + c)) → D.good n → (runS l D).1.good (n + l.length * c)
 | [], D, n, _, h => h.more (by omega)
 |
  F :: r, D, n, hl, h => by
  have h1 := hl F (List.mem_cons_self ..) D n h
  rw [List.length_cons, Nat.succ_mul]
  by_cases e : (F D).2 = 0
  ·rw [runS_ok e]
   exact (runS_good c r _ _ (fun F hF => hl F (List.mem_cons_of_mem _ hF)) h1).more (by omega)
  ·rw [runS_no e]
   exact h1.more (by omega)
theorem saveD_eq {n nx : Int} {l : List Sg} (hn : 1 ≤ n ∧ n ≤ 999999999) (hp : PtOk nx l) (D : DS H) : saveD D n nx l = runS (acts (bs (sealB 2 (textP nx l))) (bs (nameP 112 n))) D := by
 have h1 : packP nx l = (sealB 2 (textP nx l), 0) := if_pos hp
 have h2 : nameP 112 n ≠ [] := by
  rw [name_form hn (by decide)]
  simp
 unfold saveD
 rw [h1, if_pos ⟨rfl, h2⟩]
 rfl
theorem segsOk_len {next : Int} : ∀ {l : List Sg} {x : Int}, x < next → segsOk next x l → x + (l.length : Int) < next
 | [], x, h, _ => by simpa using h
 |
  s :: r, x, h, hs => by
  obtain ⟨⟨h1, h2, _⟩, h3⟩ := hs
  have := segsOk_len h2 h3
  rw [List.length_cons]
  omega
theorem ptOk_len {next : Int} {l : List Sg} (h : PtOk next l) : l.length ≤ 999999998 := by
 have := segsOk_len (by have := h.1; omega) h.2.2
 have := h.2.1
 omega
theorem seal_size {next : Int} {l : List Sg} (h : PtOk next l) : (sealB 2 (textP next l)).length ≤ 36000000000 := by
 have h1 := ptOk_len h
 have h2 := textP_len h (by omega)
 rw [sealB_len]
 have := blockB_len (textP next l) (by omega)
 omega
theorem saveD_small {n nx : Int} {l : List Sg} (hn : 1 ≤ n ∧ n ≤ 999999999) (hp : PtOk nx l) {D : DS H} {k : Nat} (h : D.small k) : (saveD D n nx l).1.small (k + 5) := by
 rw [saveD_eq hn hp]
 exact runS_small _ _ _ (acts_small _ _) h
theorem saveD_good {n nx : Int} {l : List Sg} (hn : 1 ≤ n ∧ n ≤ 999999999) (hp : PtOk nx l) {D : DS H} {k : Nat} (h : D.good k) : (saveD D n nx l).1.good (k + 180000000000) := by
 rw [saveD_eq hn hp]
 refine (runS_good _ _ _ _ (acts_good _ _) h).more ?_
 have := seal_size hp
 rw [bs_size]
 show k + 5 * _ ≤ _
 omega
theorem save_first (H : Type) {n nx : Int} {l : List Sg} (hn : 1 ≤ n ∧ n ≤ 999999999) (hp : PtOk nx l) :
  (saveD (DS.new H) n nx l).2 = 0 ∧ Ar (saveD (DS.new H) n nx l).1 (-1) 0 ∧ ∃ f g L, DV (saveD (DS.new H) n nx l).1 f f g L ∧ f (bs (nameP 112 n)) = some 1 ∧ g 1 = (sealB 2 (textP nx l), ((sealB 2 (textP nx l)).length : Int)) ∧ ∀ s k, f s = some k → s = bs (nameP 112 n) := by
 rw [saveD_eq hn hp]
 rcases save_run (H := H) (a := -1) (q := 0) dv_new ⟨rfl, rfl, rfl⟩ (Int.le_refl _) (fun h => by omega) (bs (sealB 2 (textP nx l))) (name_good (c := 112) hn (by decide)) (fun e => new_ne n (bs_inj e)) with ⟨h1, _, h3, f', g', L', v, ha, hy, hg, hnw⟩ | ⟨_, h, _⟩
 ·rw [bs_data] at hg
  refine ⟨h1, h3, f', g', L', v, hy, hg, fun s k hk => ?_⟩
  apply Classical.byContradiction
  intro hs
  by_cases e : s = newN
  ·rw [e, hnw] at hk
   cases hk
  ·rw [ha.o s e hs] at hk
   cases hk
 ·omega
end
theorem own_strk {H : Type} {w W : World} {p : Nat} {D : DS H} (h : Own w W p D) : StrK D.names := by
 obtain ⟨F, _, hd, _⟩ := h
 obtain ⟨n, _, hm⟩ := hd.nam
 obtain ⟨es, e, hk⟩ := hm.keysOf
 refine ⟨es, e, fun p hp => ?_⟩
 obtain ⟨v, hv⟩ := hk p hp
 obtain ⟨x, _, hx, _⟩ := Maps.keyOf_str Tryz.underlying9 hv
 exact ⟨x, hx⟩
end Go.Proofs.YtkhemhiifhggmaaGreatDoor
namespace Go.Proofs.YtkhemhiifhggmaaGreatDoor
open Go.RowKit Go.Maps Go.Sort
set_option linter.unusedVariables false
section
variable {H : Type} {D : DS H} {f h : ByteArray → Option Int} {g : Int → List UInt8 × Int} {L : Int}
theorem may1_no {s : ByteArray} (hs : nameB s = false) (b : Bool) : mayE [s] b = 1 := by simp [mayE, hs]
def Nmd (f : ByteArray → Option Int) (g : Int → List UInt8 × Int) : Prop := ∀ s k, f s = some k → nameB s = true ∧ g k = (s.data.toList, (s.data.toList.length : Int))
def putN (D : DS H) (x : ByteArray) : DS H := (((D.create x).1.append x x).1.sync x).1
theorem create_bad {x : ByteArray} (hx : nameB x = false) : (D.create x).1 = D := by
 unfold DS.create
 rw [may1_no hx, if_pos (by decide)]
theorem change_bad {x : ByteArray} (hx : nameB x = false) (G : List UInt8 × Int → List UInt8 × Int) : (D.change x G).1 = D := by
 unfold DS.change
 rw [may1_no hx, if_pos (by decide)]
theorem put_named (v : DV D f h g L) (hA : Ar D (-1) 0) (hn : Nmd f g) (x : ByteArray) : ∃ f' g' L', DV (putN D x) f' h g' L' ∧ Ar (putN D x) (-1) 0 ∧ Nmd f' g' := by
 unfold putN
 by_cases hx : nameB x = true
 ·obtain ⟨_, v1, A1⟩ := create_go v hA (by decide) hx
  have hf1 : upd f x (some (L + 1)) x = some (L + 1) := upd_same _ _ _
  obtain ⟨_, v2, A2⟩ := change_go v1 A1 (by decide) hx hf1 (fun f => (f.1 ++ x.data.toList, f.2))
  obtain ⟨_, v3, A3⟩ := change_go v2 A2 (by decide) hx hf1 (fun f => (f.1, (f.1.length : Int)))
  refine ⟨_, _, _, v3, A3, fun s k hk => ?_⟩
  by_cases e : s = x
  ·subst e
   rw [hf1] at hk
   injection hk with hk
   subst hk
   rw [upd_same, upd_same, upd_same]
   exact ⟨hx, rfl⟩
  ·rw [upd_other _ _ e] at hk
   have hl := v.b s k hk
   rw [upd_le _ _ hl, upd_le _ _ hl, upd_le _ _ hl]
   exact hn s k hk
 ·have hx : nameB x = false := by simpa using hx
  unfold DS.append DS.sync
  rw [change_bad hx, change_bad hx, create_bad hx]
  exact ⟨f, g, L, v, hA, hn⟩
theorem putN_small {n : Nat} (hs : D.small n) (x : ByteArray) : (putN D x).small (n + 3) := ((hs.create x).append x x).sync x
theorem putN_good {n : Nat} (hg : D.good n) (x : ByteArray) : (putN D x).good (n + x.size) := ((hg.create x).append x x).sync x
theorem cleanF_go (keep : List ByteArray) : ∀ (l : List (List UInt8)) (D : DS H) (f : ByteArray → Option Int) (n : Nat), l.Nodup → DV D f h g L → Ar D (-1) 0 → (∀ s ∈ l, (f (bs s)).isSome = true ∧ nameB (bs s) = true) →
  ∃ f', (cleanF keep l D n).2.1 = 0 ∧ DV (cleanF keep l D n).1 f' h g L ∧ Ar (cleanF keep l D n).1 (-1) 0 ∧ (∀ s, f' s = if s.data.toList ∈ l ∧ Lib.containsS keep s = false then none else f s) ∧ ((cleanF keep l D n).2.2 = n → ∀ s, f' s = f s) ∧ n ≤ (cleanF keep l D n).2.2
 | [], D, f, n, _, v, hA, _ => ⟨f, rfl, v, hA, fun s => by rw [if_neg (by simp)], fun _ s => rfl, Nat.le_refl _⟩
 |
  x :: r, D, f, n, hnd, v, hA, hin => by
  obtain ⟨hx, hr⟩ := List.nodup_cons.1 hnd
  obtain ⟨h1, h2⟩ := hin x (List.mem_cons_self ..)
  unfold cleanF
  by_cases hc : Lib.containsS keep (bs x) = true
  ·have hc' : Lib.containsS keep ⟨x.toArray⟩ = true := hc
   rw [if_pos hc']
   obtain ⟨f', a1, a2, a3, a4, a5, a6⟩ := cleanF_go keep r D f n hr v hA (fun s hs => hin s (List.mem_cons_of_mem _ hs))
   refine ⟨f', a1, a2, a3, fun s => ?_, a5, a6⟩
   rw [a4]
   by_cases e : s.data.toList = x
   ·have e : s = bs x := by rw [← e]; rfl
    subst e
    rw [hc, if_neg (by simp), if_neg (by simp)]
   ·have : (s.data.toList ∈ x :: r) ↔ s.data.toList ∈ r := by
     rw [List.mem_cons]
     exact ⟨fun hh => hh.resolve_left e, .inr⟩
    simp only [this]
  ·have hc0 : Lib.containsS keep (bs x) = false := by simpa using hc
   have hc' : ¬ Lib.containsS keep ⟨x.toArray⟩ = true := hc
   obtain ⟨k, hk⟩ := Option.isSome_iff_exists.1 h1
   obtain ⟨b1, b2, b3⟩ := remove_go v hA (by decide) h2 hk
   have b1' : (D.remove ⟨x.toArray⟩).2 = 0 := b1
   rw [if_neg hc', if_pos b1']
   have b2' : DV (D.remove ⟨x.toArray⟩).1 (upd f (bs x) none) h g L := b2
   have b3' : Ar (D.remove ⟨x.toArray⟩).1 (-1) 0 := b3
   have hne : ∀ s ∈ r, bs s ≠ bs x := fun s hs e => hx (by rw [← bs_inj e]; exact hs)
   obtain ⟨f', a1, a2, a3, a4, a5, a6⟩ := cleanF_go keep r _ _ (n + 1) hr b2' b3' (fun s hs => by
    rw [upd_other _ _ (hne s hs)]
    exact hin s (List.mem_cons_of_mem _ hs))
   refine ⟨f', a1, a2, a3, fun s => ?_, fun e => by omega, by omega⟩
   rw [a4]
   by_cases e : s.data.toList = x
   ·have e : s = bs x := by rw [← e]; rfl
    subst e
    rw [hc0, upd_same, if_pos (show (bs x).data.toList ∈ x :: r ∧ _ from ⟨by rw [bs_data]; exact List.mem_cons_self .., rfl⟩)]
    split <;> rfl
   ·have : (s.data.toList ∈ x :: r) ↔ s.data.toList ∈ r := by
     rw [List.mem_cons]
     exact ⟨fun hh => hh.resolve_left e, .inr⟩
    simp only [this]
    rw [upd_other _ _ (fun hh => e (by rw [hh, bs_data]))]
def keepF (keep : List ByteArray) (f : ByteArray → Option Int) : ByteArray → Option Int := fun s => if Lib.containsS keep s = true then f s else none
theorem clean_go (v : DV D f f g L) (hA : Ar D (-1) 0) (hn : Nmd f g) (hK : StrK D.names) {ss : List (List UInt8)} (hss : ss.Perm (strKeys D.names)) (hnd : (strKeys D.names).Nodup) (keep : List ByteArray) :
  (cleanD D ss keep).2 = 0 ∧ DV (cleanD D ss keep).1 (keepF keep f) (keepF keep f) g L ∧ Ar (cleanD D ss keep).1 (-1) 0 := by
 have hmem : ∀ s, s ∈ sortedN ss ↔ (f (bs s)).isSome = true := fun s => by
  show s ∈ sortS ss ↔ _
  rw [sortS_mem, hss.mem_iff, hK.mem, (v.n.2 _).1]
 have hnd' : (sortedN ss).Nodup := (List.Perm.nodup_iff ((List.mergeSort_perm _ _).trans hss)).2 hnd
 obtain ⟨f', a1, a2, a3, a4, a5, _⟩ := cleanF_go (h := f) (g := g) (L := L) keep (sortedN ss) D f 0 hnd' v hA (fun s hs => by
  have h1 := (hmem s).1 hs
  obtain ⟨k, hk⟩ := Option.isSome_iff_exists.1 h1
  exact ⟨h1, (hn _ _ hk).1⟩)
 have hf' : f' = keepF keep f := by
  funext s
  rw [a4]
  unfold keepF
  by_cases hc : Lib.containsS keep s = true
  ·rw [if_pos hc, if_neg (by rw [hc]; simp)]
  ·rw [if_neg hc]
   by_cases hm : s.data.toList ∈ sortedN ss
   ·rw [if_pos ⟨hm, by simpa using hc⟩]
   ·rw [if_neg (fun hh => hm hh.1)]
    have : ¬ (f (bs s.data.toList)).isSome = true := fun hh => hm ((hmem _).2 hh)
    have e : bs s.data.toList = s := rfl
    rw [e] at this
    simpa using this
 unfold cleanD
 rw [if_pos a1]
 by_cases h0 : (cleanF keep (sortedN ss) D 0).2.2 = 0
 ·rw [if_pos h0]
  have e2 : f = keepF keep f := by rw [← hf']; funext s; exact (a5 h0 s).symm
  refine ⟨rfl, ?_, a3⟩
  rw [hf'] at a2
  rw [← e2] at a2 ⊢
  exact a2
 ·rw [if_neg h0]
  rw [hf'] at a2
  obtain ⟨c1, c2, c3⟩ := syncDir_go a2 a3 (by decide)
  exact ⟨c1, c2, c3⟩
def wantN (keep : List ByteArray) (l : List (List UInt8)) : List (List UInt8) := l.filter fun s => Lib.containsS keep (bs s)
theorem sortedN_lt {l : List (List UInt8)} (h : l.Nodup) : (sortedN l).Pairwise fun x y => x < y := by
 have h1 : (sortedN l).Pairwise fun x y => x ≤ y := sortS_le l
 have h2 : (sortedN l).Nodup := (List.mergeSort_perm _ _).nodup_iff.2 h
 exact List.Pairwise.imp₂ (fun a b h1 h2 => sle_lt h1 h2) h1 h2
theorem list_want {E : DS H} {f' : ByteArray → Option Int} (hv : Vw D.names f) (hv' : Vw E.names f') (hK : StrK D.names) (hK' : StrK E.names) (hnd : (strKeys D.names).Nodup) (hnd' : (strKeys E.names).Nodup) {ss ss' : List (List UInt8)} (hss : ss.Perm (strKeys D.names)) (hss' : ss'.Perm (strKeys E.names)) (keep : List ByteArray)
  (hf : ∀ s, (f' s).isSome = (keepF keep f s).isSome) : sortedN ss' = wantN keep (sortedN ss) := by
 have h1 := sortedN_lt (hss.nodup_iff.2 hnd)
 have h2 := sortedN_lt (hss'.nodup_iff.2 hnd')
 refine slt_ext h2 (h1.filter _) fun x => ?_
 have e1 : x ∈ sortedN ss' ↔ (f' (bs x)).isSome = true := by
  show x ∈ sortS ss' ↔ _
  rw [sortS_mem, hss'.mem_iff, hK'.mem, (hv'.2 _).1]
 have e2 : x ∈ sortedN ss ↔ (f (bs x)).isSome = true := by
  show x ∈ sortS ss ↔ _
  rw [sortS_mem, hss.mem_iff, hK.mem, (hv.2 _).1]
 rw [e1, hf, wantN, List.mem_filter, e2]
 unfold keepF
 by_cases hc : Lib.containsS keep (bs x) = true
 ·rw [if_pos hc]; simp [hc]
 ·rw [if_neg hc]; simp [hc]
theorem restart_same (v : DV D f f g L) (hn : Nmd f g) {M : Nat} (hg : D.good M) (hN : Keyed' D.names) (loss : Int) :
  ∃ f' g' L', DV (D.restart loss) f' f' g' L' ∧ (∀ s, (f' s).isSome = (f s).isSome) ∧ ∀ s k, f' s = some k → nameB s = true ∧ (g' k).1 = s.data.toList := by
 obtain ⟨f', g', L', v', h1, h2⟩ := restart_dv v hg hN loss
 refine ⟨f', g', L', v', fun s => ?_, fun s k hk => ?_⟩
 ·cases e : f' s with
  |
   none =>
   rcases h2 s e with e' | e' <;> rw [e']
  |
   some k =>
   rcases (h1 s k e).1 with e' | e' <;> rw [e'] <;> rfl
 ·obtain ⟨e, m, m0, m1, hm⟩ := h1 s k hk
  have e : f s = some k := by rcases e with e | e <;> exact e
  obtain ⟨n1, n2⟩ := hn s k e
  rw [n2] at m0 m1 hm
  simp only at m0 m1 hm
  refine ⟨n1, ?_⟩
  rw [hm, List.take_of_length_le (by omega)]
theorem keepF_nmd (keep : List ByteArray) (hn : Nmd f g) : Nmd (keepF keep f) g := fun s k hk => by
 unfold keepF at hk
 split at hk
 ·exact hn s k hk
 ·cases hk
end
end Go.Proofs.YtkhemhiifhggmaaGreatDoor
namespace Go.Proofs.YtkhemhiifhggmaaGreatDoor
open Go.RowKit Go.Maps Go.Sort
set_option linter.unusedVariables false
theorem el_strs : Elem Tryz.prog 35 9 1 16 := Elem.mk_ Tryz.underlying35 (z := .string ⟨#[]⟩) (by kernel_rfl) rfl (by omega)
def segN (s : Sg) : List (List UInt8) := nameP 115 s.id :: if 0 < s.gen then [nameP 100 s.gen] else []
def filesR (n : Int) (l : List Sg) : List (List UInt8) := nameP 112 n :: l.flatMap segN
def filesZ (n : Int) (l : List Sg) : List (List UInt8) := Lib.compact (sortS (filesR n l))
theorem files_o (w W0 : World) (hb0 : Hid (Below w.heap.size w W0)) (hT : Tab w) (B : Nat) (hB : B ≤ w.heap.size) (nn : Int) (Ag : Option Addr) (ng cg : Nat) (l : List Sg) (HG : Hid (SegsIn w B Ag ng l)) (hng : ng ≤ 1099511627776) (HZ : Hid (∀ s ∈ l, (0 ≤ s.id ∧ s.id ≤ 999999999) ∧ 0 ≤ s.gen ∧ s.gen ≤ 999999999))
  (A : Option Addr) (m cp : Nat) (HL : Hid (W0.ownsRow w.heap.size 9 1 (.slice A m cp) m ([nameP 112 nn].map encStr)))
  (c0 c1 c2 c3 c4 c6 c8 c9 c10 c11 c34 c35 c36 c37 u7 u15 u16 u17 u18 u19 u20 u21 u22 u23 u24 u25 u26 u27 u28 u29 u30 u31 u32 u33 : Value) (Q0 : Exit → Act → World → Prop) (hQ0 : ∀ c (a a' : Act) w, a.defers = a'.defers → Q0 (.panic c) a w → Q0 (.panic c) a' w)
  (hexit : ∀ (V : World) (A : Option Addr) (m cp : Nat) (x14 u7 u15 u16 u17 u18 u19 u20 u21 u22 u23 u24 u25 u26 u27 u28 u29 u30 u31 u32 u33 : Value), Hid (m ≤ 2 * ng + 1) → Hid (Below w.heap.size w V) → Hid (V.ownsRow w.heap.size 9 1 (.slice A m cp) m ((filesR nn l).map encStr)) → Q0 (.exit 0) ⟨List.toArray (c0 :: c1 :: c2 :: c3 :: c4 :: .slice A m cp :: c6 :: u7 :: c8 :: c9 :: c10 :: c11 :: .slice Ag ng cg :: .int .i64 (ng : Int) :: x14 :: u15 :: u16 :: u17 :: u18 :: u19 :: u20 :: u21 :: u22 :: u23 :: u24 :: u25 :: u26 :: u27 :: u28 :: u29 :: u30 :: u31 :: u32 :: u33 :: c34 :: c35 :: c36 :: c37 :: []), []⟩ V) :
  Code.wp Tryz.prog (.loop (loopOf Tryz.f15 0)) Q0 ⟨List.toArray (c0 :: c1 :: c2 :: c3 :: c4 :: .slice A m cp :: c6 :: u7 :: c8 :: c9 :: c10 :: c11 :: .slice Ag ng cg :: .int .i64 (ng : Int) :: .int .i64 (0 : Int) :: u15 :: u16 :: u17 :: u18 :: u19 :: u20 :: u21 :: u22 :: u23 :: u24 :: u25 :: u26 :: u27 :: u28 :: u29 :: u30 :: u31 :: u32 :: u33 :: c34 :: c35 :: c36 :: c37 :: []), []⟩ W0 := by
 have hlen := HG.out.2
 conv => arg 2; arg 1; whnf
 go_loopw [5, 14] (fun rv iv wr => ∃ (i m cp : Nat) (A : Option Addr), i ≤ ng ∧ m ≤ 2 * i + 1 ∧ rv = .slice A m cp ∧ iv = .int .i64 (i : Int) ∧ Hid (Below w.heap.size w wr) ∧ Hid (wr.ownsRow w.heap.size 9 1 (.slice A m cp) m ((filesR nn (l.take i)).map encStr))) (fun _ iv _ => ng - (intOf iv).toNat)
 case atStart => exact ⟨0, m, cp, A, Nat.zero_le _, by have := HL.out.1; simp at this; omega, rfl, rfl, hb0, HL⟩
 case round =>
  clear HL hb0
  obtain ⟨i, m, cp, A, hi, hm, rfl, rfl, HB, HR⟩ := hrel
  by_cases hin : i < ng
  ·obtain ⟨s, hs⟩ : ∃ s, l[i]? = some s := ⟨l[i]'(by omega), List.getElem?_eq_getElem _⟩
   have hone : l.take (i + 1) = l.take i ++ [s] := by rw [List.take_add_one, hs]; rfl
   obtain ⟨b, off, rfl, hb, f0, f1, f2, f3⟩ := (HG.out.keep (HB.out.mono hB)).at_ hs
   have hz := HZ.out s (List.mem_of_getElem? hs)
   have HTw := Lib.hid (hT.below HB.out)
   obtain ⟨z0, z1, z2, z3⟩ := s
   dsimp only at f0 f1 f2 f3 hz
   have HO := Lib.hid hone
   clear hone hs
   have hpa := HB.out.trans ((bnew (brefl wr) (.cells #[.int .i64 z0, .int .i64 z1, .int .i64 z2, .int .i64 z3] 61)).mono HB.out.size)
   have HN1 := Lib.hid (pname_any _ (hT.below hpa) 115 z0 (by omega))
   obtain ⟨ns, hns⟩ : ∃ ns, nameP 115 z0 = ns := ⟨_, rfl⟩
   rw [hns] at HN1
   have HNS := Lib.hid hns
   have HX := Lib.hid (heap_alloc_new wr (.cells #[.int .i64 z0, .int .i64 z1, .int .i64 z2, .int .i64 z3] 61))
   have HPA := Lib.hid hpa
   clear hpa hns
   by_cases hgen : 0 < z2
   ·have q0 : decide (z2 > 0) = true := decide_eq_true hgen
    go_wp2_with fail
    refine HN1.out.mono ?_
    rintro e w1 ⟨rfl, hb1⟩
    have HW1 := Lib.hid (HPA.out.trans (hb1.mono HPA.out.size))
    have HR1 := Lib.hid (own_kept HR.out ((bnew (brefl wr) _).trans (hb1.mono (Below.size (bnew (brefl wr) _)))))
    have hx1 := (hb1.block _ (Array.getElem?_eq_some_iff.1 HX.out).1).trans HX.out
    have HX1 := Lib.hid hx1
    clear hb1 hx1
    go_wp2_with (at_builtin; refine wpList_pushm w w1 _ rfl _ _ _ rfl el_strs _ _ _ rfl HR1.out (m := 1) rfl (by simp) rfl (by simp [Value.oneCell']) (by unfold maxLen; omega) (by omega) HW1.out.size HW1.out ?_; intro v2 w2 hown9 hb9 hg9 hor9; obtain ⟨A2, p2, rfl, _⟩ := own_shape hown9; have HR2 := Lib.hid hown9; have HW2 := Lib.hid hb9; have bx : w2.heap[wr.heap.size]? = _ := (hg9.block _ (Array.getElem?_eq_some_iff.1 HX1.out).1 (fun e => by have := (HR.out.lt _ e.symm).2; omega)).trans HX1.out; have c2 := cell_of_row w2 wr.heap.size 2 _ _ (0, 0) bx; simp at c2; clear bx; clear hown9 hb9 hg9 hor9)
    have HN2 := Lib.hid (pname_any w2 (hT.below HW2.out) 100 z2 (by omega))
    obtain ⟨nd, hnd⟩ : ∃ nd, nameP 100 z2 = nd := ⟨_, rfl⟩
    rw [hnd] at HN2
    have HND := Lib.hid hnd
    have HNW : Hid ((filesR nn (l.take i)).map encStr ++ [.string ⟨ns.toArray⟩] ++ [.string ⟨nd.toArray⟩] = (filesR nn (l.take (i + 1))).map encStr) := by
     show _ = _
     rw [HO.out, filesR, filesR, List.flatMap_append, List.flatMap_singleton, segN, if_pos hgen, HNS.out, HND.out]
     simp [encStr]
    clear hnd
    refine HN2.out.mono ?_
    rintro e w3 ⟨rfl, hb3⟩
    have HW3 := Lib.hid (HW2.out.trans (hb3.mono HW2.out.size))
    have HR3 := Lib.hid (own_kept HR2.out hb3)
    clear hb3
    go_wp2_with (at_builtin; refine wpList_pushm w w3 _ rfl _ _ _ rfl el_strs _ _ _ rfl HR3.out (m := 1) rfl (by simp) rfl (by simp [Value.oneCell']) (by unfold maxLen; omega) (by omega) HW3.out.size HW3.out ?_; intro v4 w4 hown9 hb9 hg9 hor9; obtain ⟨A4, p4, rfl, _⟩ := own_shape hown9; have HR4 := Lib.hid hown9; have HW4 := Lib.hid hb9; clear hown9 hb9 hg9 hor9)
    go_roundw
    case rel => exact ⟨i + 1, m + 1 + 1, p4, A4, by omega, by omega, rfl, by go_num, HW4, Lib.hid (by rw [← HNW.out]; exact HR4.out)⟩
    case measure => simp [intOf]; omega
   ·have q0 : decide (z2 > 0) = false := decide_eq_false hgen
    go_wp2_with fail
    refine HN1.out.mono ?_
    rintro e w1 ⟨rfl, hb1⟩
    have HW1 := Lib.hid (HPA.out.trans (hb1.mono HPA.out.size))
    have HR1 := Lib.hid (own_kept HR.out ((bnew (brefl wr) _).trans (hb1.mono (Below.size (bnew (brefl wr) _)))))
    have hx1 := (hb1.block _ (Array.getElem?_eq_some_iff.1 HX.out).1).trans HX.out
    have HX1 := Lib.hid hx1
    clear hb1 hx1
    go_wp2_with (at_builtin; refine wpList_pushm w w1 _ rfl _ _ _ rfl el_strs _ _ _ rfl HR1.out (m := 1) rfl (by simp) rfl (by simp [Value.oneCell']) (by unfold maxLen; omega) (by omega) HW1.out.size HW1.out ?_; intro v2 w2 hown9 hb9 hg9 hor9; obtain ⟨A2, p2, rfl, _⟩ := own_shape hown9; have HR2 := Lib.hid hown9; have HW2 := Lib.hid hb9; have bx : w2.heap[wr.heap.size]? = _ := (hg9.block _ (Array.getElem?_eq_some_iff.1 HX1.out).1 (fun e => by have := (HR.out.lt _ e.symm).2; omega)).trans HX1.out; have c2 := cell_of_row w2 wr.heap.size 2 _ _ (0, 0) bx; simp at c2; clear bx; clear hown9 hb9 hg9 hor9)
    have HNW : Hid ((filesR nn (l.take i)).map encStr ++ [.string ⟨ns.toArray⟩] = (filesR nn (l.take (i + 1))).map encStr) := by
     show _ = _
     rw [HO.out, filesR, filesR, List.flatMap_append, List.flatMap_singleton, segN, if_neg (Int.not_lt.2 hgen), HNS.out]
     simp [encStr]
    go_roundw
    case rel => exact ⟨i + 1, m + 1, p2, A2, by omega, by omega, rfl, by go_num, HW2, Lib.hid (by rw [← HNW.out]; exact HR2.out)⟩
    case measure => simp [intOf]; omega
  ·obtain rfl : i = ng := by omega
   rw [List.take_of_length_le (by omega)] at HR
   go_wp2_with fail
   refine hexit _ _ _ _ _ _ _ _ _ _ _ _ _ _ _ _ _ _ _ _ _ _ _ _ _ ?_ HB HR
   exact Lib.hid hm
end Go.Proofs.YtkhemhiifhggmaaGreatDoor
