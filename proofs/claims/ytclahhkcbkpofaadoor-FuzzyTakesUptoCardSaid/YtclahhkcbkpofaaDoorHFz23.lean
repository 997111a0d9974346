/- dfa.sign: what a state is told apart by, as a text. -/
import Derived.Test.YtclahhkcbkpofaaDoorHFz13
import Derived.Test.YtclahhkcbkpofaaDoorHFz22
import Derived.Test.YtclahhkcbkpofaaDoorHFz15
import Derived.WalkArith
namespace Go.Proofs.YtclahhkcbkpofaaDoor
open Go.RowKit
theorem asc_len {l : List Arc3} : ∀ n : Nat, Asc l n → l.length ≤ n := by
  induction l using rev_ind with
  | h0 => intro n _; exact Nat.zero_le _
  | h1 l a ih =>
    intro n h
    have ha := h.ok a (by simp)
    obtain ⟨k, hk⟩ := Int.eq_ofNat_of_zero_le ha.1
    have := ih k ⟨h.pre.lt, fun b hb => ⟨(h.pre.ok b hb).1, (h.pre.ok b hb).2.1, by rw [← hk]; exact (List.pairwise_append.1 h.lt).2.2 b hb a (by simp)⟩⟩
    rw [List.length_append, List.length_singleton]
    omega
theorem asc_few {l : List Arc3} (h : Asc l 256) : l.length ≤ 256 := asc_len 256 h
def arcT (a : Arc3) : List UInt8 := 44 :: (Lib.itoa a.1 ++ 45 :: (Lib.itoa a.2.1 ++ 58 :: Lib.itoa a.2.2))
/-- The text of a state that lives. -/
def sigT (cls : Int) (fin : Bool) (l : List Arc3) : List UInt8 := Lib.itoa cls ++ (if fin then [33] else []) ++ l.flatMap arcT
theorem SgR.writeb {w W : World} {b : Nat} {l : List UInt8} (h : SgR w W b l) (hb0 : 0 < b) (c : UInt8) (hl : l.length + 1 ≤ 1407374883553) :
    Calls Tryd.prog 57 #[.pointer (some ⟨b, 0, none⟩), .int .u8 (c.toNat : Nat)] W fun e w' => e = .returned .nilIface ∧ SgR w w' b (l ++ [c]) ∧ Below b W w' ∧ OthersStand b W w' := by
  refine (writeb_any b b (Lib.byteCells l) (c.toNat : Nat) W h.sb (by rw [Lib.byteCells_length]; exact hl) (Nat.le_of_lt h.lt)).mono ?_
  rintro e w' ⟨rfl, h1, h2, h3⟩
  refine ⟨rfl, ⟨?_, h.tab.keep hb0 h2, h.bel.trans (h2.mono h.le), h.le, Nat.lt_of_lt_of_le h.lt h2.size⟩, h2, h3⟩
  have e1 : Lib.byteCells l ++ [.int .u8 (c.toNat : Nat)] = Lib.byteCells (l ++ [c]) := by
    simp [Lib.byteCells]
  unfold Sb
  rw [← e1]
  exact h1
/-- .. with a row of arcs beside. -/
structure SgM (w W : World) (b : Nat) (l : List UInt8) (v : Value) (p : Nat) (L : List Arc3) : Prop where
  r : SgR w W b l
  own : W.ownsRow w.heap.size 63 3 v p (arcsC L)
theorem SgM.keep {w W W' : World} {b : Nat} {l : List UInt8} {v : Value} {p : Nat} {L : List Arc3} (h : SgM w W b l v p L) (hb : Below W.heap.size W W') : SgM w W' b l v p L := ⟨h.r.keep hb, own_kept h.own hb⟩
theorem sb_block {w : World} {B b : Nat} {l : List UInt8} (h : Sb w B b l) : ∃ cs, w.heap[b]? = some (.cells cs 93 (0, 0)) := by
  rcases h with ⟨_, v, h2, _⟩ | ⟨_, v, h2, _⟩
  · exact ⟨_, h2⟩
  · exact ⟨_, h2⟩
theorem SgM.stand {w W W' : World} {b : Nat} {l l' : List UInt8} {v : Value} {p : Nat} {L : List Arc3} (h : SgM w W b l v p L) (hr : SgR w W' b l') (ho : OthersStand b W W') : SgM w W' b l' v p L := by
  refine ⟨hr, h.own.1, ?_⟩
  rcases h.own.2 with hn | ⟨g, cap, cur, rfl, hg, hh, rest⟩
  · exact .inl hn
  · refine .inr ⟨g, cap, cur, rfl, hg, ho g _ _ _ ?_ (by decide) hh, rest⟩
    intro e
    subst e
    obtain ⟨cs, h2⟩ := sb_block h.r.sb
    rw [hh] at h2
    injection h2 with h2
    injection h2 with _ h2 _
    exact absurd h2 (by decide)
/-- .. and one arc in a block of its own. -/
structure SgY (w W : World) (b : Nat) (l : List UInt8) (v : Value) (p : Nat) (L : List Arc3) (n : Nat) (a : Arc3) : Prop where
  m : SgM w W b l v p L
  blk : W.heap[n]? = some (.cells #[.int .i64 a.1, .int .i64 a.2.1, .int .i64 a.2.2] 63 (0, 0))
section
variable {w W W' : World} {b n p : Nat} {l : List UInt8} {v : Value} {L : List Arc3} {a : Arc3}
theorem SgY.keep (h : SgY w W b l v p L n a) (hb : Below W.heap.size W W') : SgY w W' b l v p L n a := ⟨h.m.keep hb, (hb.block n (Array.getElem?_eq_some_iff.1 h.blk).1).trans h.blk⟩
theorem SgY.cells (h : SgY w W b l v p L n a) : W.cell? ⟨n, 0, none⟩ = some (.int .i64 a.1) ∧ W.cell? ⟨n, 1, none⟩ = some (.int .i64 a.2.1) ∧ W.cell? ⟨n, 2, none⟩ = some (.int .i64 a.2.2) :=
  ⟨cell_of_row _ n 0 _ _ (0, 0) h.blk, cell_of_row _ n 1 _ _ (0, 0) h.blk, cell_of_row _ n 2 _ _ (0, 0) h.blk⟩
theorem SgY.write (h : SgY w W b l v p L n a) (hn : n ≠ b) (hb0 : 0 < b) (s : List UInt8) (S : ByteArray) (hS : S = ⟨s.toArray⟩) (hl : l.length + s.length ≤ 4611686018427) :
    Calls Tryd.prog 55 #[.pointer (some ⟨b, 0, none⟩), .string S] W fun e w' => e = .returned (.tuple #[.int .i64 S.size, .nilIface]) ∧ SgY w w' b (l ++ s) v p L n a := by
  subst hS
  refine (h.m.r.write hb0 s hl).mono ?_
  rintro e w' ⟨rfl, h1, _, h3⟩
  exact ⟨rfl, h.m.stand h1 h3, h3 n _ _ _ hn (by decide) h.blk⟩
end
theorem arcT_len {a : Arc3} (h : (0 ≤ a.1 ∧ a.1 ≤ 1000000) ∧ (0 ≤ a.2.1 ∧ a.2.1 ≤ 1000000) ∧ (0 ≤ a.2.2 ∧ a.2.2 ≤ 1000000)) : (arcT a).length ≤ 66 := by
  have l1 := Lib.itoa_length_le a.1 (by omega) (by omega)
  have l2 := Lib.itoa_length_le a.2.1 (by omega) (by omega)
  have l3 := Lib.itoa_length_le a.2.2 (by omega) (by omega)
  simp [arcT]
  omega
theorem arcsT_len {l : List Arc3} (h : ∀ a ∈ l, (0 ≤ a.1 ∧ a.1 ≤ 1000000) ∧ (0 ≤ a.2.1 ∧ a.2.1 ≤ 1000000) ∧ (0 ≤ a.2.2 ∧ a.2.2 ≤ 1000000)) : (l.flatMap arcT).length ≤ 66 * l.length := by
  induction l with
  | nil => simp
  | cons x r ih =>
    have h1 := arcT_len (h x (List.mem_cons_self ..))
    have h2 := ih fun y hy => h y (List.mem_cons_of_mem _ hy)
    rw [List.flatMap_cons, List.length_append, List.length_cons]
    omega
theorem led_in {L : List Bool} {C : List Int} {l : List Arc3} (hasc : Asc l 256) (hcp : ∀ x ∈ C, 0 ≤ x ∧ x ≤ 1000000) : ∀ a ∈ ledA (ledF L C) l, (0 ≤ a.1 ∧ a.1 ≤ 1000000) ∧ (0 ≤ a.2.1 ∧ a.2.1 ≤ 1000000) ∧ (0 ≤ a.2.2 ∧ a.2.2 ≤ 1000000) := by
  intro a ha
  have he := ledA_runs (ledF L C) l 256 hasc
  rw [he] at ha
  have h1 := (runs_asc (fun c : Nat => (lookA l c).bind (ledF L C)) 256).1.ok a ha
  obtain ⟨c, k, _, hg, hk⟩ := runs_mem _ 256 a ha
  have hk2 : 0 ≤ a.2.2 ∧ a.2.2 ≤ 1000000 := by
    obtain ⟨t, _, h2⟩ := Option.bind_eq_some_iff.1 hg
    unfold ledF at h2
    split at h2
    · injection h2 with h2
      rw [hk, ← h2]
      have : 0 ≤ C.getD t.toNat 0 ∧ C.getD t.toNat 0 ≤ 1000000 := by
        rw [List.getD_eq_getElem?_getD]
        cases hx : C[t.toNat]? with
        | none => exact ⟨by simp, by simp⟩
        | some x => exact hcp x (List.mem_of_getElem? hx)
      omega
    · cases h2
  have h256 : a.2.1 < 256 := h1.2.2
  exact ⟨by omega, by omega, hk2⟩
set_option maxRecDepth 100000 in
set_option maxHeartbeats 8000000 in
theorem dsign_any (w : World) (B : Nat) (hB : B ≤ w.heap.size) (A : Option Addr) (n c : Nat) (H : List Sh) (h : StsIn w B A n c H) (hn : n ≤ 1000000)
    (Al : Option Addr) (cl : Nat) (L : List Bool) (hL : Bools w B Al n L) (Ac : Option Addr) (cc : Nat) (C : List Int) (hC : Ints w B Ac n C) (hcp : ∀ x ∈ C, 0 ≤ x ∧ x ≤ 1000000)
    (i : Nat) (x : Sh) (hx : H[i]? = some x) (hasc : Asc x.d.2 256) (hto : ∀ a ∈ x.d.2, 0 ≤ a.2.2 ∧ a.2.2 < (n : Int)) (ht : Tab w) (cv : Int) (hcv : C[i]? = some cv) (lv : Bool) (hlv : L[i]? = some lv) :
    Calls Tryd.prog 62 #[.slice A n c, .slice Al n cl, .slice Ac n cc, .int .i64 i] w fun e w' => e = .returned (.string ⟨(if lv then sigT cv x.d.1 (ledA (ledF L C) x.d.2) else []).toArray⟩) ∧ Below w.heap.size w w' := by
  have HS := Lib.hid h
  have HL := Lib.hid hL
  have HC := Lib.hid hC
  have HT := Lib.hid ht
  have hin : i < n := by rw [← h.len]; exact (List.getElem?_eq_some_iff.1 hx).1
  obtain ⟨lb, loff, rfl, hlb, hlc⟩ := hL.at_ (by omega)
  obtain ⟨cb, coff, rfl, hcb, hcc⟩ := hC.at_ (by omega)
  have l0 := hlc i lv hlv
  have c0 := hcc i cv hcv
  have hcvb := hcp cv (List.mem_of_getElem? hcv)
  have i0 : (0 : Int) ≤ (i : Int) := by omega
  have i1 : (i : Int) < (n : Int) := by omega
  have hcbw : cb < w.heap.size := Nat.lt_of_lt_of_le hcb hB
  have hlbw : lb < w.heap.size := Nat.lt_of_lt_of_le hlb hB
  have HASC := Lib.hid hasc
  have HTO := Lib.hid hto
  have HCP := Lib.hid hcp
  have HX := Lib.hid hx
  clear hasc hto hcp
  cases lv with
  | false =>
    clear h hL hC ht hlc hcc hcv hlv hx
    go_enter Tryd.func62, Tryd.ntmps62
    go_wp2_with fail
    go_ret
    exact ⟨rfl, brefl w⟩
  | true =>
    have HI := Lib.hid (itoa_any cv (by omega) (by omega))
    have li := Lib.itoa_length_le cv (by omega) (by omega)
    have hb0 := ht.lt
    have HB0 := Lib.hid hb0
    have HST := Lib.hid (SgR.start w HT.out (brefl w) rfl)
    obtain ⟨b0, off0, hA0, hbB, hcell⟩ := h.at_ (by omega)
    obtain ⟨x0, x1⟩ := hcell i x hx
    subst hA0
    obtain ⟨hcv0, hcv1⟩ := hcvb
    clear h hL hC ht hlc hcc hcv hlv hcell hx
    go_enter Tryd.func62, Tryd.ntmps62
    go_wp2_with fail
    refine (HI.out _ HST.out.tab).mono ?_
    rintro e w1 ⟨rfl, hb1⟩
    have H1 := Lib.hid (HST.out.keep hb1)
    clear hb1 HST HI l0 c0
    obtain ⟨N, hN⟩ : ∃ N, w.heap.size = N := ⟨_, rfl⟩
    rw [hN] at H1 HB0
    have HN := Lib.hid hN
    rw [hN]
    clear hN
    go_wp2_with fail
    refine (SgR.write H1.out HB0.out _ (by simp; omega)).mono ?_
    rintro e w2 ⟨rfl, h2, hb2, ho2⟩
    rw [List.nil_append] at h2
    have H2 := Lib.hid h2
    clear h2 hb2 ho2 H1
    have hd0 := (H2.out.bel.cell (p := ⟨b0, off0 + i * 2, none⟩) (Nat.lt_of_lt_of_le hbB hB)).trans x0
    have hd1 := (H2.out.bel.cell (p := ⟨b0, off0 + i * 2 + 1, none⟩) (Nat.lt_of_lt_of_le hbB hB)).trans x1
    clear x0 x1
    obtain ⟨fin, hfin⟩ : ∃ f, x.d.1 = f := ⟨_, rfl⟩
    rw [hfin] at hd0
    have HFIN := Lib.hid hfin
    clear hfin
    obtain ⟨hd, hhd⟩ : ∃ l : List UInt8, Lib.itoa cv ++ (if fin then [33] else []) = l := ⟨_, rfl⟩
    have HHD := Lib.hid hhd
    clear hhd
    have hmx := (HS.out.ar x (List.mem_of_getElem? HX.out)).2
    obtain ⟨m, hm⟩ : ∃ m, x.d.2.length = m := ⟨_, rfl⟩
    have HM := Lib.hid hm
    rw [hm] at hd1 hmx
    have hm256 : m ≤ 256 := by rw [← hm]; exact asc_few HASC.out
    clear hm
    by_cases hf : fin = true
    focus
      subst hf
      go_wp2_with fail
      refine (SgR.writeb H2.out HB0.out 33 (by omega)).mono ?_
      rintro e w3 ⟨rfl, h3, hb3, ho3⟩
      have H3 : Hid (SgR w w3 N hd) := by rw [← HHD.out]; exact h3
      have hd1 := (H3.out.bel.cell (p := ⟨b0, off0 + i * 2 + 1, none⟩) (Nat.lt_of_lt_of_le hbB hB)).trans ((H2.out.bel.cell (p := ⟨b0, off0 + i * 2 + 1, none⟩) (Nat.lt_of_lt_of_le hbB hB)).symm.trans hd1)
      clear h3 hb3 ho3 H2 hd0
      go_wp2_with fail
    rotate_left
    focus
      rw [Bool.not_eq_true] at hf
      subst hf
      have H3 : Hid (SgR w w2 N hd) := by rw [← HHD.out]; simpa using H2
      clear H2
      go_wp2_with fail
    rotate_left
    all_goals
      have HLK := Lib.hid (HL.out.keep (H3.out.bel.mono hB) (Nat.le_refl _))
      have HCK := Lib.hid (HC.out.keep (H3.out.bel.mono hB) (Nat.le_refl _))
      have HAK : Hid (ArcsIn _ B x.A m x.c x.d.2) := ⟨HM.out, by rw [← HM.out]; exact ((HS.out.ar x (List.mem_of_getElem? HX.out)).1.below (H3.out.bel.mono hB)), by omega⟩
      refine (merged_any _ B (Nat.le_trans hB H3.out.bel.size) x.A m x.c x.d.2 HAK.out HASC.out (by omega) _ n cl L HLK.out _ cc C HCK.out HTO.out (fun y hy => (HCP.out y hy).1)).mono ?_
      rintro e w4 ⟨v4, rfl, hown4, hb4⟩
      have HO4 := Lib.hid (own_lower hown4 H3.out.bel.size)
      have HN4 := Lib.hid (ledA_len (ledF L C) x.d.2)
      have HSM : Hid (SgM w w4 N hd v4 (ledA (ledF L C) x.d.2).length (ledA (ledF L C) x.d.2)) := ⟨H3.out.keep hb4, HO4.out⟩
      obtain ⟨A4, c4, rfl, _⟩ := own_shape hown4
      clear hown4 hb4 H3 HO4 HLK HCK HAK hd1
      have HIN := Lib.hid (led_in (L := L) (C := C) HASC.out HCP.out)
      have HRES : Hid (sigT cv x.d.1 (ledA (ledF L C) x.d.2) = hd ++ (ledA (ledF L C) x.d.2).flatMap arcT) := by
        show _ = _
        rw [← HHD.out, HFIN.out]
        rfl
      have hlhd : hd.length ≤ 22 := by
        rw [← HHD.out, List.length_append]
        refine Nat.le_trans (Nat.add_le_add li (?_ : _ ≤ 1)) (by decide : 21 + 1 ≤ 22)
        first | (simp; done) | (split <;> simp)
      go_wp2_with fail
      obtain ⟨LL, hLL⟩ : ∃ l, ledA (ledF L C) x.d.2 = l := ⟨_, rfl⟩
      rw [hLL] at HSM HIN HN4 HRES ⊢
      obtain ⟨p, hp⟩ : ∃ p, LL.length = p := ⟨_, rfl⟩
      rw [hp] at HSM HN4 ⊢
      have hp256 : p ≤ 256 := Nat.le_trans HN4.out (by rw [HM.out]; exact hm256)
      have HRL := Lib.hid hLL
      clear hLL
      have H00 : Hid (SgM w w4 N (hd ++ (LL.take 0).flatMap arcT) (.slice A4 p c4) p LL) := by simpa using HSM
      go_loopw [38] (fun iv wr => ∃ k : Nat, k ≤ p ∧ iv = .int .i64 k ∧ Hid (SgM w wr N (hd ++ (LL.take k).flatMap arcT) (.slice A4 p c4) p LL)) (fun iv _ => p - (intOf iv).toNat)
      case atStart => exact ⟨0, Nat.zero_le _, rfl, H00⟩
      case round =>
        clear H00 HSM
        obtain ⟨k, hk, rfl, HR⟩ := hrel
        by_cases hlt : k < p
        · obtain ⟨y, hy⟩ : ∃ y, LL[k]? = some y := ⟨LL[k]'(by omega), List.getElem?_eq_getElem _⟩
          obtain ⟨g, rfl, hbg, hgl⟩ := own_head HR.out.own (by omega)
          have gg : ∀ j u, (arcC y)[j]? = some u → j < 3 → wr.cell? ⟨g, k * 3 + j, none⟩ = some u := fun j u hu hj => by
            have := HR.out.own.cells (g := g) rfl (k * 3 + j) u (by unfold arcsC; rw [flat_at arcC 3 (fun _ => rfl) LL k j y hy hj]; exact hu)
            rwa [Addr.add_lit, Nat.zero_add] at this
          have g0 := gg 0 _ rfl (by omega)
          have g1 := gg 1 _ rfl (by omega)
          have g2 := gg 2 _ rfl (by omega)
          rw [Nat.add_zero] at g0
          obtain ⟨⟨o1, o2⟩, ⟨o3, o4⟩, ⟨o5, o6⟩⟩ := HIN.out y (List.mem_of_getElem? hy)
          have hlw : (arcT y).length ≤ 66 := arcT_len ⟨⟨o1, o2⟩, ⟨o3, o4⟩, ⟨o5, o6⟩⟩
          have HNX : Hid (hd ++ (LL.take (k + 1)).flatMap arcT = (hd ++ (LL.take k).flatMap arcT) ++ arcT y) := by
            show _ = _
            rw [List.take_add_one, hy, List.flatMap_append]
            simp
          have hlen : (hd ++ (LL.take k).flatMap arcT).length ≤ 300000000000 := by
            have := arcsT_len (l := LL.take k) (fun z hz => HIN.out z (List.mem_of_mem_take hz))
            rw [List.length_take] at this
            rw [List.length_append]
            omega
          obtain ⟨x1, x2, x3⟩ := y
          simp only at o1 o2 o3 o4 o5 o6 g0 g1 g2
          have l1 := Lib.itoa_length_le x1 (by omega) (by omega)
          have l2 := Lib.itoa_length_le x2 (by omega) (by omega)
          have l3 := Lib.itoa_length_le x3 (by omega) (by omega)
          obtain ⟨S1, hj1⟩ : ∃ S : ByteArray, ⟨(Lib.itoa x1).toArray⟩ = S := ⟨_, rfl⟩
          obtain ⟨S2, hj2⟩ : ∃ S : ByteArray, ⟨(Lib.itoa x2).toArray⟩ = S := ⟨_, rfl⟩
          obtain ⟨S3, hj3⟩ : ∃ S : ByteArray, ⟨(Lib.itoa x3).toArray⟩ = S := ⟨_, rfl⟩
          have z1 : S1.size ≤ 21 := by rw [← hj1, size_mk]; exact l1
          have z2 : S2.size ≤ 21 := by rw [← hj2, size_mk]; exact l2
          have z3 : S3.size ≤ 21 := by rw [← hj3, size_mk]; exact l3
          obtain ⟨T1, t1⟩ : ∃ T : ByteArray, (⟨#[44]⟩ : ByteArray) ++ S1 = T := ⟨_, rfl⟩
          obtain ⟨T2, t2⟩ : ∃ T : ByteArray, T1 ++ (⟨#[45]⟩ : ByteArray) = T := ⟨_, rfl⟩
          obtain ⟨T3, t3⟩ : ∃ T : ByteArray, T2 ++ S2 = T := ⟨_, rfl⟩
          obtain ⟨T4, t4⟩ : ∃ T : ByteArray, T3 ++ (⟨#[58]⟩ : ByteArray) = T := ⟨_, rfl⟩
          obtain ⟨T5, t5⟩ : ∃ T : ByteArray, T4 ++ S3 = T := ⟨_, rfl⟩
          have y1 : T1.size ≤ 22 := by rw [← t1, ByteArray.size_append]; show 1 + _ ≤ _; omega
          have y2 : T2.size ≤ 23 := by rw [← t2, ByteArray.size_append]; show _ + 1 ≤ _; omega
          have y3 : T3.size ≤ 44 := by rw [← t3, ByteArray.size_append]; omega
          have y4 : T4.size ≤ 45 := by rw [← t4, ByteArray.size_append]; show _ + 1 ≤ _; omega
          have HW : Hid (T5 = ⟨(arcT (x1, x2, x3)).toArray⟩) := by
            show _ = _
            rw [← t5, ← t4, ← t3, ← t2, ← t1, ← hj1, ← hj2, ← hj3]
            apply ByteArray.ext
            simp [arcT]
          have d1 : ∀ w : World, (Op.stringOp .add (⟨#[44]⟩ : ByteArray) S1).run Tryd.prog w = .ok (.string T1) w := fun w => by rw [← t1]; exact run_string_add_sum w _ _ (by show 1 + _ ≤ _; omega)
          have d2 : ∀ w : World, (Op.stringOp .add T1 (⟨#[45]⟩ : ByteArray)).run Tryd.prog w = .ok (.string T2) w := fun w => by rw [← t2]; exact run_string_add_sum w _ _ (by show _ + 1 ≤ _; omega)
          have d3 : ∀ w : World, (Op.stringOp .add T2 S2).run Tryd.prog w = .ok (.string T3) w := fun w => by rw [← t3]; exact run_string_add_sum w _ _ (by omega)
          have d4 : ∀ w : World, (Op.stringOp .add T3 (⟨#[58]⟩ : ByteArray)).run Tryd.prog w = .ok (.string T4) w := fun w => by rw [← t4]; exact run_string_add_sum w _ _ (by show _ + 1 ≤ _; omega)
          have d5 : ∀ w : World, (Op.stringOp .add T4 S3).run Tryd.prog w = .ok (.string T5) w := fun w => by rw [← t5]; exact run_string_add_sum w _ _ (by omega)
          have HJ1 := Lib.hid hj1
          have HJ2 := Lib.hid hj2
          have HJ3 := Lib.hid hj3
          have HO1 : Hid (x1 ≤ 1000000 ∧ x2 ≤ 1000000 ∧ x3 ≤ 1000000 ∧ 0 ≤ x1 ∧ 0 ≤ x2 ∧ 0 ≤ x3) := ⟨o2, o4, o6, o1, o3, o5⟩
          clear t1 t2 t3 t4 t5 y1 y2 y3 y4 z1 z2 z3 l1 l2 l3 hj1 hj2 hj3 o1 o2 o3 o4 o5 o6
          generalize arcT (x1, x2, x3) = wt at *
          clear gg hy
          go_wp2_with fail
          have H0 : Hid (SgY w (wr.alloc (.cells #[.int .i64 x1, .int .i64 x2, .int .i64 x3] 63)) N (hd ++ (LL.take k).flatMap arcT) (.slice (some ⟨g, 0, none⟩) p c4) p LL wr.heap.size (x1, x2, x3)) := ⟨HR.out.keep (bnew (brefl wr) _), heap_alloc_new wr _⟩
          have hnew : wr.heap.size ≠ N := by have := HR.out.r.lt; omega
          have k0 := H0.out.cells
          have K0 := Lib.hid k0
          simp only at k0 K0
          generalize wr.alloc (.cells #[.int .i64 x1, .int .i64 x2, .int .i64 x3] 63) = W1 at *
          generalize wr.heap.size = n5 at *
          obtain ⟨k1, k2, k3⟩ := k0
          generalize hd ++ (LL.take k).flatMap arcT = acc at *
          go_region_held3 (fun w' => w'.cell? ⟨n5, 0, none⟩ = some (.int .i64 x1) ∧ w'.cell? ⟨n5, 1, none⟩ = some (.int .i64 x2) ∧ w'.cell? ⟨n5, 2, none⟩ = some (.int .i64 x3))
            (first
              | assumption
              | exact K0.out
              | (refine (SgY.keep H0.out ?_).cells; first | exact brefl _ | exact (brefl _).drew | exact (brefl _).drew.drew | exact (brefl _).drew.drew.drew)
              | (refine (SgY.keep H1.out ?_).cells; first | exact brefl _ | exact (brefl _).drew | exact (brefl _).drew.drew | exact (brefl _).drew.drew.drew)
              | (refine (SgY.keep H2'.out ?_).cells; first | exact brefl _ | exact (brefl _).drew | exact (brefl _).drew.drew | exact (brefl _).drew.drew.drew)
              | (refine (SgY.keep H3.out ?_).cells; first | exact brefl _ | exact (brefl _).drew | exact (brefl _).drew.drew | exact (brefl _).drew.drew.drew)
              | exact H4.out.cells)
            (first
              | (go_at_call 56; refine (itoa_any x1 (by have := HO1.out; omega) (by have := HO1.out; omega) _ (SgY.keep H0.out (by repeat (first | exact brefl _ | refine Below.drew ?_))).m.r.tab).mono ?_; rw [HJ1.out]; rintro e wI ⟨rfl, hbI⟩; have H1 := Lib.hid ((SgY.keep H0.out (by repeat (first | exact brefl _ | refine Below.drew ?_))).keep hbI))
              | (go_at_call 56; refine (itoa_any x2 (by have := HO1.out; omega) (by have := HO1.out; omega) _ (SgY.keep H1.out (by repeat (first | exact brefl _ | refine Below.drew ?_))).m.r.tab).mono ?_; rw [HJ2.out]; rintro e wJ ⟨rfl, hbJ⟩; have H2' := Lib.hid ((SgY.keep H1.out (by repeat (first | exact brefl _ | refine Below.drew ?_))).keep hbJ))
              | (go_at_call 56; refine (itoa_any x3 (by have := HO1.out; omega) (by have := HO1.out; omega) _ (SgY.keep H2'.out (by repeat (first | exact brefl _ | refine Below.drew ?_))).m.r.tab).mono ?_; rw [HJ3.out]; rintro e wK ⟨rfl, hbK⟩; have H3 := Lib.hid ((SgY.keep H2'.out (by repeat (first | exact brefl _ | refine Below.drew ?_))).keep hbK))
              | (go_at_call 55; refine (SgY.write (SgY.keep H3.out (by repeat (first | exact brefl _ | refine Below.drew ?_))) hnew HB0.out wt T5 HW.out (by omega)).mono ?_; rintro e wS ⟨rfl, hS⟩; have H4 := Lib.hid hS))
          all_goals
            go_wp2_with fail
            go_roundw
            case rel => exact ⟨k + 1, by omega, by go_num, by rw [HNX.out]; exact Lib.hid H4.out.m⟩
            case measure => simp [intOf]; omega
        · obtain rfl : k = p := by omega
          have hall : LL.take k = LL := List.take_of_length_le (by omega)
          rw [hall] at HR
          go_wp2_with fail
          refine (Tryd.Builder_String_any _ _ _ _ HR.out.r.sb (Nat.le_of_lt HR.out.r.lt)).mono ?_
          rintro e w5 ⟨rfl, hb5⟩
          go_wp2_with fail
          go_ret
          refine ⟨?_, HR.out.r.bel.trans (hb5.mono HR.out.r.le)⟩
          have hE : (⟨(sigT cv x.d.1 (ledA (ledF L C) x.d.2)).toArray⟩ : ByteArray) = ⟨(hd ++ LL.flatMap arcT).toArray⟩ := by rw [HRL.out, HRES.out]
          exact congrArg (fun z => Ending.returned (Value.string z)) hE.symm
end Go.Proofs.YtclahhkcbkpofaaDoor
/- Maps from numbers to numbers, in memory. -/
namespace Go.Proofs.YtclahhkcbkpofaaDoor
open Go.RowKit Go.Maps
theorem lawI : Keyed Tryd.prog 3 := int_keyed Tryd.underlying3
abbrev iiMap {H : Type} (w : World) (b n : Nat) (N : DataW H) : Prop := w.ownsMap Tryd.prog 3 (plainElem Tryd.prog 3) b n N
/-- What the map has at a number; 0 if there is nothing. -/
def numI {H : Type} (N : DataW H) (k : Int) : Int := intOfD (N.atKey (.int .i64 k) (.lit (.int .i64 0)))
def hasI {H : Type} (N : DataW H) (k : Int) : Bool := Maps.has N (.int .i64 k)

set_option maxRecDepth 100000 in
theorem look_ii {H : Type} {w : World} {b n : Nat} {N : DataW H} (h : iiMap w b n N) (k : Int) (h0 : -9223372036854775808 ≤ k) (h1 : k ≤ 9223372036854775807) :
    (Instr.lookup 118 (.map (some b)) (.int .i64 k) true).run Tryd.prog w = .ok (.tuple #[.int .i64 (numI N k), .bool (hasI N k)]) w := by
  obtain ⟨v, ps, hrun, hR⟩ := h.look_ok lawI Tryd.underlying118 (zeroI w) (plainElem_int Tryd.underlying3 (a := 0) (by decide)) (keyOf_int_mk Tryd.underlying3 (WalkArith.wf_i64 ⟨h0, h1⟩))
  obtain ⟨c, rfl, hc, hw⟩ := plainElem_int_inv Tryd.underlying3 hR
  injection hc with hc _
  have e : numI N k = c := by
    unfold numI
    rw [hc]
    rfl
  rw [e]
  exact hrun
set_option maxRecDepth 100000 in
theorem look_ii1 {H : Type} {w : World} {b n : Nat} {N : DataW H} (h : iiMap w b n N) (k : Int) (h0 : -9223372036854775808 ≤ k) (h1 : k ≤ 9223372036854775807) :
    (Instr.lookup 118 (.map (some b)) (.int .i64 k) false).run Tryd.prog w = .ok (.int .i64 (numI N k)) w := by
  obtain ⟨c, hrun, hc, _⟩ := h.lookup_int lawI Tryd.underlying118 Tryd.underlying3 (zeroI w) (keyOf_int_mk Tryd.underlying3 (WalkArith.wf_i64 ⟨h0, h1⟩))
  have e : numI N k = c := by
    unfold numI
    rw [hc]
    rfl
  rw [e]
  exact hrun
theorem numI_put {N : DataW Unit} (h : IsMap N) (k z j : Int) : numI (N.put (.int .i64 k) (.lit (.int .i64 z))) j = if j = k then z else numI N j := by
  unfold numI
  by_cases e : j = k
  · rw [if_pos e, e, atKey_put_same h (by simp [Go.WideAt.IsKeyLit])]
    rfl
  · rw [if_neg e, atKey_put_other (by simpa using e)]
theorem hasI_put {N : DataW Unit} (h : IsMap N) (k z j : Int) : hasI (N.put (.int .i64 k) (.lit (.int .i64 z))) j = (decide (j = k) || hasI N j) := by
  unfold hasI
  by_cases e : j = k
  · rw [e, has_put_same h (by simp [Go.WideAt.IsKeyLit])]
    simp
  · rw [has_put_other (by simpa using e)]
    simp [e]
theorem mapI_keep {w w' : World} {b n : Nat} {N : DataW Unit} (h : iiMap w b n N) (hb : Below w.heap.size w w') : iiMap w' b n N := h.kept (grown_below hb) (by simp)
end Go.Proofs.YtclahhkcbkpofaaDoor
