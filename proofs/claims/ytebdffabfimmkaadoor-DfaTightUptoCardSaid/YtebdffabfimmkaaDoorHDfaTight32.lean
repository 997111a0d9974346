/- The reference's Tight. -/
import Derived.Test.YtebdffabfimmkaaDoorHDfaTight23
import Derived.Test.YtebdffabfimmkaaDoorHDfaTight25
import Derived.Test.YtebdffabfimmkaaDoorHDfaTight26
import Derived.Test.YtebdffabfimmkaaDoorHDfaTight31
import Derived.Test.YtebdffabfimmkaaDoorHDfaTight19
namespace Go.Proofs.YtebdffabfimmkaaDoor
open Go.RowKit Go.Maps

set_option maxRecDepth 100000 in
set_option maxHeartbeats 8000000 in
theorem reftight_bad (w : World) (B : Nat) (hB : B ≤ w.heap.size) (A : Option Addr) (n c : Nat) (H : List Lsh) (h : LoIn w B A n c H) (hg : looseB (H.map (·.d)) = false) (most : Int) :
    Calls Tryd.prog 16 #[.slice A n c, .int .i64 most] w fun e w' => e = .returned (.tuple #[.slice none 0 0, .int .i64 3]) ∧ Below w.heap.size w w' := by
  have HS := Lib.hid h
  have HG := Lib.hid hg
  clear h hg
  go_enter Tryd.func16, Tryd.ntmps16
  go_wp2_with fail
  refine (may_any w B hB A n c H HS.out).mono ?_
  rintro e w1 ⟨rfl, hb1⟩
  rw [HG.out]
  have HB1 := Lib.hid hb1
  clear hb1
  go_wp2_with fail
  go_ret2
  exact ⟨rfl, HB1.out⟩
set_option maxRecDepth 100000 in
set_option maxHeartbeats 8000000 in
theorem reftight_any (w : World) (B : Nat) (hB : B ≤ w.heap.size) (A : Option Addr) (n c : Nat) (H : List Lsh) (h : LoIn w B A n c H) (hg : LGood (H.map (·.d))) (most : Int) (hm : most ≤ 20000) :
    Calls Tryd.prog 16 #[.slice A n c, .int .i64 most] w fun e w' =>
      ((∃ f, most < (((subW (H.map (·.d))).run f 0 [setL n (Clo (H.map (·.d)) fun x => x = 0)]).length : Nat)) ∧ e = .returned (.tuple #[.slice none 0 0, .int .i64 8]) ∧ Below w.heap.size w w') ∨
      ((∀ f, (((subW (H.map (·.d))).run f 0 [setL n (Clo (H.map (·.d)) fun x => x = 0)]).length : Nat) ≤ most) ∧ ∃ v hs d, e = .returned (.tuple #[v, .int .i64 0]) ∧ OwnSts w' w.heap.size v hs ∧ LeastIs (auOf d) 0 (hs.map (·.d)) ∧ Leq (auOf d) 0 ⟨finS (H.map (·.d)), stepS (H.map (·.d))⟩ (setL n (Clo (H.map (·.d)) fun x => x = 0)) ∧ hs.length ≤ d.length ∧ d.length ≤ 20000 ∧ Below w.heap.size w w') := by
  have HS := Lib.hid h
  have hlen := h.len
  have hcm := h.cm
  obtain ⟨l, hl⟩ : ∃ l, H.map (·.d) = l := ⟨_, rfl⟩
  have HD := Lib.hid hl
  have hll : l.length = n := by rw [← hl, List.length_map]; exact hlen
  have HLL := Lib.hid hll
  rw [hl] at hg ⊢
  have HG := Lib.hid hg
  have hnp : 0 < n := by rw [← hll]; exact List.length_pos_iff.2 hg.ne
  have HLO : Hid (looseB l = true) := (loose_iff _).2 hg
  have hmk := make_bool n (by omega)
  clear h hg hl hll
  go_enter Tryd.func16, Tryd.ntmps16
  go_wp2_with fail
  refine (may_any w B hB A n c H HS.out).mono ?_
  rintro e w2 ⟨rfl, hb2⟩
  rw [HD.out, HLO.out]
  have HB2 := Lib.hid hb2
  have hbs2 := hb2.size
  have HS2 := Lib.hid (HS.out.keep (hb2.mono hB) (Nat.le_refl _))
  clear hb2
  have HR1 : Hid (SpR w2 (w2.alloc (.cells (madeCells #[.bool false] n) 4)) w2.heap.size n n (List.replicate n false)) := ⟨by
    have h1 := own_made w2 (.bool false) n (by omega) 4 rfl (Nat.le_refl w2.heap.size)
    rw [List.map_replicate]
    exact h1, bnew (brefl w2) _⟩
  have HR2 := Lib.hid (HR1.out.set 0 true)
  have o0 := HR1.out.get (t := 0) (b := false) (by rw [List.getElem?_replicate, if_pos hnp])
  have hfz := HR2.out.2.1
  have how := HR2.out.2.2
  have hn2 : (0 : Int) < (n : Int) := by omega
  obtain ⟨W1, hW1⟩ : ∃ W1, w2.alloc (.cells (madeCells #[.bool false] n) 4) = W1 := ⟨_, rfl⟩
  obtain ⟨o, ho⟩ : ∃ o, Obj.cells (madeCells #[.bool false] n) 4 = o := ⟨_, rfl⟩
  rw [ho] at hmk HR1 HR2 o0 hfz how
  have hsz : (w2.alloc o).heap.size = w2.heap.size + 1 := by simp
  clear ho hW1
  go_wp2_with fail
  obtain ⟨ob, hob⟩ : ∃ k, w2.heap.size = k := ⟨_, rfl⟩
  rw [hob] at HR1 HR2 o0 hfz how
  rw [hob]
  have HB3 := Lib.hid HR2.out.1.bel
  have HSX := Lib.hid (Sl.of_own HR2.out.1.own)
  have hbs3 : w2.heap.size ≤ ((w2.alloc o).setCell ⟨ob, 0, none⟩ (.bool true)).heap.size := HR2.out.1.bel.size
  generalize (w2.alloc o).setCell ⟨ob, 0, none⟩ (.bool true) = w3 at *
  clear HR1 HR2 o0 hfz how hmk hsz
  refine (spread_any w3 B (by omega) A n c H (HS2.out.keep (HB3.out.mono (by omega)) (Nat.le_refl _)) (by rw [HD.out]; exact HG.out) (some ⟨ob, 0, none⟩) n ((List.replicate n false).set 0 true) HSX.out (fun h => by cases h)).mono ?_
  rintro e w4 ⟨A4, c4, rfl, hown4, hb4⟩
  rw [HD.out] at hown4
  have hst := set0_start HG.out
  rw [HLL.out] at hst
  rw [hst] at hown4
  have hsl0 : (set0 l).length = n := by unfold set0; rw [charL_len, HLL.out]
  have HW4 := Lib.hid hown4
  have HBX := Lib.hid (bcall HB2.out HB3.out)
  have HB34 := Lib.hid hb4
  have hb34 := hb4.size
  have hbs4 : w2.heap.size ≤ w4.heap.size := Nat.le_trans hbs3 hb4.size
  have HSL := Lib.hid hsl0
  have hbx := HBX.out.size
  clear hown4 hb4 hst hsl0
  have HS3 := Lib.hid (HS.out.keep (HBX.out.mono hB) (Nat.le_refl _))
  have HM1 : Hid (SetsR w3 (w4.alloc (.cells #[.slice A4 n c4] 68)) n (some ⟨w4.heap.size, 0, none⟩) 1 1 [⟨A4, c4, set0 l⟩]) := by
    have e1 : (⟨A4, c4, set0 l⟩ : Br).val = .slice A4 n c4 := by unfold Br.val; rw [HSL.out]
    refine ⟨?_, ?_, fun x hx => by rw [List.mem_singleton.1 hx]; exact HSL.out⟩
    · rw [List.map_cons, e1]
      exact own_lower (own_new w4 #[.slice A4 n c4] 68 1 1 rfl (by unfold maxLen; omega) rfl (Nat.le_refl _)) (by omega)
    · refine ⟨fun x hx => ?_, List.pairwise_singleton _ _⟩
      rw [List.map_cons, List.map_nil] at hx
      rw [List.mem_singleton.1 hx]
      show (w4.alloc _).ownsRow _ _ _ (⟨A4, c4, set0 l⟩ : Br).val (set0 l).length _
      rw [e1, HSL.out]
      exact own_kept HW4.out (bnew (brefl w4) _)
  have HO1 := Lib.hid (((OutR.start w3).keep HB34.out).keep (bnew (brefl w4) (.cells #[.slice A4 n c4] 68)))
  have HP1 : Hid (ByA (boolW l) (finB l) (set0 l) 0 ([(⟨A4, c4, set0 l⟩ : Br)].map (·.l)) (([] : List Sh).map (·.d)) ∧ ([] : List Sh).length = 0) := ⟨ByA.start _ _ _, rfl⟩
  have HI1 : Hid (0 < 1 ∨ ((1 : Nat) : Int) ≤ most) := .inl (by omega)
  go_wp2_with fail
  go_loopw [7, 8, 9] (fun fv ov iv wr => ∃ (i m cs co : Nat) (As Ao : Option Addr) (R : List Br) (hs : List Sh), i ≤ m ∧ fv = .slice As m cs ∧ ov = .slice Ao i co ∧ iv = .int .i64 i ∧ Hid (OutR w3 wr Ao i co hs) ∧ Hid (SetsR w3 wr n As m cs R) ∧ Hid (ByA (boolW l) (finB l) (set0 l) i (R.map (·.l)) (hs.map (·.d)) ∧ hs.length = i) ∧ Hid (i < m ∨ (m : Int) ≤ most)) (fun _ _ iv _ => most.toNat - (intOf iv).toNat)
  case atStart => exact ⟨0, 1, 1, 0, some ⟨w4.heap.size, 0, none⟩, none, [⟨A4, c4, set0 l⟩], [], Nat.zero_le _, rfl, rfl, rfl, HO1, HM1, HP1, HI1⟩
  case round =>
    clear HO1 HM1 HP1 HI1 HSX HW4 HSL
    obtain ⟨i, m, cs, co, As, Ao, R, hs, him, rfl, rfl, rfl, HO, HM, HP, HI⟩ := hrel
    have hml := HM.out.len
    have HB5 := Lib.hid (bcall HBX.out HO.out.bel)
    by_cases hlt : i < m
    · have him2 : (i : Int) < (m : Int) := by omega
      by_cases hmo : most < (m : Int)
      · have HF : Hid (∃ f, most < (((subW l).run f 0 [setL n (Clo l fun x => x = 0)]).length : Nat)) := ⟨i, by rw [← HLL.out, ← set0_len HG.out i, ← HP.out.1.run, List.length_map, hml]; exact hmo⟩
        have q0 : decide ((m : Int) > most) = true := decide_eq_true hmo
        clear HP HI HO HM
        go_wp2_with fail
        go_ret2
        exact .inl ⟨HF.out, rfl, HB5.out⟩
      · have q0 : decide ((m : Int) > most) = false := decide_eq_false hmo
        obtain ⟨x, hx⟩ : ∃ x, R[i]? = some x := ⟨R[i]'(by omega), List.getElem?_eq_getElem _⟩
        have HX := Lib.hid hx
        obtain ⟨g, rfl, hg1, hg2⟩ := own_head HM.out.out (by omega)
        have hxl := HM.out.all x (List.mem_of_getElem? hx)
        have m0 := own_cell HM.out.out (j := i) (u := x.val) (by rw [List.getElem?_map, hx]; rfl)
        unfold Br.val at m0
        rw [hxl] at m0
        have hxr := HM.out.fam.own x.row (List.mem_map.2 ⟨x, List.mem_of_getElem? hx, rfl⟩)
        have hxo : Sl wr wr.heap.size 1 x.A n (x.l.map .bool) := by rw [← hxl]; exact Sl.of_own hxr
        have hxc : n ≤ x.c := by
          obtain ⟨A3, c3, e3, hc3⟩ := own_shape hxr
          have e3 : Value.slice x.A x.l.length x.c = .slice A3 x.l.length c3 := e3
          injection e3 with _ _ e3
          have hc3 : x.l.length ≤ c3 := hc3
          omega
        have HXO := Lib.hid hxo
        have hos := HO.out.bel.size
        clear hx hxl hxr hxo
        go_wp2_with fail
        refine (ends_any wr B (by omega) A n c H (HS3.out.keep (HO.out.bel.mono (by omega)) (Nat.le_refl _)) x.A x.c x.l HXO.out hxc).mono ?_
        rintro e w5 ⟨rfl, hb5⟩
        rw [HD.out]
        obtain ⟨fin, hfin⟩ : ∃ f, endB l (fun y => x.l[y]? = some true) = f := ⟨_, rfl⟩
        have HFX : Hid (finB l x.l = fin) := hfin
        rw [hfin]
        have HC0 : Hid (TsC w3 (w5.alloc (.cells #[.bool fin, .slice none 0 0] 39)) l n w5.heap.size fin Ao i co hs x.l 0 R (some ⟨g, 0, none⟩) m cs R none 0 0 []) := ⟨(HO.out.keep hb5).open_ fin, (HM.out.keep hb5).keep (bnew (brefl w5) _), ⟨[], by simp⟩, ByP.start _ _ _, Nat.le_refl _, by omega, fun a ha => absurd ha List.not_mem_nil⟩
        have hR0 : R.length ≤ 1048576 := by omega
        clear hfin hb5 hxc HXO
        go_wp2_with fail
        refine tight_c w3 _ B (by omega) A n c H HS3 l HD HG HLL hcm i x w5.heap.size fin Ao i co hs R HX hR0 (some ⟨g, 0, none⟩) m cs HC0 _ _ _ _ _ _ _ _ _ _ _ _ _ _ _ _ _ _ _ _ _ _ _ _ _ _ _ _ _ _ _ _ _ _ _ _ _ _ _ _ _ _ _ _ _ _ _ _ _ _ _ _ _ _ _ _ _ _ _ _ _ _ _ _ _ _ _ _ _ _ _ _ _ _ _ (fun c a a' w hd h => by cases a; cases a'; cases hd; exact h) ?_
        intro As m cs R2 Ac pc cc arcs W x11 u12 u13 u43 u44 u45 u46 u47 u48 u49 u50 u51 u52 u53 u54 u55 u56 u57 u58 u59 u60 u61 u62 u63 u64 u65 u66 u67 u68 u69 u70 u71 u72 HC
        obtain ⟨s0, s1, s2, s3⟩ := HC.out.gr.cells
        have HOO := Lib.hid HC.out.gr.out
        have HBL := Lib.hid HC.out.gr.bel
        have hbs6 := HBL.out.size
        clear HC0 m0 HO HM hg2
        go_wp2_with (at_builtin; refine wpList_push w3 W _ rfl _ _ _ rfl el_state _ _ _ rfl HOO.out rfl (by simp) rfl (by simp [Value.oneCell']) (by unfold maxLen; omega) (by omega) hbs6 HBL.out ?_; intro v9 w9 hown9 _ hg9 hor9; obtain ⟨A9, c9, rfl, _⟩ := own_shape hown9; have HO9 := Lib.hid hown9; have HG9 := Lib.hid hg9; clear hown9 hg9 hor9)
        have HCL := Lib.hid (HC.out.gr.close HG9.out HO9.out)
        have HMN := Lib.hid (HC.out.sets.states HCL.out.2)
        have HON := Lib.hid HCL.out.1
        have HPN : Hid (ByA (boolW l) (finB l) (set0 l) (i + 1) (R2.map (·.l)) ((hs ++ [(⟨(fin, arcs), Ac, cc⟩ : Sh)]).map (·.d)) ∧ (hs ++ [(⟨(fin, arcs), Ac, cc⟩ : Sh)]).length = i + 1) := by
          refine ⟨?_, by rw [List.length_append, HP.out.2]; rfl⟩
          rw [List.map_append]
          have h1 := HP.out.1.step (x := x.l) (by rw [List.getElem?_map, HX.out]; rfl) HC.out.by_
          rw [HFX.out] at h1
          exact h1
        have him3 : i + 1 ≤ m := by
          have h1 := HPN.out.1.le
          rw [List.length_map, HC.out.sets.len] at h1
          exact h1
        have HIN : Hid (i + 1 < m ∨ (m : Int) ≤ most) := by
          by_cases e1 : i + 1 < m
          · exact .inl e1
          · refine .inr ?_
            have h2 : R.length ≤ R2.length := by
              obtain ⟨more, h3⟩ := HC.out.pre
              rw [h3, List.length_append]
              omega
            have h5 := HC.out.sets.len
            omega
        clear HCL HC HG9 HO9 s0 s1 s2 s3 HOO HP
        go_wp2_with fail
        go_roundw
        case rel => exact ⟨i + 1, m, cs, c9, As, A9, R2, _, him3, rfl, rfl, by go_num, HON, HMN, HPN, HIN⟩
        case measure => simp [intOf]; omega
    · obtain rfl : i = m := by omega
      have q0 : decide ((i : Int) < (i : Int)) = false := decide_eq_false (by omega)
      have hmm : (i : Int) ≤ most := by
        rcases HI.out with h1 | h1
        · omega
        · exact h1
      have hpl : (R.map (·.l)).length ≤ i := by rw [List.length_map, hml]; exact Nat.le_refl _
      have HGD := Lib.hid (HP.out.1.good hpl (by rw [List.length_map]; omega))
      have HLQ : Hid (Leq (auOf (hs.map (·.d))) 0 ⟨finS l, stepS l⟩ (setL n (Clo l fun x => x = 0))) := by
        have h1 := (HP.out.1.leq (boolW_plain l) hpl).trans (set0_leq HG.out)
        rw [HLL.out] at h1
        exact h1
      have HFF : Hid (∀ f, (((subW l).run f 0 [setL n (Clo l fun x => x = 0)]).length : Nat) ≤ most) := fun f => by
        have h1 := HP.out.1.fewer hpl f
        rw [List.length_map, set0_len HG.out f, HLL.out] at h1
        omega
      have HOS := Lib.hid (HO.out.sts HP.out.2)
      have HSI := Lib.hid (HOS.out.sts HP.out.2 (by omega) (fun x hx => by
        have h1 := HGD.out.asc x.d (List.mem_map_of_mem hx)
        have := asc_few h1
        omega))
      have HDN : Hid ((hs.map (·.d)).length = i) := by show _ = _; rw [List.length_map]; exact HP.out.2
      clear HI HP HO HM hpl
      go_wp2_with fail
      refine (refleast_any wr wr.heap.size (Nat.le_refl _) Ao i co hs HSI.out HGD.out).mono ?_
      rintro e w9 ⟨v9, hs9, rfl, hown9, hl9, hle9, hb9⟩
      have HO9 := Lib.hid hown9
      have HL9 := Lib.hid hl9
      have HB9 := Lib.hid hb9
      clear hown9 hl9 hb9
      go_wp2_with fail
      go_ret2
      exact .inr ⟨HFF.out, v9, hs9, hs.map (·.d), rfl, HO9.out.lower HB5.out.size, HL9.out, HLQ.out, by rw [HDN.out]; exact hle9, by rw [HDN.out]; omega, bcall HB5.out HB9.out⟩
end Go.Proofs.YtebdffabfimmkaaDoor
/- A state's text says what it is told apart by (plain Lean). -/
namespace Go.Proofs.YtebdffabfimmkaaDoor
open Go.RowKit

def valD (l : List UInt8) : Nat := l.foldl (fun a c => a * 10 + (c.toNat - 48)) 0
theorem val_dec : ∀ u : Nat, valD (Lib.decDigits u) = u := by
  intro u
  induction u using Nat.strongRecOn with
  | ind u ih =>
    rw [Lib.decDigits]
    split
    · rename_i h
      unfold valD
      simp
      omega
    · rename_i h
      have h1 := ih (u / 10) (by omega)
      unfold valD at h1 ⊢
      rw [List.foldl_append, h1]
      simp
      omega
theorem dec_inj {u v : Nat} (h : Lib.decDigits u = Lib.decDigits v) : u = v := by
  rw [← val_dec u, h, val_dec]
theorem dec_mem : ∀ u : Nat, ∀ c ∈ Lib.decDigits u, 48 ≤ c.toNat ∧ c.toNat ≤ 57 := by
  intro u
  induction u using Nat.strongRecOn with
  | ind u ih =>
    rw [Lib.decDigits]
    split
    · rename_i h
      intro c hc
      rw [List.mem_singleton.1 hc]
      simp
      omega
    · rename_i h
      intro c hc
      rcases List.mem_append.1 hc with hc | hc
      · exact ih (u / 10) (by omega) c hc
      · rw [List.mem_singleton.1 hc]
        simp
        omega
theorem dec_ne (u : Nat) : Lib.decDigits u ≠ [] := by
  rw [Lib.decDigits]
  split <;> simp
def isD (c : UInt8) : Bool := decide (48 ≤ c.toNat ∧ c.toNat ≤ 57)
theorem itoa_nat {z : Int} (h : 0 ≤ z) : Lib.itoa z = Lib.decDigits z.toNat := by
  unfold Lib.itoa
  rw [if_neg (by omega)]
/-- Empty, or it begins with no digit. -/
def Stop (r : List UInt8) : Prop := r = [] ∨ ∃ c t, r = c :: t ∧ isD c = false
theorem digits_cut : ∀ {a b r s : List UInt8}, (∀ x ∈ a, isD x = true) → (∀ x ∈ b, isD x = true) → Stop r → Stop s → a ++ r = b ++ s → a = b ∧ r = s
  | [], [], _, _, _, _, _, _, h => ⟨rfl, h⟩
  | [], y :: b, r, s, _, hb, hr, _, h => by
    rcases hr with rfl | ⟨c, t, rfl, hc⟩
    · cases h
    · injection h with h1 _
      have := hb y (List.mem_cons_self ..)
      rw [← h1, hc] at this
      cases this
  | x :: a, [], r, s, ha, _, _, hs, h => by
    rcases hs with rfl | ⟨c, t, rfl, hc⟩
    · cases h
    · injection h with h1 _
      have := ha x (List.mem_cons_self ..)
      rw [h1, hc] at this
      cases this
  | x :: a, y :: b, r, s, ha, hb, hr, hs, h => by
    injection h with h1 h2
    obtain ⟨e1, e2⟩ := digits_cut (fun z hz => ha z (List.mem_cons_of_mem _ hz)) (fun z hz => hb z (List.mem_cons_of_mem _ hz)) hr hs h2
    exact ⟨by rw [h1, e1], e2⟩
theorem itoa_dig {z : Int} (h : 0 ≤ z) : ∀ x ∈ Lib.itoa z, isD x = true := by
  rw [itoa_nat h]
  intro x hx
  have := dec_mem _ x hx
  unfold isD
  exact decide_eq_true this
theorem itoa_inj {a b : Int} (ha : 0 ≤ a) (hb : 0 ≤ b) (h : Lib.itoa a = Lib.itoa b) : a = b := by
  rw [itoa_nat ha, itoa_nat hb] at h
  have := dec_inj h
  omega
/-- Numbers, then something that is no digit. -/
theorem num_cut {a b : Int} (ha : 0 ≤ a) (hb : 0 ≤ b) {r s : List UInt8} (hr : Stop r) (hs : Stop s) (h : Lib.itoa a ++ r = Lib.itoa b ++ s) : a = b ∧ r = s := by
  obtain ⟨h1, h2⟩ := digits_cut (itoa_dig ha) (itoa_dig hb) hr hs h
  exact ⟨itoa_inj ha hb h1, h2⟩
theorem stop_cons {c : UInt8} {t : List UInt8} (h : isD c = false) : Stop (c :: t) := .inr ⟨c, t, rfl, h⟩
def Pos3 (a : Arc3) : Prop := 0 ≤ a.1 ∧ 0 ≤ a.2.1 ∧ 0 ≤ a.2.2
theorem arcs_stop : ∀ l : List Arc3, Stop (l.flatMap arcT)
  | [] => .inl rfl
  | a :: r => by
    rw [List.flatMap_cons]
    exact stop_cons (by decide)
theorem arcs_inj : ∀ {l l' : List Arc3}, (∀ a ∈ l, Pos3 a) → (∀ a ∈ l', Pos3 a) → l.flatMap arcT = l'.flatMap arcT → l = l'
  | [], [], _, _, _ => rfl
  | [], b :: r, _, _, h => by
    rw [List.flatMap_cons] at h
    cases h
  | a :: r, [], _, _, h => by
    rw [List.flatMap_cons] at h
    cases h
  | a :: r, b :: s, ha, hb, h => by
    rw [List.flatMap_cons, List.flatMap_cons] at h
    obtain ⟨p1, p2, p3⟩ := ha a (List.mem_cons_self ..)
    obtain ⟨q1, q2, q3⟩ := hb b (List.mem_cons_self ..)
    unfold arcT at h
    simp only [List.cons_append, List.append_assoc] at h
    injection h with _ h
    obtain ⟨e1, h⟩ := num_cut p1 q1 (stop_cons (by decide)) (stop_cons (by decide)) h
    injection h with _ h
    obtain ⟨e2, h⟩ := num_cut p2 q2 (stop_cons (by decide)) (stop_cons (by decide)) h
    injection h with _ h
    obtain ⟨e3, h⟩ := num_cut p3 q3 (arcs_stop r) (arcs_stop s) h
    rw [arcs_inj (fun x hx => ha x (List.mem_cons_of_mem _ hx)) (fun x hx => hb x (List.mem_cons_of_mem _ hx)) h]
    congr 1
    exact Prod.ext e1 (Prod.ext e2 e3)
/-- The text says the class, whether it is final, and the arcs. -/
theorem sigT_inj {c c' : Int} {f f' : Bool} {l l' : List Arc3} (hc : 0 ≤ c) (hc' : 0 ≤ c') (hl : ∀ a ∈ l, Pos3 a) (hl' : ∀ a ∈ l', Pos3 a) (h : sigT c f l = sigT c' f' l') : c = c' ∧ f = f' ∧ l = l' := by
  unfold sigT at h
  rw [List.append_assoc, List.append_assoc] at h
  have stop : ∀ (f : Bool) (l : List Arc3), Stop ((if f then [33] else []) ++ l.flatMap arcT) := by
    intro f l
    cases f
    · exact arcs_stop l
    · exact stop_cons (by decide)
  obtain ⟨e1, h2⟩ := num_cut hc hc' (stop f l) (stop f' l') h
  refine ⟨e1, ?_⟩
  have hne : ∀ (l l' : List Arc3), (33 : UInt8) :: l.flatMap arcT ≠ l'.flatMap arcT := by
    intro l l' e
    cases l' with
    | nil => cases e
    | cons b s =>
      rw [List.flatMap_cons] at e
      unfold arcT at e
      injection e with e _
      exact absurd e (by decide)
  cases f <;> cases f'
  · exact ⟨rfl, arcs_inj hl hl' h2⟩
  · exact absurd h2.symm (hne l' l)
  · exact absurd h2 (hne l l')
  · refine ⟨rfl, arcs_inj hl hl' ?_⟩
    simpa using h2
theorem sigT_ne (c : Int) (f : Bool) (l : List Arc3) (hc : 0 ≤ c) : sigT c f l ≠ [] := by
  unfold sigT
  rw [itoa_nat hc]
  intro h
  have h1 := List.append_eq_nil_iff.1 h
  have h2 := List.append_eq_nil_iff.1 h1.1
  exact dec_ne _ h2.1
end Go.Proofs.YtebdffabfimmkaaDoor
