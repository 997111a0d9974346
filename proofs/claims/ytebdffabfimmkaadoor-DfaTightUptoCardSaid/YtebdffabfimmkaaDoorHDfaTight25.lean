/- The reference's apart. -/
import Derived.Test.YtebdffabfimmkaaDoorHDfaTight24
import Derived.Test.YtebdffabfimmkaaDoorHDfaTight12
import Derived.Test.YtebdffabfimmkaaDoorHDfaTight15
namespace Go.Proofs.YtebdffabfimmkaaDoor
open Go.RowKit Go.Maps

theorem make_boolss (n : Nat) (hn : n ≤ 1099511627776) (w : World) : (Instr.makeSlice 70 (.int .i64 (n : Int)) (.int .i64 (n : Int))).run Tryd.prog w = .ok (.slice (some ⟨w.heap.size, 0, none⟩) n n) (w.alloc (.cells (madeCells #[.slice none 0 0] n) 68)) :=
  run_make_row' 70 68 (.slice none 0 0) 24 Tryd.underlying70 (by kernel_rfl) rfl .i64 .i64 n (by omega) (by omega) w
def Br.nil : Br := ⟨none, 0, []⟩
theorem GFam.nils (W : World) (base e s : Nat) : ∀ n, GFam W base e s (List.replicate n GRow.nil)
  | 0 => GFam.nil W base e s
  | n + 1 => by
    rw [List.replicate_succ]
    exact (GFam.nils W base e s n).cons_nil
theorem ApR.start (w : World) (n : Nat) (hn : n ≤ 1099511627776) : ApR w (w.alloc (.cells (madeCells #[.slice none 0 0] n) 68)) w.heap.size n n (List.replicate n Br.nil) := by
  refine ⟨?_, ?_, bnew (brefl w) _⟩
  · rw [List.map_replicate]
    exact own_made w (.slice none 0 0) n hn 68 rfl (Nat.le_refl w.heap.size)
  · rw [List.map_replicate]
    exact GFam.nils _ _ _ _ n
theorem ini_start {d : List St} {n : Nat} (h : d.length = n) : IniP d ((List.replicate n Br.nil).map (·.l)) 0 0 := .start (by rw [List.length_map, List.length_replicate, h])
/-- Rows to come are nothing yet. -/
def NilFrom (R : List Br) (i : Nat) : Prop := ∀ (j : Nat) x, i ≤ j → R[j]? = some x → x.A = none
set_option maxRecDepth 100000 in
set_option maxHeartbeats 8000000 in
theorem apart_any (w : World) (B : Nat) (hB : B ≤ w.heap.size) (A : Option Addr) (n c : Nat) (H : List Sh) (h : StsIn w B A n c H) (hg : Good (H.map (·.d))) (Ag : Option Addr) (cg : Nat) (L : List Bool) (hL : Sl w w.heap.size 1 Ag n (L.map .bool)) (hgo : Gone (H.map (·.d)) L) :
    Calls Tryd.prog 39 #[.slice A n c, .slice Ag n cg] w fun e w' => ∃ ob oc R, e = .returned (.slice (some ⟨ob, 0, none⟩) n oc) ∧ ApR w w' ob oc n R ∧ (∀ x ∈ R, x.l.length = n) ∧ Far (H.map (·.d)) (R.map (·.l)) := by
  have HS := Lib.hid h
  have HL := Lib.hid hL
  have hlen := h.len
  obtain ⟨d, hd⟩ : ∃ d, H.map (·.d) = d := ⟨_, rfl⟩
  have HD := Lib.hid hd
  have hll : d.length = n := by rw [← hd, List.length_map]; exact hlen
  have HLL := Lib.hid hll
  rw [hd] at hg hgo ⊢
  have HG := Lib.hid hg
  have HGo := Lib.hid hgo
  have hcm : n ≤ 20000 := by rw [← hll]; exact hg.few
  have hmk := make_boolss n (by omega)
  have HR1 := Lib.hid (ApR.start w n (by omega))
  have HI1 := Lib.hid (ini_start hll)
  have HN1 : Hid (NilFrom (List.replicate n Br.nil) 0) := fun j x _ hx => by
    rw [List.getElem?_replicate] at hx
    split at hx
    · injection hx with hx
      rw [← hx]
      rfl
    · cases hx
  clear h hL hg hgo hd hll
  go_enter Tryd.func39, Tryd.ntmps39
  go_wp2_with fail
  generalize w.alloc (.cells (madeCells #[.slice none 0 0] n) 68) = w1 at *
  obtain ⟨ob, hob⟩ : ∃ k, w.heap.size = k := ⟨_, rfl⟩
  have HR2 : Hid (ApR w w1 ob n n (List.replicate n Br.nil)) := by rw [← hob]; exact HR1.out
  rw [hob]
  clear HR1 hmk hob
  generalize List.replicate n Br.nil = R0 at *
  go_loopw [6] (fun iv wr => ∃ (i : Nat) (R : List Br), i ≤ n ∧ iv = .int .i64 i ∧ Hid (ApR w wr ob n n R) ∧ Hid (IniP d (R.map (·.l)) i 0) ∧ Hid (NilFrom R i)) (fun iv _ => n - (intOf iv).toNat)
  case atStart => exact ⟨0, R0, Nat.zero_le _, rfl, HR2, HI1, HN1⟩
  case round =>
    clear HR2 HI1 HN1
    obtain ⟨i, R, hi, rfl, HR, HI, HN⟩ := hrel
    by_cases hin : i < n
    · have hRn := HR.out.len
      obtain ⟨r, hr⟩ : ∃ r, R[i]? = some r := ⟨R[i]'(by omega), List.getElem?_eq_getElem _⟩
      have hrA := HN.out i r (Nat.le_refl _) hr
      obtain ⟨o0, o1, o2⟩ := HR.out.row hr
      have hi2 : (i : Int) < (n : Int) := by omega
      have hbs := HR.out.bel.size
      have hmk := make_bool n (by omega)
      obtain ⟨o, ho⟩ : ∃ o, Obj.cells (madeCells #[.bool false] n) 4 = o := ⟨_, rfl⟩
      have HRM := Lib.hid (HR.out.make hr hrA (by omega) ho)
      rw [ho] at hmk
      have HRP : Hid (IniR d (R.set i ⟨some ⟨wr.heap.size, 0, none⟩, n, List.replicate n false⟩) (R.set i ⟨some ⟨wr.heap.size, 0, none⟩, n, List.replicate n false⟩) n i 0) := by
        refine ⟨?_, ⟨_, List.getElem?_set_self (List.getElem?_eq_some_iff.1 hr).1, List.length_replicate ..⟩, fun _ _ => rfl⟩
        rw [List.map_set]
        exact HI.out.make _
      have HN2 : Hid (NilFrom (R.set i ⟨some ⟨wr.heap.size, 0, none⟩, n, List.replicate n false⟩) (i + 1)) := fun j x hj hx => by
        rw [List.getElem?_set_ne (by omega)] at hx
        exact HN.out j x (by omega) hx
      rw [hrA] at o0
      generalize r.l.length = rl at o0
      generalize hR1 : R.set i ⟨some ⟨wr.heap.size, 0, none⟩, n, List.replicate n false⟩ = R1 at *
      clear hR1 hr hrA HR HI HN ho
      go_wp2_with fail
      refine apart_j w _ B hB A n c H HS d HD hlen hcm i hin ob n R1 HRM HRP _ _ _ _ _ _ _ _ _ _ _ _ _ _ _ _ _ _ _ _ _ _ _ _ _ _ _ _ _ _ _ _ _ _ _ _ _ _ _ _ _ _ _ _ _ _ _ _ _ _ _ _ _ _ _ _ _ _ _ _ _ _ _ _ _ _ _ _ _ _ _ _ _ _ _ _ _ _ _ _ _ _ (fun c a a' w hd h => by cases a; cases a'; cases hd; exact h) ?_
      intro R W x7 u26 u27 u28 u29 u30 u31 u32 u33 u34 u35 u36 u37 u38 u39 u40 u41 u42 u43 u44 u45 u46 u47 u48 HR HP
      have HI2 : Hid (IniP d (R.map (·.l)) (i + 1) 0) := HP.out.1.next (by rw [HLL.out]; exact Nat.le_refl _) (by rw [HLL.out]; exact hin)
      have HN3 : Hid (NilFrom R (i + 1)) := fun j x hj hx => HN2.out j x hj (by rw [← HP.out.2.2 j (by omega)]; exact hx)
      clear HP HN2 HRM HRP
      go_wp2_with fail
      go_roundw
      case rel => exact ⟨i + 1, R, by omega, by go_num, HR, HI2, HN3⟩
      case measure => simp [intOf]; omega
    · obtain rfl : i = n := by omega
      have HE : Hid (R.map (·.l) = ap0 d) := by
        have h1 := HI.out
        rw [← HLL.out] at h1
        exact h1.last
      have HK0 : Hid (ApP d (R.map (·.l)) ∧ (true = false → ApTo d L (R.map (·.l)) d.length 0)) := ⟨by rw [HE.out]; exact ap0_start d, fun h => by cases h⟩
      clear HI HN HE
      go_wp2_with fail
      go_loopg [8] (2 * offF (R.map (·.l)) + 1) (fun gk mv wr => ∃ (R : List Br) (more : Bool), mv = .bool more ∧ Hid (ApR w wr ob i i R) ∧ Hid (ApP d (R.map (·.l)) ∧ (more = false → ApTo d L (R.map (·.l)) d.length 0)) ∧ Hid (2 * offF (R.map (·.l)) + (if more then 1 else 0) ≤ gk))
      case atStart => exact ⟨R, true, rfl, HR, HK0, Nat.le_refl _⟩
      case round =>
        clear HR HK0
        obtain ⟨R, more, rfl, HR, HP, HK⟩ := hrel
        cases more
        · have HF := Lib.hid (HP.out.1.far HG.out HGo.out (HP.out.2 rfl))
          have HMA : Hid (∀ x ∈ R, x.l.length = i) := fun x hx => by rw [← HLL.out]; exact HP.out.1.row x.l (List.mem_map_of_mem hx)
          clear HP HK
          go_wp2_with fail
          go_ret
          exact ⟨ob, i, rfl, R, HR.out, HMA.out, HF.out⟩
        · have HP2 : Hid (ApK d L R false 0 0 gk) := ⟨HP.out.1, fun _ => .zero _ _ _, HK.out⟩
          clear HP HK
          go_wp2_with fail
          go_loopw [8, 9] (fun mv iv wr => ∃ (q : Nat) (R : List Br) (more : Bool), q ≤ i ∧ mv = .bool more ∧ iv = .int .i64 q ∧ Hid (ApR w wr ob i i R) ∧ Hid (ApK d L R more q 0 gk)) (fun _ iv _ => i - (intOf iv).toNat)
          case atStart => exact ⟨0, R, false, Nat.zero_le _, rfl, rfl, HR, HP2⟩
          case round =>
            clear HR HP2
            obtain ⟨q, R, more, hq, rfl, rfl, HR, HP⟩ := hrel
            by_cases hqn : q < i
            · go_wp2_with fail
              refine apart_k w wr B hB A i c H HS d HD HG hlen hcm Ag cg L HL HGo q hqn ob i gk R more HR HP _ _ _ _ _ _ _ _ _ _ _ _ _ _ _ _ _ _ _ _ _ _ _ _ _ _ _ _ _ _ _ _ _ _ _ _ _ _ _ _ _ _ _ _ _ _ _ _ _ _ _ _ _ _ _ _ _ _ _ _ _ _ _ _ _ _ _ _ _ _ _ _ _ _ _ _ _ _ _ _ (fun c a a' w hd h => by cases a; cases a'; cases hd; exact h) ?_
              intro R more W x10 u56 u57 u58 u59 u60 u61 u62 u63 u64 u65 u66 u67 u68 u69 u70 u71 u72 u73 u74 u75 u76 u77 u78 u79 u80 u81 u82 u83 HR HP
              go_wp2_with fail
              go_roundw
              case rel => exact ⟨q + 1, R, more, by omega, rfl, by go_num, HR, HP⟩
              case measure => simp [intOf]; omega
            · obtain rfl : q = i := by omega
              have HPZ : Hid (ApP d (R.map (·.l)) ∧ (more = false → ApTo d L (R.map (·.l)) d.length 0)) := ⟨HP.out.1, by rw [HLL.out]; exact HP.out.2.1⟩
              have HKZ : Hid (2 * offF (R.map (·.l)) + (if more then 1 else 0) + 1 ≤ gk) := HP.out.2.2
              clear HP
              go_wp2_with fail
              go_roundg (gk - 1)
              case measure => have := HKZ.out; omega
              case rel => exact ⟨R, more, rfl, HR, HPZ, by have := HKZ.out; show _ ≤ _; omega⟩
end Go.Proofs.YtebdffabfimmkaaDoor
/- The reference's Least. -/
namespace Go.Proofs.YtebdffabfimmkaaDoor
open Go.RowKit Go.Maps

theorem owns_one (w : World) {nb : Nat} (h : nb = w.heap.size) : OwnSts (w.alloc (.cells #[.bool false, .slice none 0 0] 39)) w.heap.size (.slice (some ⟨nb, 0, none⟩) 1 1) [⟨(false, []), none, 0⟩] :=
  ⟨own_new w #[.bool false, .slice none 0 0] 39 2 1 rfl (by unfold maxLen; omega) h (Nat.le_refl _), (GFam.nil _ _ _ _).cons_nil⟩
theorem OwnSts.lower {W : World} {b b' : Nat} {v : Value} {hs : List Sh} (h : OwnSts W b v hs) (hb : b' ≤ b) : OwnSts W b' v hs := ⟨own_lower h.out hb, fun z hz => own_lower (h.fam.own z hz) hb, h.fam.ap⟩
set_option maxRecDepth 100000 in
set_option maxHeartbeats 8000000 in
theorem refleast_any (w : World) (B : Nat) (hB : B ≤ w.heap.size) (A : Option Addr) (n c : Nat) (H : List Sh) (h : StsIn w B A n c H) (hg : Good (H.map (·.d))) :
    Calls Tryd.prog 24 #[.slice A n c] w fun e w' => ∃ v hs, e = .returned v ∧ OwnSts w' w.heap.size v hs ∧ LeastIs (auOf (H.map (·.d))) 0 (hs.map (·.d)) ∧ hs.length ≤ n ∧ Below w.heap.size w w' := by
  have HS := Lib.hid h
  have hlen := h.len
  obtain ⟨d, hd⟩ : ∃ d, H.map (·.d) = d := ⟨_, rfl⟩
  have HD := Lib.hid hd
  have hll : d.length = n := by rw [← hd, List.length_map]; exact hlen
  have HLL := Lib.hid hll
  rw [hd] at hg ⊢
  have HG := Lib.hid hg
  have hcm : n ≤ 20000 := by rw [← hll]; exact hg.few
  have hnp : 0 < n := by rw [← hll]; exact List.length_pos_iff.2 hg.ne
  clear h hg hd hll
  go_enter Tryd.func24, Tryd.ntmps24
  go_wp2_with fail
  refine (dead_any w B hB A n c H HS.out (by rw [HD.out]; exact HG.out)).mono ?_
  rintro e w1 ⟨gb, gc, L, rfl, hr1, hgo1⟩
  rw [HD.out] at hgo1
  have HR1 := Lib.hid hr1
  have HGo := Lib.hid hgo1
  have hLl := hr1.len
  have hn2 : (0 : Int) < (n : Int) := by omega
  obtain ⟨b, hb⟩ : ∃ b, L[0]? = some b := ⟨L[0]'(by omega), List.getElem?_eq_getElem _⟩
  have l0 := hr1.get hb
  have hgb : gb < w1.heap.size := (own_blk hr1.own).2.1
  have HLV : Hid (b = true ↔ ¬ (auOf d).live 0) := by
    have h1 := hgo1.2 0 (by rw [HLL.out]; exact hnp)
    rw [hb] at h1
    show (b = true ↔ _)
    simpa using h1
  have hbs1 := hr1.bel.size
  clear hr1 hgo1 hb
  cases b
  rotate_left
  · have HNL : Hid (¬ (auOf d).live 0) := HLV.out.1 rfl
    have HB1 := Lib.hid HR1.out.bel
    have HO := Lib.hid (owns_one w1 rfl)
    clear HR1 HLV HGo
    go_wp2_with fail
    go_ret
    exact ⟨_, _, rfl, HO.out.lower hbs1, .inr ⟨HNL.out, rfl⟩, by show 1 ≤ n; omega, bnew HB1.out _⟩
  · have HLI : Hid ((auOf d).live 0) := Classical.byContradiction fun h => by
      have h1 := HLV.out.2 h
      cases h1
    clear HLV
    go_wp2_with fail
    refine (apart_any w1 B (Nat.le_trans hB hbs1) A n c H (HS.out.keep (HR1.out.bel.mono hB) (Nat.le_refl _)) (by rw [HD.out]; exact HG.out) (some ⟨gb, 0, none⟩) gc L (Sl.of_own HR1.out.own) (by rw [HD.out]; exact HGo.out)).mono ?_
    rintro e w2 ⟨ob, oc, R, rfl, hap2, hal2, hfar2⟩
    rw [HD.out] at hfar2
    have HB2 := Lib.hid (bcall HR1.out.bel hap2.bel)
    have HGL := Lib.hid (Sl.of_own (HR1.out.keep hap2.bel).own)
    have HMT := Lib.hid (hap2.mat hal2)
    have HF := Lib.hid hfar2
    clear hap2 hal2 hfar2 HR1 l0 hgb
    have HS2 := Lib.hid (HS.out.keep (HB2.out.mono hB) (Nat.le_refl _))
    have hbs2 := HB2.out.size
    have HM1 : Hid ((w2.alloc (.cells #[.int .i64 0] 3)).ownsRow w2.heap.size 3 1 (.slice (some ⟨w2.heap.size, 0, none⟩) 1 1) 1 (natC [0])) := own_new w2 #[.int .i64 0] 3 1 1 rfl (by unfold maxLen; omega) rfl (Nat.le_refl _)
    have HO1 := Lib.hid ((OutR.start w2).keep (bnew (brefl w2) (.cells #[.int .i64 0] 3)))
    have HP1 : Hid (MetP n [0] ∧ ByA (leastW (auOf d) id) (auOf d).fin 0 0 [0] (([] : List Sh).map (·.d)) ∧ ([] : List Sh).length = 0) := ⟨⟨by simp, fun x hx => by rw [List.mem_singleton.1 hx]; exact hnp⟩, ByA.start _ _ _, rfl⟩
    go_wp2_with fail
    go_loopw [5, 6, 7] (fun fv ov iv wr => ∃ (i m cm co : Nat) (Am Ao : Option Addr) (met : List Nat) (hs : List Sh), i ≤ m ∧ fv = .slice Am m cm ∧ ov = .slice Ao i co ∧ iv = .int .i64 i ∧ Hid (OutR w2 wr Ao i co hs) ∧ Hid (wr.ownsRow w2.heap.size 3 1 (.slice Am m cm) m (natC met)) ∧ Hid (MetP n met ∧ ByA (leastW (auOf d) id) (auOf d).fin 0 i met (hs.map (·.d)) ∧ hs.length = i)) (fun _ _ iv _ => n - (intOf iv).toNat)
    case atStart => exact ⟨0, 1, 1, 0, some ⟨w2.heap.size, 0, none⟩, none, [0], [], Nat.zero_le _, rfl, rfl, rfl, HO1, HM1, HP1⟩
    case round =>
      clear HO1 HM1 HP1
      obtain ⟨i, m, cm, co, Am, Ao, met, hs, him, rfl, rfl, rfl, HO, HM, HP⟩ := hrel
      have hml : met.length = m := by
        have := HM.out.1
        unfold natC at this
        rw [List.length_map] at this
        omega
      have hmn : m ≤ n := by rw [← hml]; exact HP.out.1.few
      by_cases hlt : i < m
      · obtain ⟨x, hx⟩ : ∃ x, met[i]? = some x := ⟨met[i]'(by omega), List.getElem?_eq_getElem _⟩
        have hxn := HP.out.1.2 x (List.mem_of_getElem? hx)
        obtain ⟨X, hX⟩ : ∃ X, H[x]? = some X := ⟨H[x]'(by omega), List.getElem?_eq_getElem _⟩
        obtain ⟨fb, foff, rfl, hfb, hcell⟩ := (HS2.out.keep (HO.out.bel.mono (Nat.le_trans hB hbs2)) (Nat.le_refl _)).at_ (by omega)
        obtain ⟨k0, _⟩ := hcell x X hX
        obtain ⟨g, rfl, hg1, hg2⟩ := own_head HM.out (by omega)
        have m0 := own_cell HM.out (j := i) (u := .int .i64 (x : Int)) (by unfold natC; rw [List.getElem?_map, hx]; rfl)
        have hos := HO.out.bel.size
        have hfw : fb < wr.heap.size := by omega
        obtain ⟨fin, hfin⟩ : ∃ f, X.d.1 = f := ⟨_, rfl⟩
        rw [hfin] at k0
        have HX := Lib.hid hx
        have HFX : Hid ((auOf d).fin x = fin) := by
          show ((d[x]?).map (·.1)).getD false = fin
          rw [← HD.out, List.getElem?_map, hX]
          exact hfin
        have him2 : (i : Int) < (m : Int) := by omega
        have hxn2 : (x : Int) < (n : Int) := by omega
        have HC0 : Hid (LsC w2 (wr.alloc (.cells #[.bool fin, .slice none 0 0] 39)) d n wr.heap.size fin Ao i co hs x 0 met (some ⟨g, 0, none⟩) m cm met none 0 0 []) := ⟨HO.out.open_ fin, own_kept HM.out (bnew (brefl wr) _), HP.out.1, ByP.start _ _ _, Nat.le_refl _, fun a ha => absurd ha List.not_mem_nil⟩
        clear hcell hx hX hfin
        go_wp2_with fail
        refine least_c w2 _ B (Nat.le_trans hB hbs2) (some ⟨fb, foff, none⟩) n c H HS2 d HD HG HLL hcm (some ⟨gb, 0, none⟩) gc L HGL HGo oc (some ⟨ob, 0, none⟩) R HMT HF i x hxn wr.heap.size fin Ao i co hs met HX (some ⟨g, 0, none⟩) m cm HC0 _ _ _ _ _ _ _ _ _ _ _ _ _ _ _ _ _ _ _ _ _ _ _ _ _ _ _ _ _ _ _ _ _ _ _ _ _ _ _ _ _ _ _ _ _ _ _ _ _ _ _ _ _ _ _ _ _ _ _ _ _ _ _ _ _ _ _ _ _ _ _ _ _ _ _ _ _ _ _ _ _ _ _ (fun c a a' w hd h => by cases a; cases a'; cases hd; exact h) ?_
        intro Am m cm met2 Ac pc cc arcs W x9 u10 u11 u38 u39 u40 u41 u42 u43 u44 u45 u46 u47 u48 u49 u50 u51 u52 u53 u54 u55 u56 u57 u58 u59 u60 u61 u62 u63 u64 u65 u66 u67 u68 u69 u70 u71 u72 u73 u74 u75 u76 u77 u78 u79 u80 u81 u82 u83 HC
        obtain ⟨s0, s1, s2, s3⟩ := HC.out.gr.cells
        have HOO := Lib.hid HC.out.gr.out
        have HBL := Lib.hid HC.out.gr.bel
        have hbs3 := HBL.out.size
        clear HC0 k0 m0 HO HM hg2
        go_wp2_with (at_builtin; refine wpList_push w2 W _ rfl _ _ _ rfl el_state _ _ _ rfl HOO.out rfl (by simp) rfl (by simp [Value.oneCell']) (by unfold maxLen; omega) (by omega) hbs3 HBL.out ?_; intro v9 w9 hown9 _ hg9 hor9; obtain ⟨A9, c9, rfl, _⟩ := own_shape hown9; have HO9 := Lib.hid hown9; have HG9 := Lib.hid hg9; clear hown9 hg9 hor9)
        have HCL := Lib.hid (HC.out.gr.close HG9.out HO9.out)
        have HMN := Lib.hid (HCL.out.2 (by decide) HC.out.row_)
        have HON := Lib.hid HCL.out.1
        have HPN : Hid (MetP n met2 ∧ ByA (leastW (auOf d) id) (auOf d).fin 0 (i + 1) met2 ((hs ++ [(⟨(fin, arcs), Ac, cc⟩ : Sh)]).map (·.d)) ∧ (hs ++ [(⟨(fin, arcs), Ac, cc⟩ : Sh)]).length = i + 1) := by
          refine ⟨HC.out.mp, ?_, by rw [List.length_append, HP.out.2.2]; rfl⟩
          rw [List.map_append]
          have h1 := HP.out.2.1.step HX.out HC.out.by_
          rw [HFX.out] at h1
          exact h1
        have him3 : i + 1 ≤ m := by
          have h1 := HPN.out.2.1.le
          rw [HC.out.len] at h1
          exact h1
        clear HCL HC HG9 HO9 s0 s1 s2 s3 HOO HP
        go_wp2_with fail
        go_roundw
        case rel => exact ⟨i + 1, m, cm, c9, Am, A9, met2, _, him3, rfl, rfl, by go_num, HON, HMN, HPN⟩
        case measure => simp [intOf]; omega
      · obtain rfl : i = m := by omega
        have HE := Lib.hid (HP.out.2.1.least (by rw [hml]; exact Nat.le_refl _) HLI.out)
        have q0 : decide ((i : Int) < (i : Int)) = false := decide_eq_false (by omega)
        have HQ := Lib.hid ((HO.out.sts HP.out.2.2).lower hbs2)
        have HL9 : Hid (hs.length ≤ n) := by show hs.length ≤ n; rw [HP.out.2.2]; exact hmn
        have HB9 := Lib.hid (bcall HB2.out HO.out.bel)
        clear HP HO HM
        go_wp2_with fail
        go_ret
        exact ⟨_, hs, rfl, HQ.out, HE.out, HL9.out, HB9.out⟩
end Go.Proofs.YtebdffabfimmkaaDoor
