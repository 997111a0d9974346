/- The reference's Open. -/
import Derived.Test.YtheickndnniomaaDoorRopenp
import Derived.Test.YtheickndnniomaaDoorRbuild
import Derived.Test.YtheickndnniomaaDoorRnode
import Derived.Deep.RegionLaw
import Derived.Deep.RegionHeld3
namespace Go.Proofs.YtheickndnniomaaDoor
open Go.RowKit Go.Maps

/-- The lists of the nodes so far, in memory. -/
structure NsAt (W : World) (base : Nat) (Al : Option Addr) (n cl : Nat) (H : List Lh) : Prop where
  hn : H.length = n
  row : W.ownsRow base 22 1 (.slice Al n cl) n (H.flatMap Lh.hdr)
  ent : ∀ x ∈ H, W.ownsRow base 26 2 (.slice x.A x.l.length x.c) x.l.length (entsC x.l)
theorem NsAt.below {W W' : World} {base : Nat} {Al : Option Addr} {n cl : Nat} {H : List Lh} (h : NsAt W base Al n cl H) (hb : Below W.heap.size W W') : NsAt W' base Al n cl H :=
  ⟨h.hn, own_kept h.row hb, fun x hx => own_kept (h.ent x hx) hb⟩
theorem heap_new_at {w : World} {o : Obj} {nb : Nat} (h : w.heap.size = nb) : (w.alloc o).heap[nb]? = some o := by
  subst h
  exact heap_alloc_new w o
theorem byte_cat (t : List UInt8) (c : Int) (hl : t.length ≤ 1125899906842624) (w : World) : (Op.stringOp .add (strOfNums [c]) ⟨t.toArray⟩).run Tryd.prog w = .ok (.string ⟨(UInt8.ofNat c.toNat :: t).toArray⟩) w := by
  have e : strOfNums [c] ++ (⟨t.toArray⟩ : ByteArray) = ⟨(UInt8.ofNat c.toNat :: t).toArray⟩ := by
    rw [byte_u8]
    apply ByteArray.ext
    simp
  rw [← e]
  exact run_string_add_sum w _ _ (by rw [strOfNums_size, size_mk]; simp; omega)
/-- What Open answers. -/
def ROpenPost (w : World) (R : Int × List Nd × Int × Int) : Ending → World → Prop := fun e w' => Below w.heap.size w w' ∧
  ((R.1 = 0 ∧ ∃ v, e = .returned (.tuple #[v, .int .i64 0]) ∧ w'.ownsRow w.heap.size 26 2 v (allE R.2.1 R.2.2.1).length (entsC (allE R.2.1 R.2.2.1))) ∨
   (R.1 ≠ 0 ∧ e = .returned (.tuple #[.slice none 0 0, .int .i64 R.1])))
theorem str_eqL (b : ByteArray) (t : List UInt8) : (b.toList == t) = decide (b = ⟨t.toArray⟩) := by
  have h := str_eq b ⟨t.toArray⟩
  rw [ByteArray.toList_eq (bs := ⟨t.toArray⟩)] at h
  exact h
theorem rnode_at' : RNodeAt := fun p base W l A n c told hM hrow ho hl hm hcap =>
  rnode_any p base 65 0 (by omega) W [] none none 0 0 0 0 [] l A n c told hM Inv.nil hrow ho hl hm hcap
set_option maxRecDepth 100000 in
set_option maxHeartbeats 40000000 in
theorem ropen_any (w : World) (t : List UInt8) (ht : t.length ≤ 4294967296) :
    Calls Tryd.prog 14 #[.string ⟨t.toArray⟩] w (ROpenPost w (openF t)) := by
  have HN := Lib.hid (rnums_any w t 2 (by omega) (by omega))
  obtain ⟨⟨e0, acc0, t3⟩, hr0⟩ : ∃ r, rdN 2 [] t = r := ⟨_, rfl⟩
  rw [hr0] at HN
  by_cases he0 : e0 = 0
  rotate_left
  · rw [open_1 hr0 he0]
    have q1 : (e0 != 0) = true := by simpa using he0
    have HE := Lib.hid he0
    clear hr0 he0
    go_enter Tryd.func14, Tryd.ntmps14
    go_wp2_with fail
    refine HN.out.mono ?_
    rintro e w1 ⟨hb1, ⟨h, _⟩ | ⟨_, rfl⟩⟩
    · exact absurd h HE.out
    simp only
    go_wp2_with fail
    go_ret2
    exact ⟨hb1, .inr ⟨HE.out, rfl⟩⟩
  subst he0
  obtain ⟨v, v3, rfl, hv, hv3, hl3, hop⟩ := open_2 hr0
  obtain ⟨cnt, rfl⟩ := Int.eq_ofNat_of_zero_le hv.1
  rw [hop, Int.toNat_natCast]
  obtain ⟨RA, hRA⟩ : ∃ RA, rdAll cnt [] [] [] t3 = RA := ⟨_, rfl⟩
  rw [hRA]
  have HRA := Lib.hid hRA
  have hc63 : (cnt : Int) ≤ 9223372036854775807 := hv.2
  have HV3 := Lib.hid hv3
  have HT := Lib.hid ht
  have HL3 := Lib.hid hl3
  clear hr0 hop hRA hv hv3 ht hl3
  go_enter Tryd.func14, Tryd.ntmps14
  go_wp2_with fail
  refine HN.out.mono ?_
  rintro e w2 ⟨hb2, ⟨_, vh, rfl, hh⟩ | ⟨h, _⟩⟩
  rotate_left
  · exact absurd rfl h
  obtain ⟨Ah, ch, rfl, _⟩ := own_shape hh
  obtain ⟨gh, rfl, _, hgh⟩ := own_head hh (by omega)
  have HH := Lib.hid hh
  have HB2 := Lib.hid hb2
  clear hb2 hh HN
  simp only
  go_wp2_with fail
  have HFC : Hid (∀ w', Below w2.heap.size w2 w' → w'.cell? ⟨gh, 0, none⟩ = some (.int .i64 cnt) ∧ w'.cell? ⟨gh, 1, none⟩ = some (.int .i64 v3)) := fun w' hb => by
    have k0 := HH.out.cells (g := gh) rfl 0 (.int .i64 cnt) rfl
    have k1 := HH.out.cells (g := gh) rfl 1 (.int .i64 v3) rfl
    rw [Addr.add_lit, Nat.zero_add] at k0 k1
    exact ⟨(hb.cell (p := ⟨gh, 0, none⟩) hgh).trans k0, (hb.cell (p := ⟨gh, 1, none⟩) hgh).trans k1⟩
  have HHB := Lib.hid (Nat.lt_of_lt_of_le hgh (Nat.le_refl _))
  clear hgh HH
  go_loopw [0, 7, 8] (fun sv nv iv wr => ∃ (i : Nat) (u : List UInt8) (Al : Option Addr) (cl : Nat) (H : List Lh) (ds : List Nd), i ≤ cnt ∧ iv = .int .i64 i ∧ sv = .string ⟨u.toArray⟩ ∧ nv = .slice Al i cl ∧ Hid (NsAt wr w2.heap.size Al i cl H ∧ H.map (·.l) = leftsR ds) ∧ Hid (ds.length = i ∧ RdInv ds (szL ds) (dpL ds) ∧ rdAll (cnt - i) ds (szL ds) (dpL ds) u = RA ∧ u.length + i ≤ t3.length) ∧ Hid (Below w2.heap.size w2 wr)) (fun _ _ iv _ => cnt - (intOf iv).toNat)
  case atStart => exact ⟨0, t3, none, 0, [], [], Nat.zero_le _, rfl, rfl, rfl, ⟨⟨rfl, ⟨rfl, .inl ⟨rfl, rfl⟩⟩, by simp⟩, rfl⟩, ⟨rfl, RdInv.nil, HRA.out, by simp⟩, brefl w2⟩
  case round =>
    clear HRA
    obtain ⟨i, u, Al, cl, H, ds, hi, rfl, rfl, rfl, HNS, HD, HB⟩ := hrel
    obtain ⟨c0, c1⟩ := HFC.out wr HB.out
    have hil : i ≤ 4294967296 := by have h1 := HD.out.2.2.2; have h2 := HL3.out; have h3 := HT.out; omega
    by_cases hlt : i < cnt
    · obtain ⟨m, hm⟩ : ∃ m, cnt - i = m + 1 := ⟨cnt - i - 1, by omega⟩
      have hul : u.length ≤ 1125899906842624 := by have h1 := HD.out.2.2.2; have h2 := HL3.out; have h3 := HT.out; omega
      obtain ⟨NR, hNR⟩ : ∃ NR, rdNode ds.length (szL ds) (dpL ds) u = NR := ⟨_, rfl⟩
      have HNR := Lib.hid hNR
      have HFAIL : Hid (∀ e, NR.1 = e → e ≠ 0 → openG t cnt v3 RA = (e, [], 0, 0)) := fun e he h0 => by
        have h1 := HD.out.2.2.1
        rw [hm, rdAll_err (by rw [hNR, he]; exact h0), hNR, he] at h1
        rw [← h1]
        exact openG_1 h0
      have HGO : Hid (∀ d s q u', NR = (0, d, s, q, u') → rdAll (cnt - (i + 1)) (ds ++ [d]) (szL ds ++ [s]) (dpL ds ++ [q]) u' = RA) := fun d s q u' he => by
        have h1 := HD.out.2.2.1
        rw [hm, rdAll_go (hNR.trans he)] at h1
        rw [show cnt - (i + 1) = m by omega]
        exact h1
      have HN1 := Lib.hid (rnums_any wr u 1 (by omega) hul)
      obtain ⟨⟨e1, acc1, u1⟩, hr1⟩ : ∃ r, rdN 1 [] u = r := ⟨_, rfl⟩
      rw [hr1] at HN1
      clear hNR hm
      by_cases he1 : e1 = 0
      rotate_left
      · have HE : Hid (openG t cnt v3 RA = (e1, [], 0, 0) ∧ e1 ≠ 0) := ⟨HFAIL.out e1 (by rw [← HNR.out]; exact node_1 hr1 he1) he1, he1⟩
        have q1 : (e1 != 0) = true := by simpa using he1
        clear hr1 he1
        go_wp2_with fail
        refine HN1.out.mono ?_
        rintro e w3 ⟨hb3, ⟨h, _⟩ | ⟨_, rfl⟩⟩
        · exact absurd h HE.out.2
        have HB3 : Hid (Below w.heap.size w w3) := HB2.out.trans ((bcall HB.out hb3).mono HB2.out.size)
        clear hb3
        simp only
        go_wp2_with fail
        go_ret2
        exact ⟨HB3.out, .inr ⟨by rw [HE.out.1]; exact HE.out.2, by rw [HE.out.1]; rfl⟩⟩
      subst he1
      obtain ⟨v, rfl, hv, hvp, hul1⟩ := rdN_one hr1
      obtain ⟨vn, rfl⟩ := Int.eq_ofNat_of_zero_le hvp.1
      have hv63 := hvp.2
      have HV := Lib.hid hv
      clear hr1 hvp hv
      go_wp2_with fail
      refine HN1.out.mono ?_
      rintro e w3 ⟨hb3, ⟨_, vv, rfl, hvv⟩ | ⟨h, _⟩⟩
      rotate_left
      · exact absurd rfl h
      obtain ⟨Av, cv, rfl, _⟩ := own_shape hvv
      obtain ⟨gv, rfl, _, hgv⟩ := own_head hvv (by omega)
      have kv := hvv.cells (g := gv) rfl 0 (.int .i64 vn) rfl
      rw [Addr.add_lit, Nat.zero_add] at kv
      have HB3 := Lib.hid (bcall HB.out hb3)
      have HNS3 : Hid (NsAt w3 w2.heap.size Al i cl H ∧ H.map (·.l) = leftsR ds) := ⟨HNS.out.1.below hb3, HNS.out.2⟩
      have HVC : Hid (∀ w', Below w3.heap.size w3 w' → w'.cell? ⟨gv, 0, none⟩ = some (.int .i64 vn)) := fun w' hb => (hb.cell (p := ⟨gv, 0, none⟩) hgv).trans kv
      have HVB := Lib.hid hgv
      clear hb3 hvv HN1 HB HNS hgv
      simp only
      by_cases hbig : 513 < vn
      · have HE : Hid (openG t cnt v3 RA = (3, [], 0, 0)) := HFAIL.out 3 (by rw [← HNR.out]; exact node_2 HV.out (by omega)) (by omega)
        have q1 : decide ((vn : Int) > 513) = true := decide_eq_true (by omega)
        have q2 : decide (vn > 513) = true := decide_eq_true (by omega)
        clear hbig
        go_wp2_with fail
        go_ret2
        exact ⟨HB2.out.trans (HB3.out.mono HB2.out.size), .inr ⟨by rw [HE.out]; simp, by rw [HE.out]; rfl⟩⟩
      have q1 : decide ((vn : Int) > 513) = false := decide_eq_false (by omega)
      have q2 : decide (vn > 513) = false := decide_eq_false (by omega)
      have hmod : ((vn : Nat) : Int).tmod 2 = ((vn % 2 : Nat) : Int) := rfl
      have hl0 : (bodyR ds false 0 []).length = 0 := rfl
      by_cases hodd : vn % 2 = 1
      focus
        have hodd2 : ((vn : Nat) : Int) % 2 = 1 := by omega
        have hul2 : u1.length ≤ 1125899906842624 := by omega
        rw [hodd] at hmod
        have HN2 := Lib.hid (rnums_any w3 u1 1 (by omega) hul2)
        obtain ⟨⟨e2, acc2, u2⟩, hr2⟩ : ∃ r, rdN 1 [] u1 = r := ⟨_, rfl⟩
        rw [hr2] at HN2
        by_cases he2 : e2 = 0
        rotate_left
        · have HE : Hid (openG t cnt v3 RA = (e2, [], 0, 0) ∧ e2 ≠ 0) := ⟨HFAIL.out e2 (by rw [← HNR.out]; exact node_3 HV.out (by omega) hodd2 hr2 he2) he2, he2⟩
          have q3 : (e2 != 0) = true := by simpa using he2
          clear hr2 he2
          go_wp2_with fail
          refine HN2.out.mono ?_
          rintro e w4 ⟨hb4, ⟨h, _⟩ | ⟨_, rfl⟩⟩
          · exact absurd h HE.out.2
          have HB4 : Hid (Below w.heap.size w w4) := HB2.out.trans ((bcall HB3.out hb4).mono HB2.out.size)
          clear hb4
          simp only
          go_wp2_with fail
          go_ret2
          exact ⟨HB4.out, .inr ⟨by rw [HE.out.1]; exact HE.out.2, by rw [HE.out.1]; rfl⟩⟩
        subst he2
        obtain ⟨o, rfl, ho, hop, hul3⟩ := rdN_one hr2
        have HNF1 : Hid (NR = rdFin true o (rdW ds.length (szL ds) (dpL ds) (vn / 2) [] (1 : Nat) 0 u2) ∧ pos63 o ∧ u2.length + i + 1 ≤ t3.length) := by
          refine ⟨?_, hop, by have h1 := HD.out.2.2.2; omega⟩
          rw [← HNR.out, node_4 HV.out (by omega) hodd2 ho, show ((vn : Nat) : Int) / 2 = ((vn / 2 : Nat) : Int) by omega, Int.toNat_natCast]
          rfl
        have ho63 := hop.2
        have ho0 := hop.1
        clear hr2 ho hop hul3 hul2
        go_wp2_with fail
        refine HN2.out.mono ?_
        rintro e w4 ⟨hb4, ⟨_, vo, rfl, hvo⟩ | ⟨h, _⟩⟩
        rotate_left
        · exact absurd rfl h
        obtain ⟨Ao, co, rfl, _⟩ := own_shape hvo
        obtain ⟨go, rfl, _, hgo⟩ := own_head hvo (by omega)
        have ko := hvo.cells (g := go) rfl 0 (.int .i64 o) rfl
        rw [Addr.add_lit, Nat.zero_add] at ko
        have HB4 := Lib.hid hb4
        have hb4s := hb4.size
        clear hb4 hvo HN2
        simp only
        go_wp2_with (at_builtin; refine wpList_push w3 w4 #[.string ⟨#[]⟩, .int .i64 o] rfl _ _ _ rfl el_ent (.slice none 0 0) 0 [] rfl ⟨rfl, .inl ⟨rfl, rfl⟩⟩ rfl (by simp) rfl (by simp [Value.oneCell']) (by unfold maxLen; omega) (by omega) hb4s HB4.out ?_; intro v5 w5 hown5 hb5 _ _; rw [Nat.zero_add] at hown5; obtain ⟨A0, c0', rfl, _⟩ := own_shape hown5; have HO0 := Lib.hid hown5; have HBL := Lib.hid hb5; clear hown5 hb5)
        obtain ⟨fin, hfin⟩ : ∃ f : Bool, f = true := ⟨_, rfl⟩
        obtain ⟨n0, hn0⟩ : ∃ n : Nat, n = 1 := ⟨_, rfl⟩
        have HI0 := Lib.hid hn0
        have HA0 : Hid (A0 = A0 ∧ c0' = c0') := ⟨rfl, rfl⟩
        have HNF : Hid (NR = rdFin fin o (rdW ds.length (szL ds) (dpL ds) (vn / 2) [] (n0 : Nat) 0 u2) ∧ pos63 o ∧ u2.length + i + 1 ≤ t3.length) := ⟨by rw [hfin, hn0]; exact HNF1.out.1, HNF1.out.2⟩
        have HK0 : Hid ((bodyR ds fin o []).length = n0 ∧ _) := And.intro (by rw [hfin, hn0]; rfl) (show World.ownsRow _ w3.heap.size 26 2 (.slice A0 n0 c0') n0 (entsC (bodyR ds fin o [])) by rw [hfin, hn0]; exact HO0.out)
        have hn01 : n0 ≤ 1 := by omega
        have htl : Hid (tlen 0 (bodyR ds fin o []) = 0) := by show _ = _; rw [hfin]; rfl
        clear hfin hn0 HO0 hb4s ko HB4 hmod hodd
      rotate_left
      focus
        have hodd2 : ¬ ((vn : Nat) : Int) % 2 = 1 := by omega
        have hz : vn % 2 = 0 := by omega
        rw [hz] at hmod
        go_wp2_with fail
        obtain ⟨u2, hu2⟩ : ∃ u, u = u1 := ⟨_, rfl⟩
        subst hu2
        obtain ⟨o, ho⟩ : ∃ o : Int, o = 0 := ⟨_, rfl⟩
        obtain ⟨fin, hfin⟩ : ∃ f : Bool, f = false := ⟨_, rfl⟩
        obtain ⟨n0, hn0⟩ : ∃ n : Nat, n = 0 := ⟨_, rfl⟩
        obtain ⟨A0, hA0⟩ : ∃ A : Option Addr, A = none := ⟨_, rfl⟩
        obtain ⟨c0', hc0⟩ : ∃ n : Nat, n = 0 := ⟨_, rfl⟩
        have HI0 := Lib.hid hn0
        have HA0 : Hid (A0 = none ∧ c0' = 0) := ⟨hA0, hc0⟩
        have HNF : Hid (NR = rdFin fin o (rdW ds.length (szL ds) (dpL ds) (vn / 2) [] (n0 : Nat) 0 u2) ∧ pos63 o ∧ u2.length + i + 1 ≤ t3.length) := by
          refine ⟨?_, ⟨by omega, by omega⟩, by have h1 := HD.out.2.2.2; omega⟩
          rw [← HNR.out, node_5 HV.out (by omega) hodd2, show ((vn : Nat) : Int) / 2 = ((vn / 2 : Nat) : Int) by omega, Int.toNat_natCast, hfin, ho, hn0]
          rfl
        have HK0 : Hid ((bodyR ds fin o []).length = n0 ∧ World.ownsRow w3 w3.heap.size 26 2 (.slice A0 n0 c0') n0 (entsC (bodyR ds fin o []))) := by
          rw [hfin, hn0, hA0, hc0]
          exact ⟨rfl, rfl, .inl ⟨rfl, rfl⟩⟩
        have hn01 : n0 ≤ 1 := by omega
        have HBL : Hid (Below w3.heap.size w3 w3) := brefl w3
        have htl : Hid (tlen 0 (bodyR ds fin o []) = 0) := by show _ = _; rw [hfin]; rfl
        clear hfin hn0 hA0 hc0 hmod hodd hz ho
      rotate_left
      all_goals
        have hdiv : ((vn : Nat) : Int).tdiv 2 = ((vn / 2 : Nat) : Int) := rfl
        have hK256 : vn / 2 ≤ 256 := by omega
        obtain ⟨K, hK⟩ : ∃ K, vn / 2 = K := ⟨_, rfl⟩
        rw [hK] at hdiv HNF hK256
        obtain ⟨R2, hR2⟩ : ∃ R, rdW ds.length (szL ds) (dpL ds) K [] (n0 : Nat) 0 u2 = R := ⟨_, rfl⟩
        rw [hR2] at HNF
        have HR0 : Hid (rdW ds.length (szL ds) (dpL ds) (K - 0) [] (n0 : Nat) (tlen 0 (bodyR ds fin o [])) u2 = R2 ∧ u2.length + i + 1 ≤ t3.length) := ⟨by rw [htl.out]; exact hR2, HNF.out.2.2⟩
        clear hK hR2 hbig q1 q2 hodd2 HV hul1 hv63 hl0 kv
        go_loopw [0, 9, 16] (fun sv lv kv wk => ∃ (k : Nat) (uu : List UInt8) (ws : Ways) (P : List Ent) (pl : Nat) (A : Option Addr) (c : Nat), k ≤ K ∧ kv = .int .i64 k ∧ sv = .string ⟨uu.toArray⟩ ∧ lv = .slice A pl c ∧ pl ≤ 65536 ∧ Hid (P = bodyR ds fin o ws ∧ P.length = pl ∧ tlen 0 P ≤ 64) ∧ Hid (wk.ownsRow w3.heap.size 26 2 (.slice A pl c) pl (entsC P)) ∧ Hid (rdW ds.length (szL ds) (dpL ds) (K - k) ws (pl : Nat) (tlen 0 P) uu = R2 ∧ uu.length + i + 1 ≤ t3.length) ∧ Hid (Below w3.heap.size w3 wk)) (fun _ _ kv _ => K - (intOf kv).toNat)
        case atStart => exact ⟨0, u2, [], _, n0, A0, c0', Nat.zero_le _, rfl, rfl, by first | (rw [HA0.out.1, HA0.out.2, HI0.out]; done) | (rw [HI0.out]; done), by omega, ⟨rfl, HK0.out.1, by rw [htl.out]; omega⟩, HK0.out.2, HR0, HBL⟩
        case round =>
          clear HK0 HR0 HBL
          obtain ⟨k, uu, ws, P, pl, A, c, hk, rfl, rfl, rfl, hpl, HP, HO, HR, HBK⟩ := hrel
          have kv := HVC.out _ HBK.out
          have hdl := HD.out.1
          by_cases hkl : k < K
          · obtain ⟨mk, hmk⟩ : ∃ m, K - k = m + 1 := ⟨K - k - 1, by omega⟩
            have huul : uu.length ≤ 1125899906842624 := by have h1 := HR.out.2; have h2 := HL3.out; have h3 := HT.out; omega
            have HN3 := Lib.hid (rnums_any wr uu 3 (by omega) huul)
            obtain ⟨⟨e3, acc3, tu3⟩, hr3⟩ : ∃ r, rdN 3 [] uu = r := ⟨_, rfl⟩
            rw [hr3] at HN3
            have hR1 := HR.out.1
            rw [hmk] at hR1
            by_cases he3 : e3 = 0
            rotate_left
            · have HE : Hid (openG t cnt v3 RA = (e3, [], 0, 0) ∧ e3 ≠ 0) := ⟨HFAIL.out e3 (by rw [HNF.out.1, ← hR1, rdW_err hr3 he3, rdFin_err he3]) he3, he3⟩
              have q1 : (e3 != 0) = true := by simpa using he3
              clear hr3 he3 hR1 hmk
              go_wp2_with fail
              refine HN3.out.mono ?_
              rintro e w6 ⟨hb6, ⟨h, _⟩ | ⟨_, rfl⟩⟩
              · exact absurd h HE.out.2
              have HB6 : Hid (Below w.heap.size w w6) := HB2.out.trans ((HB3.out.trans ((bcall HBK.out hb6).mono HB3.out.size)).mono HB2.out.size)
              clear hb6
              simp only
              go_wp2_with fail
              go_ret2
              exact ⟨HB6.out, .inr ⟨by rw [HE.out.1]; exact HE.out.2, by rw [HE.out.1]; rfl⟩⟩
            subst he3
            obtain ⟨xa, xb, xc, rfl, hxa, hxb, hxc, hu3⟩ := rdN_three hr3
            obtain ⟨cn, rfl⟩ := Int.eq_ofNat_of_zero_le hxc.1
            obtain ⟨an, rfl⟩ := Int.eq_ofNat_of_zero_le hxa.1
            have hxc63 := hxc.2
            have hxa63 := hxa.2
            obtain ⟨hxb0, hxb1⟩ := hxb
            by_cases hbad : 255 < (an : Int) ∨ (ds.length : Int) ≤ (cn : Int)
            · have HE : Hid (openG t cnt v3 RA = (3, [], 0, 0)) := HFAIL.out 3 (by rw [HNF.out.1, ← hR1, rdW_bad hr3 hbad, rdFin_err (by omega)]) (by omega)
              rw [hdl] at hbad
              clear hr3 hR1 hmk hxa hxc
              go_wp2_with fail
              refine HN3.out.mono ?_
              rintro e w6 ⟨hb6, ⟨_, vw, rfl, hvw⟩ | ⟨h, _⟩⟩
              rotate_left
              · exact absurd rfl h
              obtain ⟨Aw, cw, rfl, _⟩ := own_shape hvw
              obtain ⟨gw, rfl, _, hgw⟩ := own_head hvw (by omega)
              have kw0 := hvw.cells (g := gw) rfl 0 (.int .i64 an) rfl
              have kw2 := hvw.cells (g := gw) rfl 2 (.int .i64 cn) rfl
              rw [Addr.add_lit, Nat.zero_add] at kw0 kw2
              have HB6 : Hid (Below w.heap.size w w6) := HB2.out.trans ((HB3.out.trans ((bcall HBK.out hb6).mono HB3.out.size)).mono HB2.out.size)
              clear hb6 hvw hgw
              simp only
              by_cases h255 : 255 < (an : Int)
              · have q1 : decide ((an : Int) > 255) = true := decide_eq_true (by omega)
                have q2 : decide (an > 255) = true := decide_eq_true (by omega)
                go_wp2_with fail
                go_ret2
                exact ⟨HB6.out, .inr ⟨by rw [HE.out]; simp, by rw [HE.out]; rfl⟩⟩
              · have q1 : decide ((an : Int) > 255) = false := decide_eq_false (by omega)
                have q2 : decide (an > 255) = false := decide_eq_false (by omega)
                have q3 : decide ((cn : Int) ≥ (i : Int)) = true := decide_eq_true (by omega)
                have q4 : decide (cn ≥ i) = true := decide_eq_true (by omega)
                go_wp2_with fail
                go_ret2
                exact ⟨HB6.out, .inr ⟨by rw [HE.out]; simp, by rw [HE.out]; rfl⟩⟩
            have ha255 : an ≤ 255 := by omega
            have hcnd : cn < ds.length := by omega
            have hci : cn < i := by omega
            have hbw := body_way (ds := ds) fin o ws (an : Int) xb hcnd (s := (pl : Nat)) (d := tlen 0 P) (by rw [← HP.out.1, HP.out.2.1]) (by rw [← HP.out.1])
            rw [rdW_go hr3 (by omega) hcnd, hbw.1, hbw.2, show mk = K - (k + 1) by omega] at hR1
            have hbs : bodyR ds fin o (ws ++ [((an : Int), xb, (cn : Int))]) = P ++ (leftR ds cn).map (preR ((an : Int), xb, (cn : Int))) := by rw [bodyR_snoc, ← HP.out.1]; rfl
            have HRN : Hid (rdW ds.length (szL ds) (dpL ds) (K - (k + 1)) (ws ++ [((an : Int), xb, (cn : Int))]) ((bodyR ds fin o (ws ++ [((an : Int), xb, (cn : Int))])).length : Int) (tlen 0 (bodyR ds fin o (ws ++ [((an : Int), xb, (cn : Int))]))) tu3 = R2 ∧ tu3.length + i + 1 ≤ t3.length) := ⟨hR1, by have := HR.out.2; omega⟩
            have HOV : Hid (65536 < ((bodyR ds fin o (ws ++ [((an : Int), xb, (cn : Int))])).length : Int) ∨ 64 < tlen 0 (bodyR ds fin o (ws ++ [((an : Int), xb, (cn : Int))])) → openG t cnt v3 RA = (if wayErr i (K - k - 1) tu3 = 0 then 3 else wayErr i (K - k - 1) tu3, [], 0, 0)) := fun hov => by
              have h1 := rd_over HD.out.2.1 (n := ds.length) fin o (K - (k + 1)) (ws ++ [((an : Int), xb, (cn : Int))]) _ _ tu3 (tlen_nonneg _ _ (Int.le_refl _)) hov
              rw [hR1, hdl, show K - (k + 1) = K - k - 1 by omega] at h1
              exact HFAIL.out _ (by rw [HNF.out.1, h1]) (by split <;> omega)
            have HBS := Lib.hid hbs
            obtain ⟨xh, hxh⟩ : ∃ x, H[cn]? = some x := ⟨H[cn]'(by rw [HNS3.out.1.hn]; exact hci), List.getElem?_eq_getElem _⟩
            have hxl : xh.l = leftR ds cn := by
              have h1 : (H.map (·.l))[cn]? = some xh.l := by rw [List.getElem?_map, hxh]; rfl
              rw [HNS3.out.2, leftsR_get hcnd] at h1
              injection h1 with h1
              exact h1.symm
            have HXL := Lib.hid hxl
            have HXH := Lib.hid hxh
            have hqm : xh.l.length ≤ 65536 := by
              rw [hxl, leftR_len]
              have h1 := (getD_in HD.out.2.1.szb ⟨by omega, by omega⟩ cn).2
              rw [szL_get hcnd] at h1
              omega
            have q1 : decide ((an : Int) > 255) = false := decide_eq_false (by omega)
            have q2 : decide (an > 255) = false := decide_eq_false (by omega)
            have q3 : decide ((cn : Int) ≥ (i : Int)) = false := decide_eq_false (by omega)
            have q4 : decide (cn ≥ i) = false := decide_eq_false (by omega)
            clear hr3 hR1 hmk hxa hxc hbad hbw hbs hxh hxl
            go_wp2_with fail
            refine HN3.out.mono ?_
            rintro e w6 ⟨hb6, ⟨_, vw, rfl, hvw⟩ | ⟨h, _⟩⟩
            rotate_left
            · exact absurd rfl h
            obtain ⟨Aw, cw, rfl, _⟩ := own_shape hvw
            obtain ⟨gw, rfl, _, hgw⟩ := own_head hvw (by omega)
            have kw0 := hvw.cells (g := gw) rfl 0 (.int .i64 an) rfl
            have kw2 := hvw.cells (g := gw) rfl 2 (.int .i64 cn) rfl
            rw [Addr.add_lit, Nat.zero_add] at kw0 kw2
            have HVW := Lib.hid hvw
            have HB6 := Lib.hid (bcall HBK.out hb6)
            have HO6 := Lib.hid (own_kept HO.out hb6)
            clear hb6 hvw hgw HO HBK HN3 kv
            simp only
            go_wp2_with fail
            clear q1 q2 q3 q4 kw0 kw2
            obtain ⟨qn, hqn⟩ : ∃ q, xh.l.length = q := ⟨_, rfl⟩
            rw [hqn] at hqm
            have HQN := Lib.hid hqn
            obtain ⟨x3, hx3⟩ : ∃ x : Int × Int × Int, ((an : Int), xb, (cn : Int)) = x := ⟨_, rfl⟩
            rw [hx3, ← HXL.out] at HBS
            rw [hx3] at HRN HOV
            have HX3 := Lib.hid hx3
            clear hqn hx3
            have HVW6 : Hid (w6.ownsRow wr.heap.size 3 1 (.slice (some ⟨gw, 0, none⟩) 3 cw) 3 [.int .i64 an, .int .i64 xb, .int .i64 cn]) := HVW.out
            generalize wr.heap.size = bw at *
            go_loopw [9, 20] (fun lv jv wj => ∃ (j pj : Nat) (A : Option Addr) (c : Nat), j ≤ qn ∧ jv = .int .i64 j ∧ lv = .slice A pj c ∧ pj ≤ 65536 ∧ Hid (pj = pl + j ∧ ∀ e ∈ xh.l.take j, e.1.length ≤ 63) ∧ Hid (wj.ownsRow w3.heap.size 26 2 (.slice A pj c) pj (entsC (P ++ (xh.l.take j).map (preR x3)))) ∧ Hid (wj.ownsRow bw 3 1 (.slice (some ⟨gw, 0, none⟩) 3 cw) 3 [.int .i64 an, .int .i64 xb, .int .i64 cn]) ∧ Hid (Below w3.heap.size w3 wj)) (fun _ jv _ => qn - (intOf jv).toNat)
            case atStart => exact ⟨0, pl, A, c, Nat.zero_le _, rfl, rfl, hpl, ⟨rfl, by simp⟩, by simpa using HO6, HVW6, HB6⟩
            case round =>
              clear HVW6 HVW HO6 HB6 hpl
              obtain ⟨j, pj, A, c, hj, rfl, rfl, hpj, HPJ, HO, HVJ, HBJ⟩ := hrel
              have NSJ := Lib.hid (HNS3.out.1.below HBJ.out)
              obtain ⟨gn, rfl, _, hgn⟩ := own_head NSJ.out.row (by omega)
              have kn := NSJ.out.row.cells (g := gn) rfl cn (.slice xh.A xh.l.length xh.c) (by
                have := flat_at Lh.hdr 1 (fun _ => rfl) H cn 0 xh HXH.out (by omega)
                rw [Nat.mul_one, Nat.add_zero] at this
                rw [this]
                rfl)
              rw [Addr.add_lit, Nat.zero_add, HQN.out] at kn
              have hent := NSJ.out.ent xh (List.mem_of_getElem? HXH.out)
              rw [HQN.out] at hent
              have kw0 := HVJ.out.cells (g := gw) rfl 0 (.int .i64 an) rfl
              have kw1 := HVJ.out.cells (g := gw) rfl 1 (.int .i64 xb) rfl
              have kw2 := HVJ.out.cells (g := gw) rfl 2 (.int .i64 cn) rfl
              rw [Addr.add_lit, Nat.zero_add] at kw0 kw1 kw2
              have kv := HVC.out _ HBJ.out
              have hgvw : gv < wr.heap.size := Nat.lt_of_lt_of_le HVB.out HBJ.out.size
              have hgww : gw < wr.heap.size := (HVJ.out.lt gw rfl).2
              by_cases hjl : j < qn
              · obtain ⟨⟨et, eo⟩, hee⟩ : ∃ e, xh.l[j]? = some e := ⟨xh.l[j]'(by rw [HQN.out]; exact hjl), List.getElem?_eq_getElem _⟩
                obtain ⟨ge, hxA, hge, hgel⟩ := own_head hent (by omega)
                rw [hxA] at kn hent
                have ke0 := hent.cells (g := ge) rfl (j * 2) (.string ⟨et.toArray⟩) (by unfold entsC; have := flat_at entC 2 (fun _ => rfl) xh.l j 0 _ hee (by omega); rw [Nat.add_zero] at this; rw [this]; rfl)
                have ke1 := hent.cells (g := ge) rfl (j * 2 + 1) (.int .i64 eo) (by unfold entsC; rw [flat_at entC 2 (fun _ => rfl) xh.l j 1 _ hee (by omega)]; rfl)
                rw [Addr.add_lit, Nat.zero_add] at ke0 ke1
                have HEE := Lib.hid hee
                have hbl : (bodyR ds fin o (ws ++ [x3])).length = pl + qn := by rw [HBS.out, List.length_append, List.length_map, HQN.out, HP.out.2.1]
                have hpj2 := HPJ.out.1
                clear hent hee
                by_cases hov : 65536 ≤ pj ∨ 64 ≤ et.length
                · have hk1 : (K : Int) - (k : Int) - 1 = ((K - k - 1 : Nat) : Int) := by omega
                  have HE : Hid (openG t cnt v3 RA = (if wayErr i (K - k - 1) tu3 = 0 then 3 else wayErr i (K - k - 1) tu3, [], 0, 0)) := HOV.out (by
                    rcases hov with h | h
                    · exact .inl (by omega)
                    · refine .inr ?_
                      have hmem : preR x3 (et, eo) ∈ bodyR ds fin o (ws ++ [x3]) := by
                        rw [HBS.out]
                        exact List.mem_append_right _ (List.mem_map_of_mem (List.mem_of_getElem? HEE.out))
                      have h1 := tlen_mem hmem 0
                      have h2 : (preR x3 (et, eo)).1.length = et.length + 1 := rfl
                      omega)
                  have hu3l : tu3.length ≤ 1125899906842624 := by have h1 := HRN.out.2; have h2 := HL3.out; have h3 := HT.out; omega
                  have HWD := Lib.hid (fun w => wide_any w tu3 (K - k - 1) i (by omega) hu3l)
                  rw [← hk1] at HWD
                  obtain ⟨Z, hZ⟩ : ∃ Z, (if wayErr i (K - k - 1) tu3 = 0 then (3 : Int) else wayErr i (K - k - 1) tu3) = Z := ⟨_, rfl⟩
                  have HZ : Hid (Z ≠ 0) := by show _ ≠ _; rw [← hZ]; split <;> omega
                  rw [hZ] at HE HWD
                  clear hk1 hZ hbl hpj2 hu3l
                  by_cases h65 : 65536 ≤ pj
                  · have q1 : decide ((pj : Int) ≥ 65536) = true := decide_eq_true (by omega)
                    have q2 : decide (pj ≥ 65536) = true := decide_eq_true (by omega)
                    clear hov
                    go_wp2_with fail
                    refine (HWD.out _).mono ?_
                    rintro e w7 ⟨rfl, hb7⟩
                    have HB7 : Hid (Below w.heap.size w w7) := HB2.out.trans ((HB3.out.trans ((bcall (bnew HBJ.out _) hb7).mono HB3.out.size)).mono HB2.out.size)
                    clear hb7
                    go_wp2_with fail
                    go_ret2
                    exact ⟨HB7.out, .inr ⟨by rw [HE.out]; exact HZ.out, by rw [HE.out]; rfl⟩⟩
                  · have q1 : decide ((pj : Int) ≥ 65536) = false := decide_eq_false (by omega)
                    have q2 : decide (pj ≥ 65536) = false := decide_eq_false (by omega)
                    have q3 : decide ((et.length : Int) ≥ 64) = true := decide_eq_true (by omega)
                    have q4 : decide (et.length ≥ 64) = true := decide_eq_true (by omega)
                    clear hov
                    go_wp2_with fail
                    refine (HWD.out _).mono ?_
                    rintro e w7 ⟨rfl, hb7⟩
                    have HB7 : Hid (Below w.heap.size w w7) := HB2.out.trans ((HB3.out.trans ((bcall (bnew HBJ.out _) hb7).mono HB3.out.size)).mono HB2.out.size)
                    clear hb7
                    go_wp2_with fail
                    go_ret2
                    exact ⟨HB7.out, .inr ⟨by rw [HE.out]; exact HZ.out, by rw [HE.out]; rfl⟩⟩
                · have q1 : decide ((pj : Int) ≥ 65536) = false := decide_eq_false (by omega)
                  have q2 : decide (pj ≥ 65536) = false := decide_eq_false (by omega)
                  have q3 : decide ((et.length : Int) ≥ 64) = false := decide_eq_false (by omega)
                  have q4 : decide (et.length ≥ 64) = false := decide_eq_false (by omega)
                  have HNO : Hid (pj + 1 ≤ 65536 ∧ et.length ≤ 63) := ⟨by omega, by omega⟩
                  clear hov hbl hpj2
                  go_wp2_with fail
                  have HBX := Lib.hid (bnew HBJ.out (.cells #[.string ⟨et.toArray⟩, .int .i64 eo] 26))
                  have HVX := Lib.hid (own_kept HVJ.out (bnew (brefl wr) (.cells #[.string ⟨et.toArray⟩, .int .i64 eo] 26)))
                  have HOX := Lib.hid (own_kept HO.out (bnew (brefl wr) (.cells #[.string ⟨et.toArray⟩, .int .i64 eo] 26)))
                  have hxb := heap_alloc_new wr (.cells #[.string ⟨et.toArray⟩, .int .i64 eo] 26)
                  have hlN : ∀ q, (Value.slice A pj c).ownBlock = some q → q < wr.heap.size := fun q hq => (HO.out.lt q hq).2
                  have hxs : (wr.alloc (.cells #[.string ⟨et.toArray⟩, .int .i64 eo] 26)).heap.size = wr.heap.size + 1 := by simp
                  clear HO HVJ HBJ kn ke0 ke1 kw0 kw1 kw2 kv NSJ q1 q2 q3 q4
                  generalize wr.alloc (.cells #[.string ⟨et.toArray⟩, .int .i64 eo] 26) = WX at *
                  generalize wr.heap.size = N at *
                  have hbwx : w3.heap.size ≤ WX.heap.size := HBX.out.size
                  have HFX : Hid (∀ w', Below WX.heap.size WX w' → w'.cell? ⟨gw, 0, none⟩ = some (.int .i64 an) ∧ w'.cell? ⟨gw, 1, none⟩ = some (.int .i64 xb) ∧ w'.cell? ⟨N, 0, none⟩ = some (.string ⟨et.toArray⟩) ∧ w'.cell? ⟨N, 1, none⟩ = some (.int .i64 eo)) := fun w' hb => by
                    have k0 := (own_kept HVX.out hb).cells (g := gw) rfl 0 (.int .i64 an) rfl
                    have k1 := (own_kept HVX.out hb).cells (g := gw) rfl 1 (.int .i64 xb) rfl
                    rw [Addr.add_lit, Nat.zero_add] at k0 k1
                    have kb := (hb.block N (by omega)).trans hxb
                    exact ⟨k0, k1, cell_of_row _ N 0 _ _ (0, 0) kb, cell_of_row _ N 1 _ _ (0, 0) kb⟩
                  have hw1 : IntKind.u8.wrap (an : Int) = (an : Int) := by
                    have h1 : IntKind.u8.wrap (an : Int) = (an : Int) % 256 := by simp [IntKind.wrap_u8]
                    omega
                  obtain ⟨T, hT⟩ : ∃ T, strOfNums [(an : Int)] = T := ⟨_, rfl⟩
                  have hcv : (convert 86 9 (.slice (some ⟨N + 1, 0, none⟩) 1 1)).run Tryd.prog (WX.alloc (.cells #[.int .u8 (an : Int)] 5)).drew = .ok (.string T) (WX.alloc (.cells #[.int .u8 (an : Int)] 5)).drew := by
                    have := conv_one WX.drew (an : Int)
                    rw [hT, show WX.drew.heap.size = N + 1 from hxs] at this
                    exact this
                  have hcat := fun w => byte_cat et (an : Int) (by have := HNO.out.2; omega) w
                  rw [hT] at hcat
                  obtain ⟨et2, het2⟩ : ∃ l, UInt8.ofNat (an : Int).toNat :: et = l := ⟨_, rfl⟩
                  rw [het2] at hcat
                  obtain ⟨eo2, heo2⟩ : ∃ z, IntKind.i64.wrap (eo + xb) = z := ⟨_, rfl⟩
                  have HNEW : Hid (P ++ (xh.l.take (j + 1)).map (preR x3) = (P ++ (xh.l.take j).map (preR x3)) ++ [(et2, eo2)] ∧ ∀ e ∈ xh.l.take (j + 1), e.1.length ≤ 63) := by
                    rw [List.take_add_one, HEE.out, List.map_append, ← List.append_assoc, ← HX3.out, ← het2, ← heo2]
                    refine ⟨rfl, fun e he => ?_⟩
                    rcases List.mem_append.1 he with he | he
                    · exact HPJ.out.2 e he
                    · rw [List.mem_singleton.1 he]; exact HNO.out.2
                  have hpj1 := HNO.out.1
                  have HGX : Hid (∀ w', WX.grownBy w' (Value.slice A pj c).ownBlock → (w'.cell? ⟨gw, 0, none⟩ = some (.int .i64 an) ∧ w'.cell? ⟨gw, 1, none⟩ = some (.int .i64 xb) ∧ w'.cell? ⟨N, 0, none⟩ = some (.string ⟨et.toArray⟩) ∧ w'.cell? ⟨N, 1, none⟩ = some (.int .i64 eo)) ∧ w'.ownsRow bw 3 1 (.slice (some ⟨gw, 0, none⟩) 3 cw) 3 [.int .i64 an, .int .i64 xb, .int .i64 cn] ∧ Below w3.heap.size w3 w') := fun w' hg => by
                    have hv := HVX.out.kept hg (own_types HOX.out HVX.out (by decide))
                    have k0 := hv.cells (g := gw) rfl 0 (.int .i64 an) rfl
                    have k1 := hv.cells (g := gw) rfl 1 (.int .i64 xb) rfl
                    rw [Addr.add_lit, Nat.zero_add] at k0 k1
                    have kb := (hg.block N (by omega) (fun e => by have := hlN N e.symm; omega)).trans hxb
                    exact ⟨⟨k0, k1, cell_of_row _ N 0 _ _ (0, 0) kb, cell_of_row _ N 1 _ _ (0, 0) kb⟩, hv, HBX.out.grown hg hbwx fun q hq => by have := (HOX.out.lt q hq).1; omega⟩
                  clear hT het2
                  obtain ⟨PP, hPP⟩ : ∃ l, P ++ (xh.l.take j).map (preR x3) = l := ⟨_, rfl⟩
                  rw [hPP] at HNEW HOX
                  clear hPP hxb hlN
                  have K3 := Lib.hid (HFX.out WX (brefl WX))
                  refine wp_region_held_drew (S := (fun w' => w'.cell? ⟨gw, 0, none⟩ = some (.int .i64 an) ∧ w'.cell? ⟨gw, 1, none⟩ = some (.int .i64 xb) ∧ w'.cell? ⟨N, 0, none⟩ = some (.string ⟨et.toArray⟩) ∧ w'.cell? ⟨N, 1, none⟩ = some (.int .i64 eo))) (by kernel_rfl) ?_ (fun hHeld => ?_)
                  · (try dsimp only); (first | assumption | exact K3.out | (refine HFX.out _ ?_; (repeat (first | exact brefl _ | refine Below.drew ?_ | refine bnew ?_ _)); done))
                  refine wpAnyH_take (i := 0) (v := ?_) rfl (by kernel_rfl) (by kernel_rfl) (by kernel_rfl) (fun _ _ _ h => h) (Or.inl ⟨by rfl, ?_⟩) (by assumption) ?_
                  rotate_left
                  · intro w hSw; (try dsimp only at hSw); go_simp; (try with_reducible rfl)
                  try simp only [Act.put, List.setIfInBounds_toArray]
                  refine wpAnyH_take (i := 1) (v := ?_) rfl (by kernel_rfl) (by kernel_rfl) (by kernel_rfl) (fun _ _ _ h => h) (Or.inl ⟨by rfl, ?_⟩) (by assumption) ?_
                  rotate_left
                  · intro w hSw; (try dsimp only at hSw); go_simp; (try with_reducible rfl)
                  try simp only [Act.put]
                  refine wpAnyH_take (i := 2) (v := ?_) rfl (by kernel_rfl) (by kernel_rfl) (by kernel_rfl) (fun _ _ _ h => h) (Or.inl ⟨by rfl, ?_⟩) (by assumption) ?_
                  rotate_left
                  · intro w hSw; (try dsimp only at hSw); go_simp; (try with_reducible rfl)
                  try simp only [Act.put]
                  refine wpAnyH_take (i := 3) (v := ?_) rfl (by kernel_rfl) (by kernel_rfl) (by kernel_rfl) (fun _ _ _ h => h) (Or.inl ⟨by rfl, ?_⟩) (by assumption) ?_
                  rotate_left
                  · intro w hSw; (try dsimp only at hSw); go_simp; (try with_reducible rfl)
                  try simp only [Act.put]
                  refine wpAnyH_take (i := 4) (v := ?_) rfl (by kernel_rfl) (by kernel_rfl) (by kernel_rfl) (fun _ _ _ h => h) (Or.inl ⟨by rfl, ?_⟩) (by assumption) ?_
                  rotate_left
                  · intro w hSw; (try dsimp only at hSw); go_simp; (try with_reducible rfl)
                  try simp only [Act.put]
                  refine wpAnyH_take (i := 7) (v := ?_) rfl (by kernel_rfl) (by kernel_rfl) (by kernel_rfl) (fun _ _ _ h => h) (Or.inl ⟨by rfl, ?_⟩) (by assumption) ?_
                  rotate_left
                  · intro w hSw; (try dsimp only at hSw); go_simp; (try with_reducible rfl)
                  try simp only [Act.put]
                  refine wpAnyH_take (i := 8) (v := ?_) rfl (by kernel_rfl) (by kernel_rfl) (by kernel_rfl) (fun _ _ _ h => h) (Or.inl ⟨by rfl, ?_⟩) (by assumption) ?_
                  rotate_left
                  · intro w hSw; (try dsimp only at hSw); go_simp; (try with_reducible rfl)
                  try simp only [Act.put]
                  refine wpAnyH_take (i := 10) (v := ?_) rfl (by kernel_rfl) (by kernel_rfl) (by kernel_rfl) (fun _ _ _ h => h) (Or.inl ⟨by rfl, ?_⟩) (by assumption) ?_
                  rotate_left
                  · intro w hSw; (try dsimp only at hSw); go_simp; (try with_reducible rfl)
                  try simp only [Act.put]
                  refine wpAnyH_take (i := 11) (v := ?_) rfl (by kernel_rfl) (by kernel_rfl) (by kernel_rfl) (fun _ _ _ h => h) (Or.inl ⟨by rfl, ?_⟩) (by assumption) ?_
                  rotate_left
                  · intro w hSw; (try dsimp only at hSw); go_simp; (try with_reducible rfl)
                  try simp only [Act.put]
                  refine wpAnyH_take (i := 12) (v := ?_) rfl (by kernel_rfl) (by kernel_rfl) (by kernel_rfl) (fun _ _ _ h => h) (Or.inl ⟨by rfl, ?_⟩) (by assumption) ?_
                  rotate_left
                  · intro w hSw; (try dsimp only at hSw); go_simp; (try with_reducible rfl)
                  try simp only [Act.put]
                  refine wpAnyH_take (i := 13) (v := ?_) rfl (by kernel_rfl) (by kernel_rfl) (by kernel_rfl) (fun _ _ _ h => h) (Or.inl ⟨by rfl, ?_⟩) (by assumption) ?_
                  rotate_left
                  · intro w hSw; (try dsimp only at hSw); go_simp; (try with_reducible rfl)
                  try simp only [Act.put]
                  refine wpAnyH_take (i := 14) (v := ?_) rfl (by kernel_rfl) (by kernel_rfl) (by kernel_rfl) (fun _ _ _ h => h) (Or.inl ⟨by rfl, ?_⟩) (by assumption) ?_
                  rotate_left
                  · intro w hSw; (try dsimp only at hSw); go_simp; (try with_reducible rfl)
                  try simp only [Act.put]
                  refine wpAnyH_take (i := 15) (v := ?_) rfl (by kernel_rfl) (by kernel_rfl) (by kernel_rfl) (fun _ _ _ h => h) (Or.inl ⟨by rfl, ?_⟩) (by assumption) ?_
                  rotate_left
                  · intro w hSw; (try dsimp only at hSw); go_simp; (try with_reducible rfl)
                  try simp only [Act.put]
                  refine wpAnyH_ready (rs := [5]) (by kernel_rfl) (by simp) ?_
                  refine AllReadyH.cons rfl (fun K hK => ?_) AllReadyH.nil
                  go_simp
                  refine hK.out _ _ ?_ (fun hHeld => ?_)
                  · (try dsimp only); (first | assumption | exact K3.out | (refine HFX.out _ ?_; (repeat (first | exact brefl _ | refine Below.drew ?_ | refine bnew ?_ _)); done))
                  clear hK K
                  try simp only [Act.put, List.setIfInBounds_toArray, List.set_cons_zero, List.set_cons_succ]
                  refine wpAnyH_ready (rs := [6]) (by kernel_rfl) (by simp) ?_
                  refine AllReadyH.cons rfl (fun K hK => ?_) AllReadyH.nil
                  go_simp
                  refine hK.out _ _ ?_ (fun hHeld => ?_)
                  · (try dsimp only); (first | assumption | exact K3.out | (refine HFX.out _ ?_; (repeat (first | exact brefl _ | refine Below.drew ?_ | refine bnew ?_ _)); done))
                  clear hK K
                  try simp only [Act.put, List.setIfInBounds_toArray, List.set_cons_zero, List.set_cons_succ]
                  refine wpAnyH_take (i := 9) (v := ?_) rfl (by kernel_rfl) (by kernel_rfl) (by kernel_rfl) (fun _ _ _ h => h) (Or.inl ⟨by rfl, ?_⟩) (by assumption) ?_
                  rotate_left
                  · intro w hSw; (try dsimp only at hSw); go_simp; (try with_reducible rfl)
                  try simp only [Act.put, List.setIfInBounds_toArray]
                  refine wpAnyH_take (i := 16) (v := ?_) rfl (by kernel_rfl) (by kernel_rfl) (by kernel_rfl) (fun _ _ _ h => h) (Or.inl ⟨by rfl, ?_⟩) (by assumption) ?_
                  rotate_left
                  · intro w hSw; (try dsimp only at hSw); go_simp; (try with_reducible rfl)
                  try simp only [Act.put]
                  refine wpAnyH_ready (rs := [17]) (by kernel_rfl) (by simp) ?_
                  refine AllReadyH.cons rfl (fun K hK => ?_) AllReadyH.nil
                  go_simp
                  refine hK.out _ _ ?_ (fun hHeld => ?_)
                  · (try dsimp only); (first | assumption | exact K3.out | (refine HFX.out _ ?_; (repeat (first | exact brefl _ | refine Below.drew ?_ | refine bnew ?_ _)); done))
                  clear hK K
                  try simp only [Act.put, List.setIfInBounds_toArray, List.set_cons_zero, List.set_cons_succ]
                  refine wpAnyH_ready (rs := [18]) (by kernel_rfl) (by simp) ?_
                  refine AllReadyH.cons rfl (fun K hK => ?_) AllReadyH.nil
                  refine step_pushg (base := w3.heap.size) _ #[.string ⟨et2.toArray⟩, .int .i64 eo2] ?gd (.tmp 148) (.tmp 165) 22 ?ho el_ent (.slice A pj c) pj (entsC PP) ?hs ?own (nb := N + 1 + 1) (m := 1) ?hx ?hxc ?hl ?h1 ?hm ?h63 ?hby ?hba ?_
                  case gd => rfl
                  case ho => rfl
                  case hs => rfl
                  case own => exact own_kept HOX.out (by repeat (first | exact brefl _ | refine Below.drew ?_ | refine bnew ?_ _))
                  case hx => rfl
                  case hxc => exact heap_new_at (by simp [hxs])
                  case hl => rfl
                  case h1 => simp [Value.oneCell']
                  case hm => omega
                  case h63 => unfold maxLen; omega
                  case hby => omega
                  case hba => exact Nat.le_trans hbwx (Below.size (B := WX.heap.size) (by repeat (first | exact brefl _ | refine Below.drew ?_ | refine bnew ?_ _)))
                  intro g cap w7 hown7 hg7 hgm
                  have HG7 := Lib.hid (grown_through (a := WX) (by repeat (first | exact brefl _ | refine Below.drew ?_ | refine bnew ?_ _)) hg7)
                  have HO7 := Lib.hid hown7
                  have HS7 := Lib.hid (HGX.out _ HG7.out)
                  clear hown7 hg7 hgm
                  refine hK.out _ _ ?_ (fun hHeld => ?_)
                  · (try dsimp only); (first | assumption | exact K3.out | exact HS7.out.1 | (refine HFX.out _ ?_; (repeat (first | exact brefl _ | refine Below.drew ?_ | refine bnew ?_ _)); done))
                  clear hK K
                  try simp only [Act.put, List.setIfInBounds_toArray]
                  refine wpAnyH_take (i := 19) (v := ?_) rfl (by kernel_rfl) (by kernel_rfl) (by kernel_rfl) (fun _ _ _ h => h) (Or.inl ⟨by rfl, ?_⟩) (by assumption) ?_
                  rotate_left
                  · intro w hSw; (try dsimp only at hSw); go_simp; (try with_reducible rfl)
                  try simp only [Act.put]
                  refine wpAnyH_done (by kernel_rfl) ?_ _
                  go_wp2_with fail
                  go_roundw
                  case rel => exact ⟨j + 1, pj + 1, some ⟨g, 0, none⟩, cap, by omega, by go_num, rfl, hpj1, ⟨by have := HPJ.out.1; omega, HNEW.out.2⟩, by rw [HNEW.out.1, entsC_app]; exact HO7, HS7.out.2.1, HS7.out.2.2⟩
                  case measure => simp [intOf]; omega
              · obtain rfl : j = qn := by omega
                have hall : xh.l.take j = xh.l := List.take_of_length_le (by rw [HQN.out]; exact Nat.le_refl _)
                rw [hall, ← HBS.out] at HO
                rw [hall] at HPJ
                have hbl : (bodyR ds fin o (ws ++ [x3])).length = pj := by rw [HBS.out, List.length_append, List.length_map, HQN.out, HP.out.2.1, HPJ.out.1]
                have hbt : tlen 0 (bodyR ds fin o (ws ++ [x3])) ≤ 64 := by
                  have h1 := HP.out.2.2
                  have h2 := tlen_le (K := 63) HPJ.out.2
                  rw [HBS.out, tlen_append, tlen_preR _ _ _ (tlen_nonneg _ _ (Int.le_refl _))]
                  split <;> omega
                have HRN2 : Hid (rdW ds.length (szL ds) (dpL ds) (K - (k + 1)) (ws ++ [x3]) (pj : Nat) (tlen 0 (bodyR ds fin o (ws ++ [x3]))) tu3 = R2 ∧ tu3.length + i + 1 ≤ t3.length) := by
                  have h1 := HRN.out
                  rw [hbl] at h1
                  exact h1
                have HPN : Hid (bodyR ds fin o (ws ++ [x3]) = bodyR ds fin o (ws ++ [x3]) ∧ (bodyR ds fin o (ws ++ [x3])).length = pj ∧ tlen 0 (bodyR ds fin o (ws ++ [x3])) ≤ 64) := ⟨rfl, hbl, hbt⟩
                clear hall hbl hbt hent
                go_wp2_with fail
                go_roundw
                case rel => exact ⟨k + 1, tu3, ws ++ [x3], bodyR ds fin o (ws ++ [x3]), pj, A, c, by omega, by go_num, rfl, rfl, hpj, HPN, HO, HRN2, HBJ⟩
                case measure => simp [intOf]; omega
          · obtain rfl : k = K := by omega
            have hR1 := HR.out.1
            rw [Nat.sub_self, rdW] at hR1
            have hnr : NR = (0, (⟨fin, o, ws⟩ : Nd), (pl : Int), tlen 0 P, uu) := by
              rw [HNF.out.1, ← hR1, rdFin_ok (by have := HP.out.2.2; omega)]
            have hinv := HD.out.2.1.snoc (HNR.out.trans hnr)
            have hlr : leftR (ds ++ [⟨fin, o, ws⟩]) ds.length = P := (bodyR_left hinv.fine HD.out.2.1.fine HNF.out.2.1).trans HP.out.1.symm
            have hll : (left (ds ++ [⟨fin, o, ws⟩]) ds.length).length = pl := by rw [← leftR_len, hlr, HP.out.2.1]
            have hlt2 : tlen 0 (left (ds ++ [⟨fin, o, ws⟩]) ds.length) = tlen 0 P := by rw [← tlen_leftR, hlr]
            have HDN : Hid ((ds ++ [(⟨fin, o, ws⟩ : Nd)]).length = i + 1 ∧ RdInv (ds ++ [⟨fin, o, ws⟩]) (szL (ds ++ [⟨fin, o, ws⟩])) (dpL (ds ++ [⟨fin, o, ws⟩])) ∧ rdAll (cnt - (i + 1)) (ds ++ [⟨fin, o, ws⟩]) (szL (ds ++ [⟨fin, o, ws⟩])) (dpL (ds ++ [⟨fin, o, ws⟩])) uu = RA ∧ uu.length + (i + 1) ≤ t3.length) := by
              rw [szL_snoc HD.out.2.1.fine, dpL_snoc HD.out.2.1.fine, hll, hlt2]
              exact ⟨by rw [List.length_append, hdl]; rfl, hinv, HGO.out _ _ _ _ hnr, by have := HR.out.2; omega⟩
            have HLS : Hid ((H ++ [(⟨P, A, c⟩ : Lh)]).map (·.l) = leftsR (ds ++ [⟨fin, o, ws⟩])) := by
              show _ = _
              rw [List.map_append, HNS3.out.2, leftsR_snoc HD.out.2.1.fine, hlr]
              rfl
            have NSK := Lib.hid (HNS3.out.1.below HBK.out)
            have HPL := Lib.hid HP.out.2.1
            have HBW : Hid (Below w2.heap.size w2 wr) := HB3.out.trans (HBK.out.mono HB3.out.size)
            have hbw := HBW.out.size
            have HOL := Lib.hid (own_lower HO.out HB3.out.size)
            clear hR1 hnr hinv hlr hll hlt2 hdl HO
            go_wp2_with (at_builtin; refine wpList_push w2 wr _ rfl _ _ _ rfl el_ents _ _ _ rfl NSK.out.row rfl (by simp) rfl (by simp [Value.oneCell']) (by unfold maxLen; omega) (by omega) hbw HBW.out ?_; intro v9 w9 hown9 hb9 hg9 _; obtain ⟨A9, c9, rfl, _⟩ := own_shape hown9; have HO9 := Lib.hid hown9; have HB9 := Lib.hid hb9; have HG9 := Lib.hid hg9; clear hown9 hb9 hg9)
            have HNS9 : Hid (NsAt w9 w2.heap.size A9 (i + 1) c9 (H ++ [⟨P, A, c⟩]) ∧ (H ++ [(⟨P, A, c⟩ : Lh)]).map (·.l) = leftsR (ds ++ [⟨fin, o, ws⟩])) := by
              refine ⟨⟨by rw [List.length_append, NSK.out.hn]; rfl, ?_, fun y hy => ?_⟩, HLS.out⟩
              · have h1 := HO9.out
                rw [List.flatMap_append]
                have e : List.flatMap Lh.hdr [(⟨P, A, c⟩ : Lh)] = [.slice A pl c] := by show [Value.slice A P.length c] = _; rw [HPL.out]
                rw [e]
                exact h1
              · rcases List.mem_append.1 hy with hy | hy
                · exact (NSK.out.ent y hy).kept HG9.out (own_types NSK.out.row (NSK.out.ent y hy) (by decide))
                · rw [List.mem_singleton.1 hy]
                  show World.ownsRow _ _ _ _ (.slice A P.length c) P.length (entsC P)
                  rw [HPL.out]
                  exact HOL.out.kept HG9.out (own_types NSK.out.row HOL.out (by decide))
            go_roundw
            case rel => exact ⟨i + 1, uu, A9, c9, H ++ [⟨P, A, c⟩], ds ++ [⟨fin, o, ws⟩], by omega, by go_num, rfl, rfl, HNS9, HDN, HB9⟩
            case measure => simp [intOf]; omega
    · obtain rfl : i = cnt := by omega
      have hR1 := HD.out.2.2.1
      rw [Nat.sub_self, rdAll] at hR1
      have hfine := HD.out.2.1.fine
      have hdl := HD.out.1
      by_cases hu : u = []
      rotate_left
      · have q1 : u.isEmpty = false := by
          cases u with
          | nil => exact absurd rfl hu
          | cons _ _ => rfl
        have HE : Hid (openG t i v3 RA = (5, [], 0, 0)) := by
          show _ = _
          rw [← hR1]
          exact openG_2 hu
        clear hR1 hfine hdl hu
        go_wp2_with fail
        go_ret2
        exact ⟨HB2.out.trans (HB.out.mono HB2.out.size), .inr ⟨by rw [HE.out]; simp, by rw [HE.out]; rfl⟩⟩
      subst hu
      have HOP : Hid ((rightE (allE ds v3) ≠ 0 ∨ buildS (allE ds v3) ≠ ⟨t.toArray⟩ → openG t i v3 RA = (3, [], 0, 0)) ∧ (¬ (rightE (allE ds v3) ≠ 0 ∨ buildS (allE ds v3) ≠ ⟨t.toArray⟩) → (openG t i v3 RA).1 = 0 ∧ (openG t i v3 RA).2.1 = ds ∧ (openG t i v3 RA).2.2.1 = v3)) := by
        rw [← hR1]
        exact ⟨fun h => openG_3 h, fun h => by rw [openG_4 h]; exact ⟨rfl, rfl, rfl⟩⟩
      have hcb := HB.out.size
      by_cases h0 : i = 0
      focus
        subst h0
        have hds : ds = [] := List.eq_nil_of_length_eq_zero hdl
        have hall : allE ds v3 = [] := by rw [hds]; rfl
        go_wp2_with fail
        have HAL : Hid (allE ds v3 = [] ∧ ([] : List Ent).length = 0) := ⟨hall, rfl⟩
        clear hds hall
        go_loopw [23] (fun jv wj => jv = .int .i64 0 ∧ wj = wr) (fun _ _ => 0)
        case atStart => exact ⟨rfl, rfl⟩
        case round =>
          obtain ⟨rfl, hww⟩ := hrel
          have HBJ : Hid (Below w2.heap.size w2 wr) := by rw [hww]; exact HB.out
          clear hww
          obtain ⟨L, hL⟩ : ∃ L, allE ds v3 = L := ⟨_, rfl⟩
          have hL0 : L = [] := hL.symm.trans HAL.out.1
          rw [hL] at HOP
          have HLL : Hid (allE ds v3 = L ∧ L.length = 0) := ⟨hL, by rw [hL0]; rfl⟩
          have HOJ : Hid (wr.ownsRow w2.heap.size 26 2 (.slice none 0 0) 0 (entsC L)) := by rw [hL0]; exact ⟨rfl, .inl ⟨rfl, rfl⟩⟩
          have HEN : Hid (Ents wr wr.heap.size none 0 0 L) := ⟨Sl.of_own HOJ.out, Nat.le_refl _, by omega⟩
          have HFT : Hid (∀ e ∈ L, fits64 e.2) := by rw [hL0]; exact fun e he => by cases he
          clear hL hL0
          obtain ⟨BS, hBS⟩ : ∃ b, buildS L = b := ⟨_, rfl⟩
          obtain ⟨RS, hRS⟩ : ∃ r, rightE L = r := ⟨_, rfl⟩
          rw [hBS, hRS] at HOP
          have HBU := Lib.hid (rbuild_any rnode_at' wr wr.heap.size (Nat.le_refl _) none 0 0 L HEN.out HFT.out)
          rw [hBS, hRS] at HBU
          have HBWW : Hid (Below w.heap.size w wr) := HB2.out.trans (HBJ.out.mono HB2.out.size)
          go_wp2_with fail
          refine HBU.out.mono ?_
          rintro e w7 ⟨rfl, hb7⟩
          have HB7 := Lib.hid (bcall HBWW.out hb7)
          have HO7 := Lib.hid (own_kept HOJ.out hb7)
          clear hb7 HBU HEN
          by_cases hr0 : RS = 0
          · have q5 : (RS != 0) = false := by simpa using hr0
            have hse := str_eqL BS t
            by_cases hbt : BS = ⟨t.toArray⟩
            · rw [decide_eq_true hbt] at hse
              have HE := Lib.hid (HOP.out.2 (by exact fun h => h.elim (fun h => h hr0) (fun h => h hbt)))
              clear hr0 hbt
              go_wp2_with fail
              go_ret2
              exact ⟨HB7.out, .inl ⟨HE.out.1, _, rfl, by rw [HE.out.2.1, HE.out.2.2, HLL.out.1, HLL.out.2]; exact own_lower HO7.out HB2.out.size⟩⟩
            · rw [decide_eq_false hbt] at hse
              have HE := Lib.hid (HOP.out.1 (.inr hbt))
              clear hr0 hbt
              go_wp2_with fail
              go_ret2
              exact ⟨HB7.out, .inr ⟨by rw [HE.out]; simp, by rw [HE.out]; rfl⟩⟩
          · have q5 : (RS != 0) = true := by simpa using hr0
            have HE := Lib.hid (HOP.out.1 (.inl hr0))
            clear hr0
            go_wp2_with fail
            go_ret2
            exact ⟨HB7.out, .inr ⟨by rw [HE.out]; simp, by rw [HE.out]; rfl⟩⟩
      rotate_left
      focus
        obtain ⟨im, him⟩ : ∃ m, i = m + 1 := ⟨i - 1, by omega⟩
        have hidx : (i : Int) - 1 = (im : Int) := by omega
        obtain ⟨xh, hxh⟩ : ∃ x, H[im]? = some x := ⟨H[im]'(by rw [HNS.out.1.hn]; omega), List.getElem?_eq_getElem _⟩
        have hxl : xh.l = leftR ds im := by
          have h1 : (H.map (·.l))[im]? = some xh.l := by rw [List.getElem?_map, hxh]; rfl
          rw [HNS.out.2, leftsR_get (by omega)] at h1
          injection h1 with h1
          exact h1.symm
        obtain ⟨gn, rfl, _, hgn⟩ := own_head HNS.out.1.row (by omega)
        have kn := HNS.out.1.row.cells (g := gn) rfl im (.slice xh.A xh.l.length xh.c) (by
          have := flat_at Lh.hdr 1 (fun _ => rfl) H im 0 xh hxh (by omega)
          rw [Nat.mul_one, Nat.add_zero] at this
          rw [this]
          rfl)
        rw [Addr.add_lit, Nat.zero_add] at kn
        have hqm : xh.l.length ≤ 65536 := by
          rw [hxl, leftR_len]
          have h1 := (getD_in HD.out.2.1.szb ⟨by omega, by omega⟩ im).2
          rw [szL_get (by omega)] at h1
          omega
        have hds : ds ≠ [] := fun e => by rw [e] at hdl; simp at hdl; omega
        have hall := allE_R hfine v3 hds
        rw [show ds.length - 1 = im by omega, ← hxl] at hall
        have HHE := Lib.hid (HNS.out.1.ent xh (List.mem_of_getElem? hxh))
        obtain ⟨L0, hL0⟩ : ∃ l, xh.l = l := ⟨_, rfl⟩
        rw [hL0] at hall hqm kn HHE
        obtain ⟨A0, hA0⟩ : ∃ A, xh.A = A := ⟨_, rfl⟩
        obtain ⟨c0', hc0⟩ : ∃ c, xh.c = c := ⟨_, rfl⟩
        rw [hA0, hc0] at kn HHE
        obtain ⟨n0, hn0⟩ : ∃ n, L0.length = n := ⟨_, rfl⟩
        rw [hn0] at kn HHE hqm
        have HAL : Hid (allE ds v3 = L0.map (fun e => (e.1, IntKind.i64.wrap (e.2 + v3))) ∧ L0.length = n0) := ⟨hall, hn0⟩
        have hn65 := hqm
        have hil1 : (i : Int) - 1 < (i : Int) := by omega
        have q1 : decide ((i : Int) > 0) = true := decide_eq_true (by omega)
        have q2 : decide (i > 0) = true := decide_eq_true (by omega)
        have q3 : decide (0 < i) = true := decide_eq_true (by omega)
        clear hxl hxh hds hall hL0 hA0 hc0 hn0 hqm
        go_wp2_with fail
        have HO0 : Hid (wr.ownsRow w2.heap.size 26 2 (.slice A0 n0 c0') n0 (entsC ((L0.take 0).map (fun e => (e.1, IntKind.i64.wrap (e.2 + v3))) ++ L0.drop 0))) := HHE.out
        go_loopw [23] (fun jv wj => ∃ j : Nat, j ≤ n0 ∧ jv = .int .i64 j ∧ Hid (wj.ownsRow w2.heap.size 26 2 (.slice A0 n0 c0') n0 (entsC ((L0.take j).map (fun e => (e.1, IntKind.i64.wrap (e.2 + v3))) ++ L0.drop j))) ∧ Hid (Below w2.heap.size w2 wj)) (fun jv _ => n0 - (intOf jv).toNat)
        case atStart => exact ⟨0, Nat.zero_le _, rfl, HO0, HB⟩
        case round =>
          clear HO0 HHE kn c0 c1
          obtain ⟨j, hj, rfl, HOJ, HBJ⟩ := hrel
          obtain ⟨c0, c1⟩ := HFC.out wr HBJ.out
          by_cases hjl : j < n0
          · obtain ⟨⟨et, eo⟩, hee⟩ : ∃ e, L0[j]? = some e := ⟨L0[j]'(by rw [HAL.out.2]; exact hjl), List.getElem?_eq_getElem _⟩
            have hdrop : L0.drop j = (et, eo) :: L0.drop (j + 1) := by
              obtain ⟨h1, h2⟩ := List.getElem?_eq_some_iff.1 hee
              rw [List.drop_eq_getElem_cons h1, h2]
            have htake : (L0.take (j + 1)).map (fun e => (e.1, IntKind.i64.wrap (e.2 + v3))) = (L0.take j).map (fun e => (e.1, IntKind.i64.wrap (e.2 + v3))) ++ [(et, IntKind.i64.wrap (eo + v3))] := by
              rw [List.take_add_one, hee, List.map_append]
              rfl
            have hla : ((L0.take j).map (fun e : Ent => (e.1, IntKind.i64.wrap (e.2 + v3)))).length = j := by
              rw [List.length_map, List.length_take, HAL.out.2]
              omega
            rw [hdrop] at HOJ
            obtain ⟨g, rfl, hbg, hgl⟩ := own_head HOJ.out (by omega)
            have hcell := HOJ.out.cells (g := g) rfl (j * 2 + 1) (.int .i64 eo) (by
              unfold entsC
              rw [flat_at entC 2 (fun _ => rfl) _ j 1 (et, eo) (by rw [List.getElem?_append_right (by omega), hla, Nat.sub_self]; rfl) (by omega)]
              rfl)
            rw [Addr.add_lit, Nat.zero_add] at hcell
            have hfr : wr.frozen? ⟨g, j * 2 + 1, none⟩ = false := by
              rcases HOJ.out.2 with ⟨hv, _⟩ | ⟨g', cap, cur, hv, _, hg, _⟩
              · cases hv
              · injection hv with hv _ _
                injection hv with hv
                injection hv with hv _ _
                subst hv
                exact free_at hg _
            obtain ⟨z, hz⟩ : ∃ z, IntKind.i64.wrap (eo + v3) = z := ⟨_, rfl⟩
            have HOP2 : Hid ((wr.setCell ⟨g, j * 2 + 1, none⟩ (.int .i64 z)).ownsRow w2.heap.size 26 2 (.slice (some ⟨g, 0, none⟩) n0 c0') n0 (entsC ((L0.take (j + 1)).map (fun e => (e.1, IntKind.i64.wrap (e.2 + v3))) ++ L0.drop (j + 1)))) := by
              have h1 := own_put (j := j * 2 + 1) (u := .int .i64 z) HOJ.out
              rw [entsC_set _ _ et eo z (by rw [hla])] at h1
              rw [htake, List.append_assoc, hz]
              exact h1
            have HBP := Lib.hid (below_set (k := g) (j := j * 2 + 1) (u := .int .i64 z) HBJ.out hbg (Nat.le_refl _))
            clear hdrop htake hla hee HOJ HBJ
            go_wp2_with fail
            go_region
            all_goals
              go_wp2_with fail
              go_roundw
              case rel => exact ⟨j + 1, by omega, by go_num, HOP2, by first | exact HBP | exact Below.drew HBP.out⟩
              case measure => simp [intOf]; omega
          · obtain rfl : j = n0 := by omega
            rw [List.take_of_length_le (by rw [HAL.out.2]; exact Nat.le_refl _), List.drop_of_length_le (by rw [HAL.out.2]; exact Nat.le_refl _), List.append_nil, ← HAL.out.1] at HOJ
            have hft : ∀ e ∈ allE ds v3, fits64 e.2 := by
              rw [HAL.out.1]
              intro e he
              obtain ⟨y, _, rfl⟩ := List.mem_map.1 he
              show fits64 (IntKind.i64.wrap _)
              rw [IntKind.wrap_i64]
              exact ⟨by omega, by omega⟩
            have hln : (allE ds v3).length = j := by rw [HAL.out.1, List.length_map, HAL.out.2]
            obtain ⟨L, hL⟩ : ∃ L, allE ds v3 = L := ⟨_, rfl⟩
            rw [hL] at HOP HOJ hft hln
            have HLL : Hid (allE ds v3 = L ∧ L.length = j) := ⟨hL, hln⟩
            obtain ⟨_, _, hvv, hnc⟩ := own_shape HOJ.out
            injection hvv with hv1 _ hv3
            subst hv1 hv3
            have HEN : Hid (Ents wr wr.heap.size A0 j c0' L) := ⟨Sl.of_own HOJ.out, hnc, by omega⟩
            have HFT := Lib.hid hft
            clear hL hft hln hnc
            obtain ⟨BS, hBS⟩ : ∃ b, buildS L = b := ⟨_, rfl⟩
            obtain ⟨RS, hRS⟩ : ∃ r, rightE L = r := ⟨_, rfl⟩
            rw [hBS, hRS] at HOP
            have HBU := Lib.hid (rbuild_any rnode_at' wr wr.heap.size (Nat.le_refl _) A0 j c0' L HEN.out HFT.out)
            rw [hBS, hRS] at HBU
            have HBWW : Hid (Below w.heap.size w wr) := HB2.out.trans (HBJ.out.mono HB2.out.size)
            go_wp2_with fail
            refine HBU.out.mono ?_
            rintro e w7 ⟨rfl, hb7⟩
            have HB7 := Lib.hid (bcall HBWW.out hb7)
            have HO7 := Lib.hid (own_kept HOJ.out hb7)
            clear hb7 HBU HEN
            by_cases hr0 : RS = 0
            · have q5 : (RS != 0) = false := by simpa using hr0
              have hse := str_eqL BS t
              by_cases hbt : BS = ⟨t.toArray⟩
              · rw [decide_eq_true hbt] at hse
                have HE := Lib.hid (HOP.out.2 (by exact fun h => h.elim (fun h => h hr0) (fun h => h hbt)))
                clear hr0 hbt
                go_wp2_with fail
                go_ret2
                exact ⟨HB7.out, .inl ⟨HE.out.1, _, rfl, by rw [HE.out.2.1, HE.out.2.2, HLL.out.1, HLL.out.2]; exact own_lower HO7.out HB2.out.size⟩⟩
              · rw [decide_eq_false hbt] at hse
                have HE := Lib.hid (HOP.out.1 (.inr hbt))
                clear hr0 hbt
                go_wp2_with fail
                go_ret2
                exact ⟨HB7.out, .inr ⟨by rw [HE.out]; simp, by rw [HE.out]; rfl⟩⟩
            · have q5 : (RS != 0) = true := by simpa using hr0
              have HE := Lib.hid (HOP.out.1 (.inl hr0))
              clear hr0
              go_wp2_with fail
              go_ret2
              exact ⟨HB7.out, .inr ⟨by rw [HE.out]; simp, by rw [HE.out]; rfl⟩⟩
end Go.Proofs.YtheickndnniomaaDoor
