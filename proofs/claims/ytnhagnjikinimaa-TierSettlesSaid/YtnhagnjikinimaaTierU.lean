/- The law TierSettles: its walk. -/
import Derived.Test.YtnhagnjikinimaaTierT
namespace Go.Proofs.Ytnhagnjikinimaa
open Go.RowKit

theorem tier_first {l : List Seg} (h : ¬ NoTier l 21) : ∃ t, t < 21 ∧ NoTier l t ∧ 4 ≤ (idxs (tierQ l t) l.length).length := by
  have key : ∀ m, m ≤ 21 → NoTier l m ∨ ∃ t, t < m ∧ NoTier l t ∧ 4 ≤ (idxs (tierQ l t) l.length).length := by
    intro m
    induction m with
    | zero => exact fun _ => .inl fun s hs => absurd hs (by omega)
    | succ m ih =>
      intro hm
      rcases ih (by omega) with h | ⟨t, h1, h2, h3⟩
      · by_cases h4 : 4 ≤ (idxs (tierQ l m) l.length).length
        · exact .inr ⟨m, by omega, h, h4⟩
        · exact .inl (noTier_succ h (by omega))
      · exact .inr ⟨t, by omega, h2, h3⟩
  rcases key 21 (by omega) with h' | ⟨t, h1, h2, h3⟩
  · exact absurd h' h
  · exact ⟨t, h1, h2, h3⟩
theorem settled {l : List Seg} (h : (pickF l).length = 0) : (∀ j, j < l.length → emptyQ l j = false) ∧ NoTier l 21 := by
  have hE : ¬ 0 < (idxs (emptyQ l) l.length).length := fun h1 => by rw [pickF_empty h1] at h; omega
  refine ⟨fun j hj => ?_, ?_⟩
  · rw [Bool.eq_false_iff]
    intro hq
    exact hE (idxs_has hj hq)
  · refine Classical.byContradiction fun hn => ?_
    obtain ⟨t, ht, h1, h4⟩ := tier_first hn
    rw [pickF_tier hE ht h1 h4, List.length_take] at h
    omega
def Cnt (l : List Seg) (t k : Nat) : Nat := (idxs (tierQ l t) k).length
theorem cnt_hit {l : List Seg} {k : Nat} (hk : k < l.length) : Cnt l (tierN (l[k].docs - l[k].gone)) (k + 1) = Cnt l (tierN (l[k].docs - l[k].gone)) k + 1 := by
  unfold Cnt
  rw [idxs_hit (by unfold tierQ; rw [liveAt_eq hk]; simp)]
  simp
theorem cnt_miss {l : List Seg} {k t : Nat} (hk : k < l.length) (h : t ≠ tierN (l[k].docs - l[k].gone)) : Cnt l t (k + 1) = Cnt l t k := by
  unfold Cnt
  rw [idxs_miss (by unfold tierQ; rw [liveAt_eq hk, decide_eq_false_iff_not]; omega)]
theorem cnt_le {l : List Seg} {t k : Nat} (hk : k ≤ l.length) : Cnt l t k ≤ Cnt l t l.length := by
  unfold Cnt
  obtain ⟨r, hr⟩ := idxs_mono (tierQ l t) k (l.length - k)
  rw [show k + (l.length - k) = l.length by omega] at hr
  rw [hr, List.length_append]
  omega

def CountIs (wr : World) (g : Nat) (l : List Seg) (k : Nat) : Prop := ∀ s : Nat, s < 30 → wr.cell? ⟨g, s, none⟩ = some (.int .i64 (Cnt l s k)) ∧ wr.frozen? ⟨g, s, none⟩ = false
theorem count_drewN {wr : World} {g k m : Nat} {l : List Seg} (h : CountIs wr g l k) : CountIs (wr.drewN m) g l k := h
theorem count_step {wr : World} {g k : Nat} {l : List Seg} (hk : k < l.length) (h : CountIs wr g l k) :
    CountIs (wr.setCell ⟨g, tierN (l[k].docs - l[k].gone), none⟩ (.int .i64 ((Cnt l (tierN (l[k].docs - l[k].gone)) k : Int) + 1))) g l (k + 1) := by
  intro s hs
  obtain ⟨h1, h2⟩ := h s hs
  refine ⟨?_, by rw [World.frozen?_setCell]; exact h2⟩
  by_cases e : s = tierN (l[k].docs - l[k].gone)
  · subst e
    rw [World.cell?_setCell_same _ _ _ h1, cnt_hit hk]
    simp
  · rw [World.cell?_setCell_other _ _ _ _ (by simp), h1, cnt_miss hk e]

theorem allTo_bound {l : List Seg} (h : segsOk l = true) : ∀ {k : Nat}, k ≤ l.length → 0 ≤ allTo l k ∧ allTo l k ≤ 1048576 * (k : Int)
  | 0, _ => ⟨Int.le_refl _, by simp [allTo]⟩
  | k + 1, hk => by
    have ih := allTo_bound h (k := k) (by omega)
    have := live_nonneg h k
    unfold allTo
    omega
theorem pickF_len (l : List Seg) : (pickF l).length ≤ l.length := by
  rcases (pick_good l).many with ⟨_, h⟩ | ⟨_, h⟩
  · rw [h]; exact idxs_len _ _
  · rcases Nat.lt_or_ge l.length (pickF l).length with h2 | h2
    · rcases h with h | h
      · omega
      · have h3 := pickR_len l
        unfold pickR at h3
        cases hok : segsOk l with
        | true => rw [hok] at h3; simpa using h3
        | false =>
          unfold pickF
          split
          · exact idxs_len _ _
          · split
            · rw [List.length_take]; have := idxs_len (tierQ l (‹Nat› : Nat)) l.length; omega
            · simp
    · exact h2
theorem dcell (w : World) (n : Nat) (a : Addr) : (w.drewN n).cell? a = w.cell? a := rfl
theorem count_start (w : World) (l : List Seg) : CountIs (w.alloc (.cells (Array.replicate 30 (.int .i64 0)) 38)) w.heap.size l 0 := by
  intro s hs
  have hb := heap_alloc_new w (.cells (Array.replicate 30 (.int .i64 0)) 38)
  refine ⟨?_, frozen_of_row _ _ _ _ _ hb⟩
  rw [cell_of_row _ w.heap.size s _ _ (0, 0) hb]
  simp [hs, Cnt, idxs]
def lenOf : Value → Nat | .slice _ n _ => n | _ => 0
def Now (w : World) (l : List Seg) (v : Value) (wr : World) : Prop :=
  ∃ (m : List Seg) (A : Option Addr) (c : Nat), v = .slice A m.length c ∧ Sl wr wr.heap.size 4 A m.length (segCells m) ∧ Hid (segsOk m = true) ∧ Hid (liveSum m = liveSum l) ∧ m.length ≤ 300 ∧ Below w.heap.size w wr

set_option maxHeartbeats 1000000 in
theorem settles_early (w : World) (A : Option Addr) (n c : Nat) (l : List Seg) (hin : SegsIn w A n c l) (h : segsOk l = false ∨ (segsOk l = true ∧ 300 < n)) :
    Calls Try.prog 4 #[.slice A n c] w fun e w' => e = .returned (.bool true) ∧ Below w.heap.size w w' := by
  obtain ⟨hlen, hcap, hcm, hnone, hreach, hsl⟩ := hin
  subst hlen
  rcases h with hok | ⟨hok, h300⟩
  all_goals
    go_enter Try.func4, Try.ntmps4
    go_wp2_with fail
    refine (awake_any _).mono ?_
    rintro e w1 ⟨rfl, hb1⟩
    go_wp2_with fail
    refine (check_any _ _ l _ ((hsl.below hb1).more hb1.size) (by omega)).mono ?_
    first | rw [err_bad hok] | rw [err_ok hok]
    rintro e w2 ⟨rfl, hb2⟩
    clear hsl hok
    go_wp2_with fail
    refine (awake_any _).mono ?_
    rintro e w3 ⟨rfl, hb3⟩
    go_wp2
    go_ret
    exact ⟨rfl, bcall (bcall hb1 hb2) hb3⟩

set_option maxRecDepth 100000 in
set_option maxHeartbeats 8000000 in
theorem settles_walk (w : World) (A : Option Addr) (n c : Nat) (l : List Seg) (hin : SegsIn w A n c l) :
    Calls Try.prog 4 #[.slice A n c] w fun e w' => e = .returned (.bool true) ∧ Below w.heap.size w w' := by
  by_cases hearly : segsOk l = false ∨ (segsOk l = true ∧ 300 < n)
  · exact settles_early w A n c l hin hearly
  have hok : Hid (segsOk l = true) := by
    cases h : segsOk l with
    | true => rfl
    | false => exact absurd (.inl h) hearly
  have h300 : n ≤ 300 := by
    rcases Nat.lt_or_ge 300 n with h | h
    · exact absurd (.inr ⟨hok.out, h⟩) hearly
    · exact h
  clear hearly
  obtain ⟨hlen, hcap, hcm, hnone, hreach, hsl⟩ := hin
  subst hlen
  have hnone' : A = none → l.length = 0 := fun e => by have := hnone e; omega
  clear hcap hcm hreach hnone
  have hcheck : ∀ (W : World), Sl W W.heap.size 4 A l.length (segCells l) → Calls Try.prog 11 #[.slice A l.length c] W fun e w' => e = .returned (.int .i64 0) ∧ Below W.heap.size W w' := fun W hs => by
    have h0 := check_any A c l W hs (by omega)
    rw [hok.out] at h0
    exact h0
  have HC := Lib.hid hcheck
  clear hcheck
  go_enter Try.func4, Try.ntmps4
  go_wp2_with fail
  refine (awake_any _).mono ?_
  rintro e w1 ⟨rfl, hb1⟩
  go_wp2_with fail
  refine (HC.out _ ((hsl.below hb1).more hb1.size)).mono ?_
  rintro e w2 ⟨rfl, hb2⟩
  have hb := bcall hb1 hb2
  have hS : Sl w2 w2.heap.size 4 A l.length (segCells l) := (hsl.below hb).more hb.size
  clear hsl hb1 hb2 HC
  go_wp2
  go_loopw [3, 4] (fun d i wr => ∃ k : Nat, k ≤ l.length ∧ i = .int .i64 k ∧ d = .int .i64 (allTo l k) ∧ ∃ q, wr = w2.drewN q) (fun _ i _ => l.length - (intOf i).toNat)
  case atStart => exact ⟨0, by omega, rfl, rfl, 0, rfl⟩
  case round =>
    obtain ⟨k, hk, rfl, rfl, q, rfl⟩ := hrel
    have hall := allTo_bound hok.out hk
    by_cases hlt : k < l.length
    · obtain ⟨b, off, rfl, hbB, s0, s1, s2, s3⟩ := seg_at hS hlt
      obtain ⟨g1, g2, g3, g4⟩ := seg_ok_at hok.out hlt
      clear hnone'
      go_wp2
      go_quiet (fail)
      go_wp2
      go_roundw
      case rel => exact ⟨k + 1, by omega, by go_num, by rw [allTo, liveAt_eq hlt], _, rfl⟩
      case measure => simp [intOf]; omega
    · obtain rfl : k = l.length := by omega
      have hbq : Below w.heap.size w (w2.drewN q) := below_drewN hb q
      have hSq : Sl (w2.drewN q) (w2.drewN q).heap.size 4 A l.length (segCells l) := hS
      clear hS hb
      generalize w2.drewN q = W at *
      by_cases hbig : 1048576 < allTo l l.length
      · go_wp2
        go_ret
        exact ⟨rfl, hbq⟩
      · go_wp2_with (at_builtin; refine wpList_append_sl w _ rfl _ _ _ rfl el_seg _ 0 [] rfl (World.ownsRow_lit _ #[] 0 hbq.size (Nat.zero_le _) rfl) rfl (hSq.alloc (Nat.le_refl _) _) hnone' (segCells_one l) (by unfold maxLen; omega) (by omega) (bnew hbq _).size (bnew hbq _) ?_; intro v3 w3 hown3 hb3 _ _)
        have hD : Hid (liveSum l = allTo l l.length) := (allTo_all l).symm
        have hdb : allTo l l.length ≤ 1048576 := by omega
        simp only [Nat.zero_add, List.nil_append] at hown3
        obtain ⟨A3, c3, rfl, _⟩ := own_shape hown3
        have h3 : Now w l (.slice A3 l.length c3) w3 := ⟨l, A3, c3, rfl, Sl.of_own hown3, hok, rfl, h300, hb3⟩
        clear hown3 hSq hbq hb3 hnone' hbig hall
        go_wp2
        go_loopw [5] (fun v wr => Now w l v wr) (fun v _ => lenOf v)
        case atStart => exact h3
        case round =>
          obtain ⟨m, Am, cm, rfl, hSm, hokm, hsm, hm300, hbm⟩ := hrel
          have hpick := pick_ok Am cm m wr hSm (by omega) hokm
          have HP := Lib.hid hpick
          clear hpick
          by_cases hp0 : (pickF m).length = 0
          · go_wp2_with fail
            refine HP.out.mono ?_
            rintro e w5 ⟨vp, rfl, hvp, hb5⟩
            obtain ⟨Ap, cp, rfl, _⟩ := own_shape hvp
            obtain ⟨hne, hno⟩ := settled hp0
            have hS5 : Sl w5 w5.heap.size 4 Am m.length (segCells m) := (hSm.below hb5).more hb5.size
            have hbw5 := bcall hbm hb5
            clear hSm hvp HP h3
            go_wp2
            go_loopw [9, 11] (fun z i wr => ∃ k : Nat, k ≤ m.length ∧ i = .int .i64 k ∧ z = .int .i64 (allTo m k) ∧ CountIs wr w5.heap.size m k ∧ Below w5.heap.size w5 wr) (fun _ i _ => m.length - (intOf i).toNat)
            case atStart => exact ⟨0, by omega, rfl, rfl, count_start w5 m, bnew (brefl w5) _⟩
            case round =>
              obtain ⟨k, hk, rfl, rfl, hcnt, hbr⟩ := hrel
              have hall := allTo_bound hokm.out hk
              by_cases hlt : k < m.length
              · obtain ⟨b, off, rfl, hbB, s0, s1, s2, s3⟩ := seg_at (hS5.below hbr) hlt
                obtain ⟨g1, g2, g3, g4⟩ := seg_ok_at hokm.out hlt
                have hpos : 1 ≤ m[k].docs - m[k].gone := by
                  have := hne k hlt
                  unfold emptyQ at this
                  rw [liveAt_eq hlt] at this
                  simp at this
                  omega
                have ht := tierN_le (m[k].docs - m[k].gone)
                have hc1 := cnt_hit hlt
                have hc2 := cnt_le (l := m) (t := tierN (m[k].docs - m[k].gone)) (show k + 1 ≤ m.length by omega)
                have hc3 : Cnt m (tierN (m[k].docs - m[k].gone)) m.length < 4 := hno _ (by omega)
                have hc4 : Cnt m (tierN (m[k].docs - m[k].gone)) k < 3 := by omega
                obtain ⟨hcell, hfz⟩ := hcnt (tierN (m[k].docs - m[k].gone)) (by omega)
                clear hc1 hc2 hc3 hno hne
                go_wp2
                go_quiet (fail)
                have hcell := (dcell wr nq _).trans hcell
                have hfz : (wr.drewN nq).frozen? ⟨w5.heap.size, tierN (m[k].docs - m[k].gone), none⟩ = false := hfz
                have hcs := Lib.hid (count_step hlt (count_drewN (m := nq) hcnt))
                have hbr2 := below_drewN hbr nq
                clear hcnt hbr s0 s1 s2 s3
                generalize wr.drewN nq = W2 at *
                go_wp2_with (go_at_call 13; refine (tier_any _ _).mono ?_; rintro e w6 ⟨rfl, rfl⟩)
                go_roundw
                case rel => exact ⟨k + 1, by omega, by go_num, by rw [allTo, liveAt_eq hlt], hcs.out, hbr2.setCell (Nat.le_refl _) _⟩
                case measure => simp [intOf]; omega
              · obtain rfl : k = m.length := by omega
                have hfin : (allTo m m.length == allTo l l.length) = true := by rw [allTo_all, hsm.out, hD.out]; simp
                clear hsm hcnt hno hne
                go_wp2
                go_ret
                exact ⟨rfl, bcall hbw5 hbr⟩
          · have hm0 := Lib.hid (merged_less hp0)
            have hpl := pickF_len m
            have d1 : (((pickF m).length : Int) == 0) = false := by simpa using hp0
            clear hp0 h3
            go_wp2_with fail
            refine HP.out.mono ?_
            rintro e w5 ⟨vp, rfl, hvp, hb5⟩
            obtain ⟨Ap, cp, rfl, _⟩ := own_shape hvp
            have hbw5 := bcall hbm hb5
            go_wp2_with fail
            refine (merged_any _ _ _ _ m (pickF m) _ ((hSm.below hb5).more hb5.size) (Sl.of_own hvp) hokm (by omega) (by omega) (by rw [hsm.out, hD.out]; exact hdb)).mono ?_
            rintro e w6 ⟨vm, rfl, hvm, hb6⟩
            obtain ⟨A6, c6, rfl, _⟩ := own_shape hvm
            have hbw6 := bcall hbw5 hb6
            have hlt := hm0.out
            have d2 : decide ((m.length : Int) ≤ ((merged m (pickF m)).length : Int)) = false := by simp; omega
            have hN : Hid (Now w l (.slice A6 (merged m (pickF m)).length c6) w6) := ⟨merged m (pickF m), A6, c6, rfl, Sl.of_own hvm, merged_ok hokm.out (by rw [hsm.out, hD.out]; exact hdb) _, (merged_sum hokm.out _).trans hsm.out, by omega, hbw6⟩
            clear hSm hvp hvm hb5 hb6 HP hsm hokm
            go_wp2
            go_roundw
            case rel => exact hN.out
            case measure => exact hlt
end Go.Proofs.Ytnhagnjikinimaa
