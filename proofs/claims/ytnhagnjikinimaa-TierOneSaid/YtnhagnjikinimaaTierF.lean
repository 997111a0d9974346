/- tier.Pick: what it returns. -/
import Derived.Test.YtnhagnjikinimaaTierP
namespace Go.Proofs.Ytnhagnjikinimaa
open Go.RowKit Go.ChangeShapes Go.Maps

theorem key_int : Keyed Try.prog 3 := int_keyed Try.underlying3
theorem zero_ints (w : World) : (zeroValue 25).run Try.prog w = .ok (.slice none 0 0) w := by kernel_rfl

def PickAt (w : World) (mb : Nat) (l : List Seg) (j k : Nat) (v : Value) (wr : World) : Prop :=
  wr.ownsRow w.heap.size 3 1 v (idxs (emptyQ l) j).length (ints (idxs (emptyQ l) j)) ∧ Below w.heap.size w wr ∧ w.heap.size ≤ mb ∧ mb < wr.heap.size ∧ v.ownBlock ≠ some mb ∧
    ∃ D : DataW Unit, wr.ownsGroups Try.prog 3 (mb + 1) 3 .i64 mb k D ∧ wr.Shuns mb (fun g => v.ownBlock = some g) ∧ GroupsAre D fun t => idxs (tierQ l t) k

theorem pick_start (w w1 : World) (l : List Seg) (hb : Below w.heap.size w w1) : PickAt w w1.heap.size l 0 0 (.slice none 0 0) (w1.alloc (.map #[] 0)) :=
  ⟨World.ownsRow_nil _ _ _ _, hb.alloc hb.size _, hb.size, by simp, by simp [Value.ownBlock], _, World.ownsGroups_made _ _ _ _ _, World.Shuns_made _ _, groups_start _ (fun _ => rfl)⟩

theorem owns_cells {w : World} {P : Program} {k : TypeId} {base e b n : Nat} {q : IntKind} {D : DataW Unit} (h : w.ownsGroups P k base e q b n D) : b < w.heap.size := by
  obtain ⟨es, clock, hb, _⟩ := h
  exact (Array.getElem?_eq_some_iff.1 hb).1

theorem pick_skip {w wr : World} {mb k : Nat} {l : List Seg} {v : Value} (h : PickAt w mb l k k v wr) (he : emptyQ l k = false) (o : Obj) : PickAt w mb l (k + 1) k v (wr.alloc o) := by
  obtain ⟨h1, h2, h3, h4, h5, D, h6, h7, h8⟩ := h
  refine ⟨by rw [idxs_miss he]; exact h1.alloc o, h2.alloc h2.size o, h3, by simp; omega, h5, D, h6.kept (World.grownBy_alloc wr o none) (by simp) (fun es clock hb x hx => ?_), h7.kept (World.grownBy_alloc wr o none) h4 (by simp), h8⟩
  cases x.val.ownBlock <;> simp

theorem pick_push {w wr w1 : World} {mb k : Nat} {l : List Seg} {v v' : Value} {o : Obj} (h : PickAt w mb l k k v wr) (he : emptyQ l k = true)
    (hown : w1.ownsRow w.heap.size 3 1 v' ((idxs (emptyQ l) k).length + 1) (ints (idxs (emptyQ l) k) ++ [.int .i64 (k : Int)])) (hb : Below w.heap.size w w1)
    (hg : (wr.alloc o).grownBy w1 v.ownBlock) (hl : v'.ownBlock = v.ownBlock ∨ ∃ g, v'.ownBlock = some g ∧ (wr.alloc o).heap.size ≤ g) : PickAt w mb l (k + 1) k v' w1 := by
  obtain ⟨h1, h2, h3, h4, h5, D, h6, h7, h8⟩ := h
  have hall : wr.grownBy w1 v.ownBlock := (World.grownBy_alloc wr o _).trans hg
  have hsz := hall.size
  have hl' : v'.ownBlock = v.ownBlock ∨ ∃ g, v'.ownBlock = some g ∧ wr.heap.size ≤ g := by
    rcases hl with hl | ⟨g, e, hg⟩
    · exact .inl hl
    · exact .inr ⟨g, e, by simp at hg; omega⟩
  refine ⟨by rw [idxs_hit he]; simpa [ints] using hown, hb, h3, by omega, ?_, D, h6.kept hall (fun e => h5 e.symm) (h7.rowsOff fun j hj => hj), ?_, h8⟩
  · rcases hl' with e | ⟨g, e, hg⟩
    · rw [e]; exact h5
    · rw [e]; intro e2; injection e2 with e2; omega
  · refine World.Shuns.kept (h7.reno h6 fun g hg => ?_) hall h4 (fun e => h5 e.symm)
    rcases hl' with e | ⟨g', e, hg'⟩
    · exact .inl (by rw [← e]; exact hg)
    · rw [e] at hg; injection hg with hg; exact .inr (by omega)

theorem pick_next {w wr w1 w2 : World} {mb k : Nat} {l : List Seg} {v u u' : Value} {zs : List Int} {t : Int} {D : DataW Unit} (hown : wr.ownsRow w.heap.size 3 1 v (idxs (emptyQ l) (k + 1)).length (ints (idxs (emptyQ l) (k + 1))))
    (hb : Below w.heap.size w wr) (hm : w.heap.size ≤ mb) (hlt : mb < wr.heap.size) (hne : v.ownBlock ≠ some mb) (hD : GroupsAre D fun t => idxs (tierQ l t) k)
    (ht : t = (tierN (liveAt l k) : Int)) (hat : D.atKey (.int .i64 t) .nil = rowDatum .i64 u zs) (hu : wr.ownsInts (mb + 1) 3 .i64 u zs) (hno : ∀ g, u.ownBlock = some g → ¬ v.ownBlock = some g)
    (hu' : w1.ownsInts (mb + 1) 3 .i64 u' (zs ++ [(k : Int)])) (hg : wr.grownBy w1 u.ownBlock)
    (hgr : w2.ownsGroups Try.prog 3 (mb + 1) 3 .i64 mb (k + 1) (D.put (.int .i64 t) (rowDatum .i64 u' (zs ++ [(k : Int)])))) (hg2 : w1.grownBy w2 (some mb)) (hsh : w2.Shuns mb (fun g => v.ownBlock = some g)) :
    PickAt w mb l (k + 1) (k + 1) v w2 := by
  have e1 : v.ownBlock = none ∨ v.ownBlock ≠ u.ownBlock := by
    cases hv : v.ownBlock with
    | none => exact .inl rfl
    | some g => exact .inr fun e => hno g e.symm hv
  have hs1 := hg.size
  have hs2 := hg2.size
  refine ⟨(hown.kept hg e1).kept hg2 (.inr hne), ?_, hm, by omega, hne, _, hgr, hsh, tiers_step hD ht hat hu hu'⟩
  refine (hb.grown hg hb.size fun g hgu => ?_).grown hg2 (by have := hb.size; omega) fun g hgm => by injection hgm with e; omega
  have := (hu.1.lt g hgu).1
  omega

theorem no_step {w : World} {base' e n : Nat} {v u u' : Value} {xs : List Value} (hown : w.ownsRow base' e 1 v n xs) (hno : ∀ g, u.ownBlock = some g → ¬ v.ownBlock = some g)
    (hl : u'.ownBlock = u.ownBlock ∨ ∃ g, u'.ownBlock = some g ∧ w.heap.size ≤ g) : ∀ g, u'.ownBlock = some g → ¬ v.ownBlock = some g := by
  intro g hg hv
  rcases hl with e1 | ⟨g', e1, h1⟩
  · exact hno g (by rw [← e1]; exact hg) hv
  · rw [e1] at hg
    injection hg with hg
    have := (hown.lt g hv).2
    omega

def NoTier (l : List Seg) (t : Nat) : Prop := ∀ s : Nat, s < t → (idxs (tierQ l s) l.length).length < 4
theorem noTier_succ {l : List Seg} {t : Nat} (h : NoTier l t) (h2 : (idxs (tierQ l t) l.length).length < 4) : NoTier l (t + 1) := fun s hs => by
  by_cases e : s = t
  · subst e; exact h2
  · exact h s (by omega)
theorem pickF_empty {l : List Seg} (h : 0 < (idxs (emptyQ l) l.length).length) : pickF l = idxs (emptyQ l) l.length := by
  unfold pickF
  rw [if_pos]
  cases hx : idxs (emptyQ l) l.length with
  | nil => rw [hx] at h; simp at h
  | cons => rfl
theorem pickF_tail {l : List Seg} (h : ¬ 0 < (idxs (emptyQ l) l.length).length) : pickF l = match (List.range 21).find? (fun (t : Nat) => decide (4 ≤ (idxs (tierQ l t) l.length).length)) with
    | some t => (idxs (tierQ l t) l.length).take 4
    | none => [] := by
  have h0 : idxs (emptyQ l) l.length = [] := List.eq_nil_of_length_eq_zero (by omega)
  unfold pickF
  rw [if_neg (by rw [h0]; simp)]
  rfl
theorem pickF_none {l : List Seg} (h : ¬ 0 < (idxs (emptyQ l) l.length).length) (hn : NoTier l 21) : pickF l = [] := by
  rw [pickF_tail h]
  have : (List.range 21).find? (fun (t : Nat) => decide (4 ≤ (idxs (tierQ l t) l.length).length)) = none := by
    rw [List.find?_eq_none]
    intro t ht
    have := hn t (List.mem_range.1 ht)
    simp; omega
  rw [this]
theorem pickF_tier {l : List Seg} {t : Nat} (h : ¬ 0 < (idxs (emptyQ l) l.length).length) (ht : t < 21) (hn : NoTier l t) (h4 : 4 ≤ (idxs (tierQ l t) l.length).length) : pickF l = (idxs (tierQ l t) l.length).take 4 := by
  rw [pickF_tail h]
  have : (List.range 21).find? (fun (t : Nat) => decide (4 ≤ (idxs (tierQ l t) l.length).length)) = some t := by
    rw [List.find?_range_eq_some]
    refine ⟨by simpa using h4, List.mem_range.2 ht, fun j hj => ?_⟩
    have := hn j hj
    simp; omega
  rw [this]
theorem ints_one (l : List Int) (m : Nat) : ∀ u ∈ (ints l).take m, u.oneCell' = true := by
  intro u hu
  have := List.mem_of_mem_take hu
  simp only [ints, List.mem_map] at this
  obtain ⟨z, _, rfl⟩ := this
  rfl
theorem pick_out {w : World} {B e : Nat} {v : Value} {l : List Int} (h4 : 4 ≤ l.length) (h : w.ownsRow B e 1 v (0 + 4) ([] ++ (ints l).take (4 * 1))) : w.ownsRow B e 1 v (l.take 4).length (ints (l.take 4)) := by
  have e1 : (l.take 4).length = 4 := by rw [List.length_take]; omega
  rw [e1]
  simpa [ints, List.map_take] using h
theorem groups_at {H : Type} {D : DataW H} {w : World} {base e : Nat} {f : Int → List Int} {t : Int} {u : Value} {zs : List Int} (hD : GroupsAre D f) (hat : D.atKey (.int .i64 t) .nil = rowDatum .i64 u zs) (hu : w.ownsInts base e .i64 u zs) : zs = f t := by
  have := hD.2 t
  rw [hat, itemsOf_row hu] at this
  exact this

set_option maxHeartbeats 2000000 in
theorem pick_ok (A : Option Addr) (c : Nat) (l : List Seg) (w : World) (h : Sl w w.heap.size 4 A l.length (segCells l)) (hl : l.length ≤ 4398046511104) (hok : Hid (segsOk l = true)) :
    Calls Try.prog 7 #[.slice A l.length c] w fun e w' => ∃ v, e = .returned (.tuple #[v, .int .i64 0]) ∧ w'.ownsRow w.heap.size 3 1 v (pickF l).length (ints (pickF l)) ∧ Below w.heap.size w w' := by
  have hcheck : Calls Try.prog 11 #[.slice A l.length c] w fun e w' => e = .returned (.int .i64 0) ∧ Below w.heap.size w w' := by
    have h0 := check_any A c l w h hl
    rw [hok.out] at h0
    exact h0
  have HC := Lib.hid hcheck
  clear hcheck
  have hmm := @run_makeMap Try.prog
  go_enter Try.func7, Try.ntmps7
  go_wp2_with (go_at_call 11; refine HC.out.mono ?_; rintro e w1 ⟨rfl, hb1⟩)
  go_loopw [5, 20] (fun v i wr => ∃ k : Nat, k ≤ l.length ∧ i = .int .i64 k ∧ PickAt w w1.heap.size l k k v wr) (fun _ i _ => l.length - (intOf i).toNat)
  case atStart => exact ⟨0, by omega, rfl, pick_start w w1 l hb1⟩
  case round =>
    obtain ⟨k, hk, rfl, hp⟩ := hrel
    by_cases hlt : k < l.length
    · obtain ⟨b, off, rfl, hbB, h0, h1, h2, h3⟩ := seg_at (h.below hp.2.1) hlt
      obtain ⟨g1, g2, g3, g4⟩ := seg_ok_at hok.out hlt
      by_cases he : l[k].docs - l[k].gone = 0
      · have hq := Lib.hid (emptyQ_yes hlt he)
        have he1 : (l[k].docs - l[k].gone == 0) = true := by simpa using he
        have HE := Lib.hid he
        clear he
        have hown := hp.1
        have hbw := hp.2.1
        have hil := idxs_len (emptyQ l) k
        go_wp2_with (at_builtin; refine wpList_push w _ _ rfl _ _ _ rfl el_int _ _ _ rfl (hown.alloc _) rfl (by simp) rfl ?_ ?_ ?_ (hbw.alloc hbw.size _).size (hbw.alloc hbw.size _) ?_)
        · simp [Value.oneCell']
        · unfold maxLen; omega
        · omega
        · intro v' w3 hown3 hb3 hg3 hl3
          have hm := pick_push hp hq.out hown3 hb3 hg3 (by simpa using hl3)
          obtain ⟨hown4, hb4, hm4, hlt4, hne4, D, hgr4, hsh4, hD4⟩ := hm
          have htl := tierN_le (l[k].docs - l[k].gone)
          have hkey := keyOf_int_mk (P := Try.prog) (q := .i64) (a := (tierN (l[k].docs - l[k].gone) : Int)) Try.underlying3 (WalkArith.wf_i64 (by omega))
          clear hown hbw hp
          go_wp2_with (first
            | (go_at_call 13; refine (tier_any _ _).mono ?_; rintro e w' ⟨rfl, rfl⟩)
            | (at_lookup; refine wpList_lookup_groups_shuns _ rfl _ _ 41 rfl 3 25 3 .i64 key_int Try.underlying41 (zero_ints _) (w1.heap.size + 1) w1.heap.size k _ rfl hgr4 (by unfold maxLen; omega) _ _ rfl hkey ?_; intro u zs hat hoi hzl hback hno)
            | (at_builtin; refine wpList_push w3 _ _ rfl _ _ _ rfl el_int _ _ _ rfl hoi.1 rfl (by simp) rfl (by simp [Value.oneCell']) (by unfold maxLen; omega) (by omega) (Nat.succ_le_of_lt hlt4) (Below.refl _ _) ?_; intro u' w5 hu' _ hg5 hl5)
            | (at_mapUpdate; refine wpList_mapUpdate_back_shuns _ rfl _ _ _ 41 rfl key_int Try.underlying41 hkey hgr4 (by unfold maxLen; omega) hoi hsh4 (no_step hown4 (hno _ hsh4) hl5) hback rfl rfl rfl hg5 (hoi.appended hu' (WalkArith.wf_i64 (by omega))) (by simp; omega) hl5 ?_; intro w6 hgr6 hg6 hsh6))
          go_roundw
          case rel => exact ⟨k + 1, by omega, by go_num, pick_next hown4 hb4 hm4 hlt4 hne4 hD4 (by rw [liveAt_eq hlt]) hat hoi (hno _ hsh4) (hoi.appended hu' (WalkArith.wf_i64 (by omega))) hg5 hgr6 hg6 hsh6⟩
          case measure => simp [intOf]; omega
      · have hq := Lib.hid (emptyQ_no hlt he)
        have he1 : (l[k].docs - l[k].gone == 0) = false := by simpa using he
        have hown := hp.1
        have hbw := hp.2.1
        have hm := pick_skip hp hq.out (.cells #[.int .i64 l[k].id, .int .i64 l[k].docs, .int .i64 l[k].gen, .int .i64 l[k].gone] 24)
        obtain ⟨hown4, hb4, hm4, hlt4, hne4, D, hgr4, hsh4, hD4⟩ := hm
        have htl := tierN_le (l[k].docs - l[k].gone)
        have hkey := keyOf_int_mk (P := Try.prog) (q := .i64) (a := (tierN (l[k].docs - l[k].gone) : Int)) Try.underlying3 (WalkArith.wf_i64 (by omega))
        clear hown hbw hp
        go_wp2_with (first
          | (go_at_call 13; refine (tier_any _ _).mono ?_; rintro e w' ⟨rfl, rfl⟩)
          | (at_lookup; refine wpList_lookup_groups_shuns _ rfl _ _ 41 rfl 3 25 3 .i64 key_int Try.underlying41 (zero_ints _) (w1.heap.size + 1) w1.heap.size k _ rfl hgr4 (by unfold maxLen; omega) _ _ rfl hkey ?_; intro u zs hat hoi hzl hback hno)
          | (at_builtin; refine wpList_push _ _ _ rfl _ _ _ rfl el_int _ _ _ rfl hoi.1 rfl (by simp) rfl (by simp [Value.oneCell']) (by unfold maxLen; omega) (by omega) (Nat.succ_le_of_lt hlt4) (Below.refl _ _) ?_; intro u' w5 hu' _ hg5 hl5)
          | (at_mapUpdate; refine wpList_mapUpdate_back_shuns _ rfl _ _ _ 41 rfl key_int Try.underlying41 hkey hgr4 (by unfold maxLen; omega) hoi hsh4 (no_step hown4 (hno _ hsh4) hl5) hback rfl rfl rfl hg5 (hoi.appended hu' (WalkArith.wf_i64 (by omega))) (by simp; omega) hl5 ?_; intro w6 hgr6 hg6 hsh6))
        go_roundw
        case rel => exact ⟨k + 1, by omega, by go_num, pick_next hown4 hb4 hm4 hlt4 hne4 hD4 (by rw [liveAt_eq hlt]) hat hoi (hno _ hsh4) (hoi.appended hu' (WalkArith.wf_i64 (by omega))) hg5 hgr6 hg6 hsh6⟩
        case measure => simp [intOf]; omega
    · obtain rfl : k = l.length := by omega
      obtain ⟨hown, hb, hm, hlt, hne, D, hgr, hsh, hD⟩ := hp
      obtain ⟨A5, c5, rfl, hc5⟩ := own_shape hown
      have hil := idxs_len (emptyQ l) l.length
      by_cases hemp : 0 < (idxs (emptyQ l) l.length).length
      · have hd : decide ((0 : Int) < ((idxs (emptyQ l) l.length).length : Int)) = true := by simpa using hemp
        go_wp2
        go_ret2
        exact ⟨_, rfl, by rw [pickF_empty hemp]; exact hown, hb⟩
      · have hd : decide ((0 : Int) < ((idxs (emptyQ l) l.length).length : Int)) = false := by simpa using hemp
        have hE := Lib.hid hemp
        clear hemp
        go_wp2
        go_loop [51] (fun i => ∃ t : Nat, t ≤ 21 ∧ i = .int .i64 t ∧ NoTier l t) (fun i => 21 - (intOf i).toNat)
        case atStart => exact ⟨0, by omega, rfl, fun s hs => absurd hs (by omega)⟩
        case round =>
          obtain ⟨t, ht, rfl, hno⟩ := hrel
          by_cases h21 : t < 21
          · have hkey := keyOf_int_mk (P := Try.prog) (q := .i64) (a := (t : Int)) Try.underlying3 (WalkArith.wf_i64 (by omega))
            have hil2 := idxs_len (tierQ l t) l.length
            by_cases h4 : 4 ≤ (idxs (tierQ l t) l.length).length
            · have hd4 : decide ((4 : Int) ≤ ((idxs (tierQ l t) l.length).length : Int)) = true := by simp; omega
              go_wp2_with (first
                | (at_lookup; refine wpList_lookup_groups _ rfl _ _ 41 rfl 3 25 3 .i64 key_int Try.underlying41 (zero_ints _) (w1.heap.size + 1) w1.heap.size l.length _ rfl hgr (by unfold maxLen; omega) _ _ rfl hkey ?_; intro u zs hat hoi hzl hback; obtain rfl := groups_at hD hat hoi; obtain ⟨Au, cu, rfl, hcu⟩ := own_shape hoi.1; obtain ⟨bu, ou, rfl, hbu⟩ := (Sl.of_own hoi.1).at_ (show 0 < _ by omega))
                | (at_builtin; refine wpList_append_sl w _ rfl _ _ _ rfl el_int _ 0 [] rfl (World.ownsRow_lit _ #[] 0 hb.size (Nat.zero_le _) rfl) rfl ((((Sl.of_own hoi.1).pre h4)).alloc (Nat.le_refl _) _) (fun e => by cases e) (ints_one _ _) (by decide) (by decide) (by simp; have := hb.size; omega) (hb.alloc hb.size _) ?_; intro v7 w7 hown7 hb7 _ _))
              go_ret2
              exact ⟨_, rfl, by rw [pickF_tier hE.out h21 hno h4]; exact pick_out h4 hown7, hb7⟩
            · have hd4 : decide ((4 : Int) ≤ ((idxs (tierQ l t) l.length).length : Int)) = false := by simp; omega
              go_wp2_with (first
                | (at_lookup; refine wpList_lookup_groups _ rfl _ _ 41 rfl 3 25 3 .i64 key_int Try.underlying41 (zero_ints _) (w1.heap.size + 1) w1.heap.size l.length _ rfl hgr (by unfold maxLen; omega) _ _ rfl hkey ?_; intro u zs hat hoi hzl hback; obtain rfl := groups_at hD hat hoi; obtain ⟨Au, cu, rfl, hcu⟩ := own_shape hoi.1))
              go_round
              case rel => ((repeat apply Exists.intro); exact ⟨⟨t + 1, by omega, by go_num, noTier_succ hno (by omega)⟩, ⟨rfl, rfl, rfl, rfl, rfl⟩⟩)
              case measure => simp [intOf]; omega
          · go_wp2
            obtain rfl : t = 21 := by omega
            go_ret2
            exact ⟨_, rfl, by rw [pickF_none hE.out hno]; exact World.ownsRow_nil _ _ _ _, hb⟩
end Go.Proofs.Ytnhagnjikinimaa
