/- The reference's Decode: the same characters. -/
import Derived.Test.YtclahhkcbkpofaaDoorHFz35
import Derived.Test.YtclahhkcbkpofaaDoorHFz20
import Derived.Test.YtclahhkcbkpofaaDoorHFz32
import Derived.Test.YtclahhkcbkpofaaDoorHFz12
namespace Go.Proofs.YtclahhkcbkpofaaDoor
open Go.RowKit
open Sp
set_option linter.unusedVariables false
theorem gz_enc {u : List UInt8} {c : Int} (hw : wholeB c = true) (h : bytesN u = encN c) : gZ u = c := by
  rcases enc_head hw with ⟨_, _, e⟩ | ⟨_, _, a, b, e, _, _, _, _, hc⟩ | ⟨_, _, a, b, d, e, _, _, _, _, _, _, hc⟩ | ⟨_, _, a, b, d, f, e, _, _, _, _, _, _, _, _, hc⟩ <;> rw [e] at h
  · match u, h with
    | [x], h =>
      simp only [bytesN, List.map_cons, List.map_nil, List.cons.injEq, and_true] at h
      show (x.toNat : Int) = c
      omega
    | [], h => exact absurd h (by simp [bytesN])
    | _ :: _ :: _, h => exact absurd h (by simp [bytesN])
  · match u, h with
    | [x, y], h =>
      simp only [bytesN, List.map_cons, List.map_nil, List.cons.injEq, and_true] at h
      show 64 * ((x.toNat : Int) - 192) + y.toNat - 128 = c
      omega
    | [], h => exact absurd h (by simp [bytesN])
    | [_], h => exact absurd h (by simp [bytesN])
    | _ :: _ :: _ :: _, h => exact absurd h (by simp [bytesN])
  · match u, h with
    | [x, y, z], h =>
      simp only [bytesN, List.map_cons, List.map_nil, List.cons.injEq, and_true] at h
      show 64 * (64 * ((x.toNat : Int) - 224) + y.toNat - 128) + z.toNat - 128 = c
      omega
    | [], h => exact absurd h (by simp [bytesN])
    | [_], h => exact absurd h (by simp [bytesN])
    | [_, _], h => exact absurd h (by simp [bytesN])
    | _ :: _ :: _ :: _ :: _, h => exact absurd h (by simp [bytesN])
  · match u, h with
    | [x, y, z, v], h =>
      simp only [bytesN, List.map_cons, List.map_nil, List.cons.injEq, and_true] at h
      show 64 * (64 * (64 * ((x.toNat : Int) - 240) + y.toNat - 128) + z.toNat - 128) + v.toNat - 128 = c
      omega
    | [], h => exact absurd h (by simp [bytesN])
    | [_], h => exact absurd h (by simp [bytesN])
    | [_, _], h => exact absurd h (by simp [bytesN])
    | [_, _, _], h => exact absurd h (by simp [bytesN])
    | _ :: _ :: _ :: _ :: _ :: _, h => exact absurd h (by simp [bytesN])
theorem run_cut (t : List UInt8) (a k : Nat) (h : a + k ≤ t.length) (w : World) : (Instr.slice 9 (.string ⟨t.toArray⟩) (some (.int .i64 (a : Nat))) (some (.int .i64 ((a : Int) + (k : Nat)))) none).run Tryd.prog w = .ok (.string ⟨((t.drop a).take k).toArray⟩) w := by
  have hz : (⟨t.toArray⟩ : ByteArray).size = t.length := by show t.toArray.size = _; simp
  have e : (⟨t.toArray⟩ : ByteArray).extract a (a + k) = ⟨((t.drop a).take k).toArray⟩ := by
    apply ByteArray.ext
    apply Array.ext'
    simp [ByteArray.data_extract, List.take_drop]
  have hi : ((a : Int) + (k : Nat)).toNat = a + k := by omega
  have hb : ((a : Nat) : Int) + ((k : Nat) : Int) ≤ ((t.length : Nat) : Int) := by omega
  have hc : (0 : Int) ≤ (a : Nat) := by omega
  have hd : (0 : Int) ≤ (a : Int) + (k : Nat) := by omega
  have hf : ((a : Nat) : Int) ≤ (a : Int) + (k : Nat) := by omega
  simp [Instr.slice, run_underlying Tryd.underlying9, Instr.sliceBounds, run_sliceBound, hz, hb, hc, hd, hf, hi, e]
theorem bytesN_inj {a b : List UInt8} (h : bytesN a = bytesN b) : a = b := by
  have k : ∀ {a b : List UInt8}, a.map (fun x => x.toNat) = b.map (fun x => x.toNat) → a = b := by
    intro a
    induction a with
    | nil => intro b h; cases b with
      | nil => rfl
      | cons y b => simp at h
    | cons x a ih => intro b h; cases b with
      | nil => simp at h
      | cons y b =>
        simp only [List.map_cons, List.cons.injEq] at h
        rw [ih h.2, UInt8.toNat_inj.1 h.1]
  exact k h
/-- None of the shorter beginnings is a character's. -/
def NoC (r : List UInt8) (k : Nat) : Prop := ∀ m c, m < k → wholeB c = true → bytesN (r.take m) ≠ encN c
theorem NoC.one (r : List UInt8) : NoC r 1 := fun m c hm _ e => by
  obtain rfl : m = 0 := by omega
  exact encN_ne e.symm
theorem NoC.step {r : List UInt8} {k : Nat} (h : NoC r k) (h2 : ∀ c, wholeB c = true → bytesN (r.take k) ≠ encN c) : NoC r (k + 1) := fun m c hm hw => by
  by_cases e : m = k
  · subst e; exact h2 c hw
  · exact h m c (by omega) hw
theorem NoC.none {r : List UInt8} {k : Nat} (h : NoC r k) (hk : k = 5 ∨ r.length < k) (c : Int) : ¬ Fst1 (bytesN r) c := by
  rintro ⟨hw, s, hs⟩
  have h1 := (encC_len c).2
  have h2 : (encN c).length = (encC c).length := List.length_map ..
  have h3 := congrArg List.length hs
  have h4 : (bytesN r).length = r.length := List.length_map ..
  rw [List.length_append] at h3
  refine h (encN c).length c (by omega) hw ?_
  have h5 : bytesN (r.take (encN c).length) = (bytesN r).take (encN c).length := by unfold bytesN; rw [List.map_take]
  rw [h5, hs, List.take_left]
set_option maxRecDepth 100000 in
set_option maxHeartbeats 8000000 in
theorem rdecode_any (w : World) (t : List UInt8) (ht : t.length ≤ 17592186044414) : Calls Tryd.prog 26 #[.string ⟨t.toArray⟩] w (DecP w t) := by
  have hz : (⟨t.toArray⟩ : ByteArray).size = t.length := by show t.toArray.size = _; simp
  obtain ⟨N, hN⟩ : ∃ N, t.length = N := ⟨_, rfl⟩
  rw [hN] at hz ht
  have HNL := Lib.hid hN
  clear hN
  go_enter Tryd.func26, Tryd.ntmps26
  go_wp2_with fail
  go_loopw [4, 5] (fun ov av wr => ∃ (a : Nat) (l1 : List Int), a ≤ N ∧ av = .int .i64 (a : Int) ∧ Hid (Dec (bytesN (t.take a)) l1) ∧ Hid (wr.ownsRow w.heap.size 3 1 ov l1.length (l1.map (.int .i64))) ∧ Hid (Below w.heap.size w wr)) (fun _ av _ => N - (intOf av).toNat)
  case atStart => exact ⟨0, [], Nat.zero_le _, rfl, Dec.nil, ⟨rfl, .inl ⟨rfl, rfl⟩⟩, brefl w⟩
  case round =>
    obtain ⟨a, l1, haN, rfl, HD, HO, HB⟩ := hrel
    obtain ⟨W1, rfl⟩ : ∃ W, W = wr := ⟨_, rfl⟩
    by_cases hlt : a < N
    · have hq : decide ((a : Int) < (N : Int)) = true := decide_eq_true (by omega)
      have hq2 : decide (a < N) = true := decide_eq_true hlt
      go_wp2_with fail
      go_loopw [4, 6] (fun ov2 nv w2 => ∃ k : Nat, 1 ≤ k ∧ k ≤ 5 ∧ a + k ≤ N + 1 ∧ u4 = ov2 ∧ nv = .int .i64 (k : Int) ∧ Hid (NoC (t.drop a) k) ∧ Hid (Below W1.heap.size W1 w2)) (fun _ nv _ => 5 - (intOf nv).toNat)
      case atStart => exact ⟨1, by omega, by omega, by omega, rfl, rfl, NoC.one _, brefl W1⟩
      case round =>
        obtain ⟨k, hk1, hk5, hak, rfl, rfl, HN, HB2⟩ := hrel
        by_cases hin : k ≤ 4 ∧ a + k ≤ N
        · obtain ⟨hk4, hkN⟩ := hin
          have p1 : decide ((k : Int) ≤ 4) = true := decide_eq_true (by omega)
          have p2 : decide ((a : Int) + (k : Int) ≤ (N : Int)) = true := decide_eq_true (by omega)
          have s1 : IntKind.i64.wrap ((a : Int) + (k : Int)) = (a : Int) + (k : Int) := by rw [IntKind.wrap_i64]; omega
          have HRC := Lib.hid (run_cut t a k (by rw [HNL.out]; exact hkN))
          have hcut := fun W => HRC.out W
          obtain ⟨u, hu⟩ : ∃ u, (t.drop a).take k = u := ⟨_, rfl⟩
          have hul : u.length = k := by
            rw [← hu, List.length_take, List.length_drop, HNL.out]
            omega
          simp only [hu] at hcut
          have HU := Lib.hid hu
          have HGS := Lib.hid (guess_any wr u (fun e => by rw [e] at hul; simp at hul; omega) (by omega))
          clear HRC hu
          go_wp2_with fail
          refine HGS.out.mono ?_
          rintro e w3 ⟨rfl, hb3⟩
          have HB3 := Lib.hid (bcall HB2.out hb3)
          have HGE := Lib.hid (fun c (hw : wholeB c = true) (h : bytesN u = encN c) => gz_enc (u := u) hw h)
          obtain ⟨c, hc⟩ : ∃ c, gZ u = c := ⟨_, rfl⟩
          simp only [hc] at HGE ⊢
          obtain ⟨wc, hwc⟩ : ∃ b, wholeB c = b := ⟨_, rfl⟩
          clear hb3 HGS
          cases wc
          · have HN2 : Hid (NoC (t.drop a) (k + 1)) := HN.out.step fun c' hw' h => by
              rw [HU.out] at h
              have := HGE.out c' hw' h
              rw [← this, hwc] at hw'
              cases hw'
            clear HGE HU HN
            go_wp2_with fail
            refine wp_region_held_drew (S := fun _ => True) (by kernel_rfl) ?_ (fun hHeld => ?_)
            · (try dsimp only); (first | trivial | skip)
            refine wpAnyH_take (i := 0) (v := ?_) rfl (by kernel_rfl) (by kernel_rfl) (by kernel_rfl) (fun _ _ _ h => h) (Or.inl ⟨by rfl, ?_⟩) (by assumption) ?_
            rotate_left
            · intro w hSw; (try dsimp only at hSw); go_simp; (try with_reducible rfl)
            refine wpAnyH_ready (rs := [1]) (by kernel_rfl) (by simp) ?_
            refine AllReadyH.cons rfl (fun K hK => ?_) AllReadyH.nil
            go_simp
            go_at_call 50
            refine (rwhole_any _ _).mono ?_
            rintro e w4 ⟨rfl, rfl⟩
            rw [hwc]
            refine hK.out _ _ ?_ (fun hHeld => ?_)
            · (try dsimp only); (first | trivial | skip)
            clear hK K
            refine wpAnyH_take (i := 2) (v := ?_) rfl (by kernel_rfl) (by kernel_rfl) (by kernel_rfl) (fun _ _ _ h => h) (Or.inl ⟨by rfl, ?_⟩) (by assumption) ?_
            rotate_left
            · intro w hSw; (try dsimp only at hSw); go_simp; (try with_reducible rfl)
            refine wpAnyH_take (i := 3) (v := undef) rfl (by kernel_rfl) (by kernel_rfl) (by kernel_rfl) (fun _ _ _ h => h) (Or.inr ⟨by kernel_rfl, rfl⟩) (by assumption) ?_
            refine wpAnyH_take (i := 4) (v := undef) rfl (by kernel_rfl) (by kernel_rfl) (by kernel_rfl) (fun _ _ _ h => h) (Or.inr ⟨by kernel_rfl, rfl⟩) (by assumption) ?_
            refine wpAnyH_take (i := 5) (v := undef) rfl (by kernel_rfl) (by kernel_rfl) (by kernel_rfl) (fun _ _ _ h => h) (Or.inr ⟨by kernel_rfl, rfl⟩) (by assumption) ?_
            refine wpAnyH_take (i := 6) (v := undef) rfl (by kernel_rfl) (by kernel_rfl) (by kernel_rfl) (fun _ _ _ h => h) (Or.inr ⟨by kernel_rfl, rfl⟩) (by assumption) ?_
            refine wpAnyH_take (i := 7) (v := undef) rfl (by kernel_rfl) (by kernel_rfl) (by kernel_rfl) (fun _ _ _ h => h) (Or.inr ⟨by kernel_rfl, rfl⟩) (by assumption) ?_
            refine wpAnyH_take (i := 8) (v := undef) rfl (by kernel_rfl) (by kernel_rfl) (by kernel_rfl) (fun _ _ _ h => h) (Or.inr ⟨by kernel_rfl, rfl⟩) (by assumption) ?_
            refine wpAnyH_take (i := 9) (v := undef) rfl (by kernel_rfl) (by kernel_rfl) (by kernel_rfl) (fun _ _ _ h => h) (Or.inr ⟨by kernel_rfl, rfl⟩) (by assumption) ?_
            refine wpAnyH_take (i := 10) (v := undef) rfl (by kernel_rfl) (by kernel_rfl) (by kernel_rfl) (fun _ _ _ h => h) (Or.inr ⟨by kernel_rfl, rfl⟩) (by assumption) ?_
            refine wpAnyH_take (i := 11) (v := undef) rfl (by kernel_rfl) (by kernel_rfl) (by kernel_rfl) (fun _ _ _ h => h) (Or.inr ⟨by kernel_rfl, rfl⟩) (by assumption) ?_
            refine wpAnyH_take (i := 12) (v := ?_) rfl (by kernel_rfl) (by kernel_rfl) (by kernel_rfl) (fun _ _ _ h => h) (Or.inl ⟨by rfl, ?_⟩) (by assumption) ?_
            rotate_left
            · intro w hSw; (try dsimp only at hSw); go_simp; (try with_reducible rfl)
            refine wpAnyH_done (by kernel_rfl) ?_ _
            simp only [List.getElem_toArray, List.getElem_cons_zero, List.getElem_cons_succ, Act.put, List.setIfInBounds_toArray, List.set_cons_zero, List.set_cons_succ]
            clear hcut hc hwc p1 p2 hq hq2
            go_wp2_with fail
            go_roundw
            case rel => exact ⟨k + 1, by omega, by omega, by omega, rfl, by go_num, HN2, HB3.out.drew⟩
            case measure => simp [intOf]; omega
          · obtain ⟨tc, htc1, htc2, _, _⟩ := chars_bytes hwc
            have HONE := Lib.hid (one_any c hwc)
            rw [htc1] at HONE
            have HTC := Lib.hid htc2
            clear htc1 htc2
            by_cases he : tc = u
            · have q9 : (tc == u) = true := by rw [beq_iff_eq]; exact he
              have HDN : Hid (Dec (bytesN (t.take (a + k))) (l1 ++ [c])) := by
                have e1 : t.take (a + k) = t.take a ++ u := by rw [← HU.out, List.take_add]
                show Dec _ _
                rw [e1, bytesN_app, ← he, HTC.out]
                exact HD.out.more (r := []) hwc
              have HON := Lib.hid (own_kept HO.out HB3.out)
              have hl1 : l1.length ≤ 17592186044414 := by
                have h1 := HD.out.len
                have h2 : (bytesN (t.take a)).length = (t.take a).length := List.length_map ..
                rw [h2, List.length_take] at h1
                omega
              have HB4 := Lib.hid (bcall HB.out HB3.out)
              clear he HTC HGE HU HN HO HD
              go_wp2_with fail
              go_region_held3 (fun w' => w' = w') (first | assumption | exact rfl)
                (first
                  | (go_at_call 50
                     refine (rwhole_any _ _).mono ?_
                     rintro e w4 ⟨rfl, rfl⟩
                     rw [hwc])
                  | (go_at_call 51
                     refine (HONE.out _).mono ?_
                     rintro e w5 ⟨rfl, hb5⟩
                     have HB5 := Lib.hid hb5
                     clear hb5))
              have HO5 := Lib.hid (own_kept (show w3.drew.ownsRow w.heap.size 3 1 u4 l1.length (l1.map (.int .i64)) from HON.out) HB5.out)
              have HB6 := Lib.hid (bcall HB4.out.drew HB5.out)
              have hS := HB6.out.size
              have r1 : decide ((k : Int) > 4) = false := decide_eq_false (by omega)
              have r2 : decide ((a : Int) + (k : Int) > (N : Int)) = false := decide_eq_false (by omega)
              clear hcut hc hwc p1 p2 hq hq2 q9 HONE HON HB4 HB5 HB3 HB2 hul
              go_wp2_with (first
                | (at_builtin; refine wpList_pushm w _ _ rfl _ _ _ rfl el_int _ _ _ rfl HO5.out (m := 1) rfl rfl rfl (by simp [Value.oneCell']) (by unfold maxLen; omega) (by omega) hS HB6.out ?_; intro v1 w6 hown1 hb6 _ _))
              go_roundw
              case rel => exact ⟨a + k, l1 ++ [c], by omega, by go_num, HDN, by rw [List.length_append, List.map_append]; exact hown1, hb6⟩
              case measure => simp [intOf]; omega
            · have q9 : (tc == u) = false := by rw [beq_eq_false_iff_ne]; exact he
              have HN2 : Hid (NoC (t.drop a) (k + 1)) := HN.out.step fun c' hw' h => by
                rw [HU.out] at h
                have h2 := HGE.out c' hw' h
                exact he (bytesN_inj (HTC.out.trans (by rw [h2, h])))
              clear he HTC HGE HU HN
              go_wp2_with fail
              go_region_held3 (fun w' => w' = w') (first | assumption | exact rfl)
                (first
                  | (go_at_call 50
                     refine (rwhole_any _ _).mono ?_
                     rintro e w4 ⟨rfl, rfl⟩
                     rw [hwc])
                  | (go_at_call 51
                     refine (HONE.out _).mono ?_
                     rintro e w5 ⟨rfl, hb5⟩
                     have HB5 := Lib.hid hb5
                     clear hb5))
              clear hcut hc hwc p1 p2 hq hq2 q9 HONE
              go_wp2_with fail
              go_roundw
              case rel => exact ⟨k + 1, by omega, by omega, by omega, rfl, by go_num, HN2, bcall HB3.out.drew HB5.out⟩
              case measure => simp [intOf]; omega
        · have HPOST : Hid (DecP w t (.returned (.tuple #[.slice none 0 0, .int .i64 7])) wr) := by
            refine ⟨bcall HB.out HB2.out, .inr ⟨rfl, fun l => ?_⟩⟩
            have e : bytesN t = bytesN (t.take a) ++ bytesN (t.drop a) := by rw [← bytesN_app, List.take_append_drop]
            rw [e]
            have hl : (t.drop a).length = N - a := by rw [List.length_drop, HNL.out]
            refine HD.out.bad (fun e => ?_) (HN.out.none (by omega)) l
            have h1 : (bytesN (t.drop a)).length = (t.drop a).length := List.length_map ..
            rw [e, List.length_nil] at h1
            omega
          have s1 : IntKind.i64.wrap ((a : Int) + (k : Int)) = (a : Int) + (k : Int) := by rw [IntKind.wrap_i64]; omega
          clear HD HO HN hq hq2
          by_cases hk4 : k ≤ 4
          · have p1 : decide ((k : Int) ≤ 4) = true := decide_eq_true (by omega)
            have p2 : decide ((a : Int) + (k : Int) ≤ (N : Int)) = false := decide_eq_false (by omega)
            have r1 : decide ((k : Int) > 4) = false := decide_eq_false (by omega)
            have r2 : decide ((a : Int) + (k : Int) > (N : Int)) = true := decide_eq_true (by omega)
            clear hin
            go_wp2_with fail
            go_ret2
            exact HPOST.out
          · have p1 : decide ((k : Int) ≤ 4) = false := decide_eq_false (by omega)
            have r1 : decide ((k : Int) > 4) = true := decide_eq_true (by omega)
            clear hin
            go_wp2_with fail
            go_ret2
            exact HPOST.out
    · have hq : decide ((a : Int) < (N : Int)) = false := decide_eq_false (by omega)
      have hq2 : decide (a < N) = false := decide_eq_false hlt
      have HE : Hid (Dec (bytesN t) l1) := by
        have := HD.out
        rwa [List.take_of_length_le (by rw [HNL.out]; omega)] at this
      go_wp2_with fail
      go_ret2
      exact ⟨HB.out, .inl ⟨_, l1, by simp, HE.out, HO.out⟩⟩
end Go.Proofs.YtclahhkcbkpofaaDoor
/- token.Folded and the reference's: folded characters. -/
namespace Go.Proofs.YtclahhkcbkpofaaDoor
open Go.RowKit
open Sp
set_option linter.unusedVariables false
/-- What Folded answers: folded characters in a row of its own, or the refusal. -/
def FoldP (w : World) (t : List UInt8) : Ending → World → Prop := fun e w' => Below w.heap.size w w' ∧ ((∃ v l, e = .returned (.tuple #[v, .int .i64 0]) ∧ Dec (bytesN t) l ∧ w'.ownsRow w.heap.size 3 1 v l.length ((l.map foldI).map (.int .i64))) ∨ (e = .returned (.tuple #[.slice none 0 0, .int .i64 7]) ∧ ∀ l, ¬ Dec (bytesN t) l))
theorem fold_set {l : List Int} {j : Nat} {c : Int} (h : l[j]? = some c) : ((((l.take j).map foldI ++ l.drop j).map (Value.int .i64)).set j (.int .i64 (foldI c))) = ((l.take (j + 1)).map foldI ++ l.drop (j + 1)).map (Value.int .i64) := by
  obtain ⟨hj, rfl⟩ := List.getElem?_eq_some_iff.1 h
  have hlen : (((l.take j).map foldI).map (Value.int .i64)).length = j := by
    rw [List.length_map, List.length_map, List.length_take]; omega
  rw [List.map_append, List.set_append_right _ _ (by omega), hlen, Nat.sub_self, List.drop_eq_getElem_cons hj, List.map_cons, List.set_cons_zero, List.take_succ_eq_append_getElem hj]
  simp only [List.map_append, List.map_cons, List.map_nil, List.append_assoc, List.cons_append, List.nil_append]
theorem fold_at {l : List Int} {j : Nat} {c : Int} (h : l[j]? = some c) : (((l.take j).map foldI ++ l.drop j).map (Value.int .i64))[j]? = some (.int .i64 c) := by
  obtain ⟨hj, rfl⟩ := List.getElem?_eq_some_iff.1 h
  have hlen : ((l.take j).map foldI).length = j := by
    rw [List.length_map, List.length_take]; omega
  rw [List.getElem?_map, List.getElem?_append_right (by omega), hlen, Nat.sub_self, List.drop_eq_getElem_cons hj]
  rfl
set_option maxRecDepth 100000 in
set_option maxHeartbeats 8000000 in
theorem folded_any (w : World) (t : List UInt8) (ht : t.length ≤ 17592186044414) : Calls Tryd.prog 44 #[.string ⟨t.toArray⟩] w (FoldP w t) := by
  have HD := Lib.hid (decode_any w t ht)
  go_enter Tryd.func44, Tryd.ntmps44
  go_wp2_with fail
  refine HD.out.mono ?_
  rintro e w1 ⟨hb1, ⟨v, l, rfl, hd1, ho1⟩ | ⟨rfl, hno⟩⟩
  · have HB1 := Lib.hid hb1
    have HDE := Lib.hid hd1
    obtain ⟨A, cp, rfl, hcp⟩ := own_shape ho1
    have HO1 := Lib.hid ho1
    obtain ⟨n, hn⟩ : ∃ n, l.length = n := ⟨_, rfl⟩
    rw [hn] at HO1 hcp
    have HLN := Lib.hid hn
    have hnm : n ≤ 17592186044414 := by
      have h1 := hd1.len
      have h2 : (bytesN t).length = t.length := List.length_map ..
      omega
    clear hb1 hd1 ho1 hn HD
    simp only [HLN.out]
    go_wp2_with fail
    go_loopw [18] (fun iv wr => ∃ j : Nat, j ≤ n ∧ iv = .int .i64 (j : Int) ∧ Hid (Below w.heap.size w wr) ∧ Hid (wr.ownsRow w.heap.size 3 1 (.slice A n cp) n (((l.take j).map foldI ++ l.drop j).map (.int .i64)))) (fun iv _ => n - (intOf iv).toNat)
    case atStart => exact ⟨0, Nat.zero_le _, rfl, HB1, Lib.hid (by simpa using HO1.out)⟩
    case round =>
      obtain ⟨j, hj, rfl, HB, HO⟩ := hrel
      clear HB1 HO1
      by_cases hjn : j < n
      · obtain ⟨c, hc⟩ : ∃ c, l[j]? = some c := ⟨l[j]'(by rw [HLN.out]; exact hjn), List.getElem?_eq_getElem _⟩
        obtain ⟨g, rfl, hg1, hg2⟩ := own_head HO.out (by omega)
        obtain ⟨_, _, cs, hcs⟩ := own_blk HO.out
        have r0 := own_cell HO.out (fold_at hc)
        have f0 := free_at hcs j
        have HON : Hid ((wr.setCell ⟨g, j, none⟩ (.int .i64 (foldI c))).ownsRow w.heap.size 3 1 (.slice (some ⟨g, 0, none⟩) n cp) n (((l.take (j + 1)).map foldI ++ l.drop (j + 1)).map (.int .i64))) := by
          have := own_put (j := j) (u := .int .i64 (foldI c)) HO.out
          rwa [fold_set hc] at this
        have HBN : Hid (Below w.heap.size w (wr.setCell ⟨g, j, none⟩ (.int .i64 (foldI c)))) := below_set HB.out hg1 (Nat.le_refl _)
        have hq : decide (j < n) = true := decide_eq_true hjn
        clear hc hcs HO
        go_wp2_with fail
        refine (fold_any c _).mono ?_
        rintro e w2 ⟨rfl, rfl⟩
        go_wp2_with fail
        go_roundw
        case rel => exact ⟨j + 1, by omega, by go_num, HBN, HON⟩
        case measure => simp [intOf]; omega
      · obtain rfl : j = n := by omega
        have HE : Hid (wr.ownsRow w.heap.size 3 1 (.slice A l.length cp) l.length ((l.map foldI).map (.int .i64))) := by
          have := HO.out
          rwa [← HLN.out, List.take_length, List.drop_length, List.append_nil] at this
        have HPOST : Hid (FoldP w t (.returned (.tuple #[.slice A j cp, .int .i64 0])) wr) := ⟨HB.out, .inl ⟨_, l, by rw [HLN.out], HDE.out, HE.out⟩⟩
        go_wp2_with fail
        go_ret2
        exact HPOST.out
  · have HPOST : Hid (FoldP w t (.returned (.tuple #[.slice none 0 0, .int .i64 7])) w1) := ⟨hb1, .inr ⟨rfl, hno⟩⟩
    clear hb1 hno HD
    go_wp2_with fail
    go_ret2
    exact HPOST.out
set_option maxRecDepth 100000 in
set_option maxHeartbeats 8000000 in
theorem rfolded_any (w : World) (t : List UInt8) (ht : t.length ≤ 17592186044414) : Calls Tryd.prog 46 #[.string ⟨t.toArray⟩] w (FoldP w t) := by
  have HD := Lib.hid (rdecode_any w t ht)
  go_enter Tryd.func46, Tryd.ntmps46
  go_wp2_with fail
  refine HD.out.mono ?_
  rintro e w1 ⟨hb1, ⟨v, l, rfl, hd1, ho1⟩ | ⟨rfl, hno⟩⟩
  · have HB1 := Lib.hid hb1
    have HDE := Lib.hid hd1
    obtain ⟨A, cp, rfl, hcp⟩ := own_shape ho1
    have HO1 := Lib.hid (Sl.of_own ho1)
    obtain ⟨n, hn⟩ : ∃ n, l.length = n := ⟨_, rfl⟩
    rw [hn] at HO1 hcp
    have HLN := Lib.hid hn
    have hnm : n ≤ 17592186044414 := by
      have h1 := hd1.len
      have h2 : (bytesN t).length = t.length := List.length_map ..
      omega
    clear hb1 hd1 ho1 hn HD
    simp only [HLN.out]
    go_wp2_with fail
    go_loopw [6, 7] (fun ov iv wr => ∃ j : Nat, j ≤ n ∧ iv = .int .i64 (j : Int) ∧ Hid (Below w1.heap.size w1 wr) ∧ Hid (wr.ownsRow w1.heap.size 3 1 ov j (((l.take j).map foldI).map (.int .i64)))) (fun _ iv _ => n - (intOf iv).toNat)
    case atStart => exact ⟨0, Nat.zero_le _, rfl, brefl w1, ⟨rfl, .inl ⟨rfl, rfl⟩⟩⟩
    case round =>
      obtain ⟨j, hj, rfl, HB, HO⟩ := hrel
      by_cases hjn : j < n
      · obtain ⟨c, hc⟩ : ∃ c, l[j]? = some c := ⟨l[j]'(by rw [HLN.out]; exact hjn), List.getElem?_eq_getElem _⟩
        have hcw : 0 ≤ c ∧ c ≤ 1114111 := by
          have := whole_of (HDE.out.1 c (List.mem_of_getElem? hc))
          omega
        obtain ⟨b0, off, hA, hb0, hcl⟩ := (HO1.out.below HB.out).at_ hjn
        have r0 := hcl j (.int .i64 c) (by rw [List.getElem?_map, hc]; rfl)
        rw [hA]
        have hbw : b0 < wr.heap.size := Nat.lt_of_lt_of_le hb0 HB.out.size
        have hq : decide (j < n) = true := decide_eq_true hjn
        have HTK : Hid ((l.take (j + 1)).map foldI = (l.take j).map foldI ++ [foldI c]) := by
          obtain ⟨hj2, rfl⟩ := List.getElem?_eq_some_iff.1 hc
          show _ = _
          rw [List.take_succ_eq_append_getElem hj2, List.map_append]
          rfl
        clear hcl hc
        go_wp2_with fail
        refine (rfold_any c hcw _).mono ?_
        rintro e w2 ⟨rfl, hb2⟩
        have HO2 := Lib.hid (own_kept HO.out hb2)
        have HB2 := Lib.hid (bcall HB.out hb2)
        have hS := HB2.out.size
        clear HO HB hb2
        go_wp2_with (first
          | (at_builtin; refine wpList_pushm w1 _ _ rfl _ _ _ rfl el_int _ _ _ rfl HO2.out (m := 1) rfl rfl rfl (by simp [Value.oneCell']) (by unfold maxLen; omega) (by omega) hS HB2.out ?_; intro v1 w3 hown1 hb3 _ _))
        go_roundw
        case rel => exact ⟨j + 1, by omega, by go_num, hb3, by rw [HTK.out, List.map_append]; exact hown1⟩
        case measure => simp [intOf]; omega
      · obtain rfl : j = n := by omega
        have HPOST : Hid (FoldP w t (.returned (.tuple #[u6, .int .i64 0])) wr) := ⟨bcall HB1.out HB.out, .inl ⟨_, l, rfl, HDE.out, by
          have := HO.out
          rw [← HLN.out, List.take_length] at this
          exact own_lower this HB1.out.size⟩⟩
        go_wp2_with fail
        go_ret2
        exact HPOST.out
  · have HPOST : Hid (FoldP w t (.returned (.tuple #[.slice none 0 0, .int .i64 7])) w1) := ⟨hb1, .inr ⟨rfl, hno⟩⟩
    clear hb1 hno HD
    go_wp2_with fail
    refine wp_loop_rounds 1 ?_
    rw [rounds_succ]
    go_wp2_with fail
    go_ret2
    exact HPOST.out
end Go.Proofs.YtclahhkcbkpofaaDoor
