/- Which states are told apart, in the making (plain Lean). -/
import Derived.Test.YtebdffabfimmkaaDoorHDfaBoth31
import Derived.Test.YtebdffabfimmkaaDoorHDfaBoth29
import Derived.Test.YtebdffabfimmkaaDoorHDfaBoth32
import Derived.Test.YtebdffabfimmkaaDoorHDfaBoth12
import Derived.Test.YtebdffabfimmkaaDoorHDfaBoth30
namespace Go.Proofs.YtebdffabfimmkaaDoor

/-- Where a byte leads, without what is marked. -/
def toG (d : List St) (L : List Bool) (i c : Nat) : Option Nat := match (auOf d).step i c with
  | some y => if L[y]? = some true then none else some y
  | none => none
/-- The marks are right: marked just if nothing is taken. -/
def Gone (d : List St) (L : List Bool) : Prop := L.length = d.length ∧ ∀ i : Nat, i < d.length → (L[i]? = some true ↔ ¬ (auOf d).live i)
theorem toG_stepL {d : List St} (hg : Good d) {L : List Bool} (h : Gone d L) {i : Nat} (hi : i < d.length) (c : Nat) : toG d L i c = (auOf d).stepL i c := by
  unfold toG Au.stepL
  cases hs : (auOf d).step i c with
  | none => rfl
  | some y =>
    have hy := hg.within i hi c y hs
    simp only
    by_cases hl : (auOf d).live y
    · rw [if_pos hl, if_neg fun e => (h.2 y hy).1 e hl]
    · rw [if_neg hl, if_pos ((h.2 y hy).2 hl)]
def cellF (F : List (List Bool)) (i k : Nat) : Option Bool := (F[i]?).bind fun r => r[k]?
/-- Does a byte lead two states to such as are apart? -/
def unl (d : List St) (L : List Bool) (F : List (List Bool)) (i k c : Nat) : Bool := match toG d L i c, toG d L k c with
  | none, none => false
  | some x, some y => (cellF F x y).getD true
  | _, _ => true
def unlB (d : List St) (L : List Bool) (F : List (List Bool)) (i k : Nat) : Bool := (List.range 256).any (unl d L F i k)
structure ApP (d : List St) (F : List (List Bool)) : Prop where
  len : F.length = d.length
  row : ∀ r ∈ F, r.length = d.length
  sound : ∀ i k, cellF F i k = some true → ∃ t, (auOf d).acc i t ≠ (auOf d).acc k t
  base : ∀ i k, i < d.length → k < d.length → (auOf d).fin i ≠ (auOf d).fin k → cellF F i k = some true
theorem cell_some {d : List St} {F : List (List Bool)} (h : ApP d F) {i k : Nat} (hi : i < d.length) (hk : k < d.length) : ∃ b, cellF F i k = some b := by
  unfold cellF
  have h1 : i < F.length := by rw [h.len]; exact hi
  rw [List.getElem?_eq_getElem h1]
  have h2 := h.row F[i] (List.getElem_mem h1)
  exact ⟨F[i][k]'(by omega), List.getElem?_eq_getElem _⟩
theorem cell_set {F : List (List Bool)} {i k x y : Nat} {r : List Bool} (hr : F[i]? = some r) (hk : k < r.length) : cellF (F.set i (r.set k true)) x y = if x = i ∧ y = k then some true else cellF F x y := by
  unfold cellF
  have hi := (List.getElem?_eq_some_iff.1 hr).1
  rw [List.getElem?_set]
  by_cases e : i = x
  · subst e
    rw [if_pos rfl, if_pos hi, hr]
    show (r.set k true)[y]? = if _ then _ else r[y]?
    rw [List.getElem?_set]
    by_cases e2 : k = y
    · subst e2
      rw [if_pos rfl, if_pos hk, if_pos ⟨rfl, rfl⟩]
    · rw [if_neg e2, if_neg fun h => e2 h.2.symm]
  · rw [if_neg e, if_neg fun h => e h.1.symm]
/-- What is unlike is told apart. -/
theorem unl_sound {d : List St} (hg : Good d) {L : List Bool} (hL : Gone d L) {F : List (List Bool)} (h : ApP d F) {i k : Nat} (hi : i < d.length) (hk : k < d.length) (hu : unlB d L F i k = true) : ∃ t, (auOf d).acc i t ≠ (auOf d).acc k t := by
  unfold unlB at hu
  obtain ⟨c, hc, hu⟩ := List.any_eq_true.1 hu
  have hc := List.mem_range.1 hc
  unfold unl at hu
  rw [toG_stepL hg hL hi, toG_stepL hg hL hk] at hu
  have key : ∀ (j : Nat) (t : List Nat), (auOf d).acc j (c :: t) = match (auOf d).stepL j c with | some y => (auOf d).acc y t | none => false := fun j t => by
    rw [← acc_live (auOf d) (c :: t) j, Au.acc, if_pos hc]
    rw [show (⟨(auOf d).fin, (auOf d).stepL⟩ : Au Nat).step j c = (auOf d).stepL j c from rfl]
    cases (auOf d).stepL j c with
    | none => rfl
    | some y => exact acc_live (auOf d) t y
  have live : ∀ (j y : Nat), (auOf d).stepL j c = some y → (auOf d).live y := fun j y hy => by
    unfold Au.stepL at hy
    split at hy
    · split at hy
      · rename_i hl
        injection hy with hy
        rw [← hy]
        exact hl
      · cases hy
    · cases hy
  have lt : ∀ (j y : Nat), j < d.length → (auOf d).stepL j c = some y → y < d.length := fun j y hj hy => by
    unfold Au.stepL at hy
    split at hy
    · rename_i z hz
      split at hy
      · injection hy with hy
        rw [← hy]
        exact hg.within j hj c z hz
      · cases hy
    · cases hy
  cases hx : (auOf d).stepL i c with
  | none =>
    cases hy : (auOf d).stepL k c with
    | none => rw [hx, hy] at hu; cases hu
    | some y =>
      obtain ⟨t, ht⟩ := live k y hy
      refine ⟨c :: t, ?_⟩
      rw [key, key, hx, hy]
      simp [ht]
  | some x =>
    cases hy : (auOf d).stepL k c with
    | none =>
      obtain ⟨t, ht⟩ := live i x hx
      refine ⟨c :: t, ?_⟩
      rw [key, key, hx, hy]
      simp [ht]
    | some y =>
      rw [hx, hy] at hu
      obtain ⟨b, hb⟩ := cell_some h (lt i x hi hx) (lt k y hk hy)
      simp only [hb, Option.getD_some] at hu
      subst hu
      obtain ⟨t, ht⟩ := h.sound x y hb
      refine ⟨c :: t, ?_⟩
      rw [key, key, hx, hy]
      exact ht
/-- At the end what is not told apart takes the same. -/
theorem ApP.done {d : List St} (hg : Good d) {L : List Bool} (hL : Gone d L) {F : List (List Bool)} (h : ApP d F) (hc : ∀ i k, i < d.length → k < d.length → cellF F i k = some false → unlB d L F i k = false) : ∀ (t : List Nat) (i k : Nat), i < d.length → k < d.length → cellF F i k = some false → (auOf d).acc i t = (auOf d).acc k t
  | [], i, k, hi, hk, hf => by
    show (auOf d).fin i = (auOf d).fin k
    by_cases e : (auOf d).fin i = (auOf d).fin k
    · exact e
    · have := h.base i k hi hk e
      rw [hf] at this
      cases this
  | c :: t, i, k, hi, hk, hf => by
    rw [← acc_live (auOf d) (c :: t) i, ← acc_live (auOf d) (c :: t) k, Au.acc, Au.acc]
    by_cases hc256 : c < 256
    · rw [if_pos hc256, if_pos hc256]
      have hu := hc i k hi hk hf
      unfold unlB at hu
      have hu := List.any_eq_false.1 hu c (List.mem_range.2 hc256)
      unfold unl at hu
      rw [toG_stepL hg hL hi, toG_stepL hg hL hk] at hu
      have lt : ∀ (j y : Nat), j < d.length → (auOf d).stepL j c = some y → y < d.length := fun j y hj hy => by
        unfold Au.stepL at hy
        split at hy
        · rename_i z hz
          split at hy
          · injection hy with hy
            rw [← hy]
            exact hg.within j hj c z hz
          · cases hy
        · cases hy
      rw [show (⟨(auOf d).fin, (auOf d).stepL⟩ : Au Nat).step i c = (auOf d).stepL i c from rfl, show (⟨(auOf d).fin, (auOf d).stepL⟩ : Au Nat).step k c = (auOf d).stepL k c from rfl]
      cases hx : (auOf d).stepL i c with
      | none =>
        cases hy : (auOf d).stepL k c with
        | none => rfl
        | some y => rw [hx, hy] at hu; exact absurd rfl hu
      | some x =>
        cases hy : (auOf d).stepL k c with
        | none => rw [hx, hy] at hu; exact absurd rfl hu
        | some y =>
          rw [hx, hy] at hu
          obtain ⟨b, hb⟩ := cell_some h (lt i x hi hx) (lt k y hk hy)
          simp only [hb, Option.getD_some] at hu
          have hb2 : cellF F x y = some false := by rw [hb]; cases b with | false => rfl | true => exact absurd rfl hu
          have h3 := h.done hg hL hc t x y (lt i x hi hx) (lt k y hk hy) hb2
          show (⟨(auOf d).fin, (auOf d).stepL⟩ : Au Nat).acc x t = (⟨(auOf d).fin, (auOf d).stepL⟩ : Au Nat).acc y t
          rw [acc_live, acc_live]
          exact h3
    · rw [if_neg hc256, if_neg hc256]
end Go.Proofs.YtebdffabfimmkaaDoor
/- The reference's dead. -/
namespace Go.Proofs.YtebdffabfimmkaaDoor
open Go.RowKit Go.Maps

theorem ddp_start {d : List St} : DdP d (d.map fun s => !s.1) := by
  refine ⟨List.length_map .., fun i hi => ⟨[], ?_⟩, fun i s hs hf => ?_⟩
  · rw [List.getElem?_map] at hi
    obtain ⟨s, hs, hf⟩ := Option.map_eq_some_iff.1 hi
    show ((d[i]?).map (·.1)).getD false = true
    rw [hs]
    show s.1 = true
    simpa using hf
  · rw [List.getElem?_map, hs]
    show some (!s.1) = _
    rw [hf]
    rfl
theorem ddp_gone {d : List St} {L : List Bool} (h : DdP d L) (hc : DdTo d L d.length 0) : Gone d L := by
  refine ⟨h.len, fun i hi => ⟨fun h1 ⟨t, ht⟩ => ?_, fun h1 => ?_⟩⟩
  · rw [h.done hc t i h1] at ht
    cases ht
  · obtain ⟨b, hb⟩ : ∃ b, L[i]? = some b := ⟨L[i]'(by rw [h.len]; exact hi), List.getElem?_eq_getElem _⟩
    cases b with
    | true => exact hb
    | false => exact absurd (h.live i hb) h1
set_option maxRecDepth 100000 in
set_option maxHeartbeats 8000000 in
theorem dead_any (w : World) (B : Nat) (hB : B ≤ w.heap.size) (A : Option Addr) (n c : Nat) (H : List Sh) (h : StsIn w B A n c H) (hg : Good (H.map (·.d))) :
    Calls Tryd.prog 38 #[.slice A n c] w fun e w' => ∃ ob oc L, e = .returned (.slice (some ⟨ob, 0, none⟩) n oc) ∧ SpR w w' ob oc n L ∧ Gone (H.map (·.d)) L := by
  have HS := Lib.hid h
  have hlen := h.len
  obtain ⟨d, hd⟩ : ∃ d, H.map (·.d) = d := ⟨_, rfl⟩
  have HD := Lib.hid hd
  have hll : d.length = n := by rw [← hd, List.length_map]; exact hlen
  have HLL := Lib.hid hll
  have hnp : 0 < n := by rw [← hll, ← hd]; exact List.length_pos_iff.2 hg.ne
  rw [hd] at hg ⊢
  have HG := Lib.hid hg
  have hcm : n ≤ 20000 := by rw [← hll]; exact hg.few
  have hmk := make_bool n (by omega)
  have HR1 : Hid (SpR w (w.alloc (.cells (madeCells #[.bool false] n) 4)) w.heap.size n n (List.replicate n false)) := ⟨by
    have h1 := own_made w (.bool false) n (by omega) 4 rfl (Nat.le_refl w.heap.size)
    rw [List.map_replicate]
    exact h1, bnew (brefl w) _⟩
  clear h hg hd hll
  go_enter Tryd.func38, Tryd.ntmps38
  go_wp2_with fail
  generalize w.alloc (.cells (madeCells #[.bool false] n) 4) = w1 at *
  obtain ⟨ob, hob⟩ : ∃ k, w.heap.size = k := ⟨_, rfl⟩
  have HR2 : Hid (SpR w w1 ob n n ((d.take 0).map (fun s => !s.1) ++ List.replicate (n - 0) false)) := by rw [← hob]; exact HR1.out
  rw [hob]
  clear HR1 hmk hob
  go_loopw [4] (fun iv wr => ∃ i : Nat, i ≤ n ∧ iv = .int .i64 i ∧ Hid (SpR w wr ob n n ((d.take i).map (fun s => !s.1) ++ List.replicate (n - i) false))) (fun iv _ => n - (intOf iv).toNat)
  case atStart => exact ⟨0, Nat.zero_le _, rfl, HR2⟩
  case round =>
    clear HR2
    obtain ⟨i, hi, rfl, HR⟩ := hrel
    by_cases hin : i < n
    · obtain ⟨x, hx⟩ : ∃ x, H[i]? = some x := ⟨H[i]'(by omega), List.getElem?_eq_getElem _⟩
      obtain ⟨b, off, rfl, hb, hcell⟩ := (HS.out.keep (HR.out.bel.mono hB) (Nat.le_refl _)).at_ (by omega)
      obtain ⟨k0, _⟩ := hcell i x hx
      have hbs := HR.out.bel.size
      have hbw : b < wr.heap.size := by omega
      have hi2 : (i : Int) < (n : Int) := by omega
      have hdx : d[i]? = some x.d := by rw [← HD.out, List.getElem?_map, hx]; rfl
      have htl : ((d.take i).map (fun s => !s.1)).length = i := by rw [List.length_map, List.length_take, HLL.out]; omega
      have o0 := HR.out.get (t := i) (b := false) (by
        rw [List.getElem?_append_right (by omega), htl, Nat.sub_self, List.getElem?_replicate, if_pos (by omega)])
      have HS1 := Lib.hid (HR.out.set i (!x.d.1))
      have hfz := HS1.out.2.1
      have how := HS1.out.2.2
      have HRN : Hid (SpR w (wr.setCell ⟨ob, i, none⟩ (.bool (!x.d.1))) ob n n ((d.take (i + 1)).map (fun s => !s.1) ++ List.replicate (n - (i + 1)) false)) := by
        have h1 := HS1.out.1
        have h2 : ((d.take i).map (fun s => !s.1) ++ List.replicate (n - i) false).set i (!x.d.1) = (d.take (i + 1)).map (fun s => !s.1) ++ List.replicate (n - (i + 1)) false := by
          rw [List.set_append_right _ _ (by omega), htl, Nat.sub_self, List.take_add_one, hdx, show n - i = (n - (i + 1)) + 1 by omega, List.replicate_succ]
          simp
        rw [h2] at h1
        exact h1
      obtain ⟨fx, hfx⟩ : ∃ f, x.d.1 = f := ⟨_, rfl⟩
      rw [hfx] at k0 HRN
      clear hcell hx hdx htl HS1 HR hfx
      cases fx
      all_goals
        go_wp2_with fail
        go_roundw
        case rel => exact ⟨i + 1, by omega, by go_num, HRN⟩
        case measure => simp [intOf]; omega
    · obtain rfl : i = n := by omega
      have HR1 : Hid (SpR w wr ob i i (d.map fun s => !s.1)) := by
        have h1 := HR.out
        rw [← HLL.out, Nat.sub_self, List.take_length, List.replicate_zero, List.append_nil] at h1
        rw [← HLL.out]
        exact h1
      have HP1 : Hid (DdP d (d.map fun s => !s.1) ∧ (true = false → DdTo d (d.map fun s => !s.1) d.length 0)) := ⟨ddp_start, fun h => by cases h⟩
      clear HR
      generalize hL0 : (d.map fun s => !s.1) = L0 at HR1 HP1
      clear hL0
      go_wp2_with fail
      go_loopg [5] (2 * ons L0 + 1) (fun gk mv wr => ∃ (L : List Bool) (more : Bool), mv = .bool more ∧ Hid (SpR w wr ob i i L) ∧ Hid (DdP d L ∧ (more = false → DdTo d L d.length 0)) ∧ Hid (2 * ons L + (if more then 1 else 0) ≤ gk))
      case atStart => exact ⟨L0, true, rfl, HR1, ⟨HP1.out.1, fun h => by cases h⟩, Nat.le_refl _⟩
      case round =>
        clear HR1 HP1
        obtain ⟨L, more, rfl, HR, HP, HK⟩ := hrel
        cases more
        · have HE := Lib.hid (ddp_gone HP.out.1 (HP.out.2 rfl))
          clear HP HK
          go_wp2_with fail
          go_ret
          exact ⟨_, _, L, rfl, HR.out, HE.out⟩
        · have HP2 : Hid (DdP d L ∧ DdTo d L 0 0 ∧ 2 * ons L + 0 + 1 ≤ gk) := ⟨HP.out.1, .zero _ _, HK.out⟩
          clear HP HK
          go_wp2_with fail
          go_loopw [5, 6] (fun mv iv wr => ∃ (q : Nat) (L : List Bool) (more : Bool), q ≤ i ∧ mv = .bool more ∧ iv = .int .i64 q ∧ Hid (SpR w wr ob i i L) ∧ Hid (DdP d L ∧ (more = false → DdTo d L q 0) ∧ 2 * ons L + (if more then 1 else 0) + 1 ≤ gk)) (fun _ iv _ => i - (intOf iv).toNat)
          case atStart => exact ⟨0, L, false, Nat.zero_le _, rfl, rfl, HR, Lib.hid ⟨HP2.out.1, fun _ => HP2.out.2.1, HP2.out.2.2⟩⟩
          case round =>
            clear HR HP2
            obtain ⟨q, L, more, hq, rfl, rfl, HR, HP⟩ := hrel
            by_cases hqn : q < i
            · obtain ⟨x, hx⟩ : ∃ x, H[q]? = some x := ⟨H[q]'(by omega), List.getElem?_eq_getElem _⟩
              have HX := Lib.hid hx
              clear hx
              go_wp2_with fail
              refine dead_k w wr B hB A i c H HS d HD HG hlen hcm q hqn x HX ob i gk L more HR HP _ _ _ _ _ _ _ _ _ _ _ _ _ _ _ _ _ _ _ _ _ _ _ _ _ _ _ _ _ _ _ _ _ _ _ _ _ _ _ _ _ _ _ _ _ _ _ _ _ _ _ _ _ _ _ _ _ _ _ _ _ _ (fun c a a' w hd h => by cases a; cases a'; cases hd; exact h) ?_
              intro L more W x7 u33 u34 u35 u36 u37 u38 u39 u40 u41 u42 u43 u44 u45 u46 u47 u48 u49 u50 u51 u52 u53 u54 u55 u56 u57 u58 u59 u60 u61 u62 u63 u64 HR HP
              go_wp2_with fail
              go_roundw
              case rel => exact ⟨q + 1, L, more, by omega, rfl, by go_num, HR, HP⟩
              case measure => simp [intOf]; omega
            · obtain rfl : q = i := by omega
              have HPZ : Hid (DdP d L ∧ (more = false → DdTo d L d.length 0)) := ⟨HP.out.1, by rw [HLL.out]; exact HP.out.2.1⟩
              have HKZ : Hid (2 * ons L + (if more then 1 else 0) + 1 ≤ gk) := HP.out.2.2
              clear HP
              go_wp2_with fail
              go_roundg (gk - 1)
              case measure => have := HKZ.out; omega
              case rel => exact ⟨L, more, rfl, HR, HPZ, by have := HKZ.out; show _ ≤ _; omega⟩
end Go.Proofs.YtebdffabfimmkaaDoor
/- The reference's to. -/
namespace Go.Proofs.YtebdffabfimmkaaDoor
open Go.RowKit Go.Maps

def toZ (d : List St) (L : List Bool) (i c : Nat) : Int := match toG d L i c with
  | some y => (y : Int)
  | none => -1
set_option maxRecDepth 100000 in
set_option maxHeartbeats 8000000 in
theorem to_any (w : World) (B : Nat) (hB : B ≤ w.heap.size) (A : Option Addr) (n c : Nat) (H : List Sh) (h : StsIn w B A n c H) (hg : Good (H.map (·.d))) (Ag : Option Addr) (cg : Nat) (L : List Bool) (hL : Sl w w.heap.size 1 Ag n (L.map .bool)) (i ch : Nat) (hi : i < n) :
    Calls Tryd.prog 40 #[.slice A n c, .slice Ag n cg, .int .i64 (i : Int), .int .i64 (ch : Int)] w fun e w' => e = .returned (.int .i64 (toZ (H.map (·.d)) L i ch)) ∧ Below w.heap.size w w' := by
  have HS := Lib.hid h
  have HL := Lib.hid hL
  have hlen := h.len
  have hdl : (H.map (·.d)).length = n := by rw [List.length_map]; exact hlen
  have hst := stepI_au hg (x := i) (by rw [hdl]; exact hi) ch
  rw [hdl] at hst
  have hLl : L.length = n := by have := hL.1; rw [List.length_map] at this; omega
  clear h hL hg hdl
  go_enter Tryd.func40, Tryd.ntmps40
  go_wp2_with fail
  refine (rstep_any w B hB A n c H HS.out (i : Int) (ch : Int)).mono ?_
  rintro e w1 ⟨rfl, hb1⟩
  have HB1 := Lib.hid hb1
  clear hb1
  rcases hst with ⟨h1, h2⟩ | ⟨y, h1, h2, hy⟩
  · have HE : Hid (toZ (H.map (·.d)) L i ch = -1) := by show _ = _; unfold toZ toG; rw [h2]
    rw [h1]
    clear h1 h2
    go_wp2_with fail
    go_ret
    exact ⟨by rw [HE.out]; rfl, HB1.out⟩
  · obtain ⟨b, hb⟩ : ∃ b, L[y]? = some b := ⟨L[y]'(by omega), List.getElem?_eq_getElem _⟩
    have HE : Hid (toZ (H.map (·.d)) L i ch = if b then -1 else (y : Int)) := by
      show _ = _
      unfold toZ toG
      rw [h2]
      simp only [hb]
      cases b <;> simp
    obtain ⟨sb, so, rfl, hsb, hsc⟩ := HL.out.at_ (show 0 < n by omega)
    have s0 := (HB1.out.cell (p := ⟨sb, so + y, none⟩) hsb).trans (hsc y (.bool b) (by rw [List.getElem?_map, hb]; rfl))
    have hsw : sb < w1.heap.size := Nat.lt_of_lt_of_le hsb HB1.out.size
    have hy2 : (y : Int) < (n : Int) := by omega
    have q0 : decide ((y : Int) ≥ 0) = true := decide_eq_true (by omega)
    rw [h1]
    clear h1 h2 hb hsc
    cases b
    all_goals
      go_wp2_with fail
      go_ret
      exact ⟨by rw [HE.out]; rfl, HB1.out⟩
end Go.Proofs.YtebdffabfimmkaaDoor
/- The reference's unlike: rows of rows of bools. -/
namespace Go.Proofs.YtebdffabfimmkaaDoor
open Go.RowKit Go.Maps

structure Br where
  A : Option Addr
  c : Nat
  l : List Bool
def Br.val (x : Br) : Value := .slice x.A x.l.length x.c
def Br.row (x : Br) : GRow := ⟨x.val, x.l.length, x.l.map .bool⟩
/-- Rows of bools that are read. -/
structure Mat (w : World) (B : Nat) (A : Option Addr) (n : Nat) (R : List Br) : Prop where
  len : R.length = n
  sl : Sl w B 1 A n (R.map Br.val)
  ar : ∀ x ∈ R, Sl w B 1 x.A x.l.length (x.l.map .bool) ∧ x.l.length = n
section
variable {w w' : World} {B B' n : Nat} {A : Option Addr} {R : List Br}
theorem Mat.keep (h : Mat w B A n R) (hb : Below B w w') (hB : B ≤ B') : Mat w' B' A n R :=
  ⟨h.len, (h.sl.below hb).more hB, fun x hx => ⟨((h.ar x hx).1.below hb).more hB, (h.ar x hx).2⟩⟩
theorem Mat.cell (h : Mat w B A n R) {i k : Nat} (hi : i < n) (hk : k < n) : ∃ b, cellF (R.map (·.l)) i k = some b := by
  obtain ⟨x, hx⟩ : ∃ x, R[i]? = some x := ⟨R[i]'(by rw [h.len]; exact hi), List.getElem?_eq_getElem _⟩
  have hl := (h.ar x (List.mem_of_getElem? hx)).2
  unfold cellF
  rw [List.getElem?_map, hx]
  exact ⟨x.l[k]'(by omega), List.getElem?_eq_getElem _⟩
theorem Mat.get (h : Mat w B A n R) {i k : Nat} {b : Bool} (hi : cellF (R.map (·.l)) i k = some b) : ∃ ob oo xc rb ro, A = some ⟨ob, oo, none⟩ ∧ ob < B ∧ w.cell? ⟨ob, oo + i, none⟩ = some (.slice (some ⟨rb, ro, none⟩) n xc) ∧ rb < B ∧ w.cell? ⟨rb, ro + k, none⟩ = some (.bool b) := by
  unfold cellF at hi
  obtain ⟨r, hr, hk⟩ := Option.bind_eq_some_iff.1 hi
  rw [List.getElem?_map] at hr
  obtain ⟨x, hx, rfl⟩ := Option.map_eq_some_iff.1 hr
  have h1 := (List.getElem?_eq_some_iff.1 hx).1
  obtain ⟨h2, h3⟩ := h.ar x (List.mem_of_getElem? hx)
  have h4 := (List.getElem?_eq_some_iff.1 hk).1
  obtain ⟨ob, oo, rfl, hob, hc⟩ := h.sl.at_ (show 0 < n by omega)
  obtain ⟨rb, ro, hA, hrb, hrc⟩ := h2.at_ (show 0 < x.l.length by omega)
  have h5 := hc i x.val (by rw [List.getElem?_map, hx]; rfl)
  unfold Br.val at h5
  rw [hA, h3] at h5
  exact ⟨ob, oo, x.c, rb, ro, rfl, hob, h5, hrb, hrc k (.bool b) (by rw [List.getElem?_map, hk]; rfl)⟩
end
theorem unl_any {d : List St} {L : List Bool} {F : List (List Bool)} {i k c : Nat} (hc : c < 256) (h : unl d L F i k c = true) : unlB d L F i k = true := List.any_eq_true.2 ⟨c, List.mem_range.2 hc, h⟩
theorem unl_next {d : List St} {L : List Bool} {F : List (List Bool)} {i k c : Nat} (h : (List.range c).any (unl d L F i k) = false) (h' : unl d L F i k c = false) : (List.range (c + 1)).any (unl d L F i k) = false := by
  rw [List.range_succ, List.any_append, h]
  simp [h']
set_option maxRecDepth 100000 in
set_option maxHeartbeats 8000000 in
theorem unlike_any (w : World) (B : Nat) (hB : B ≤ w.heap.size) (A : Option Addr) (n c : Nat) (H : List Sh) (h : StsIn w B A n c H) (hg : Good (H.map (·.d))) (Ag : Option Addr) (cg : Nat) (L : List Bool) (hL : Sl w w.heap.size 1 Ag n (L.map .bool)) (Am : Option Addr) (cm : Nat) (R : List Br) (hM : Mat w w.heap.size Am n R) (i k : Nat) (hi : i < n) (hk : k < n) :
    Calls Tryd.prog 50 #[.slice A n c, .slice Ag n cg, .slice Am n cm, .int .i64 (i : Int), .int .i64 (k : Int)] w fun e w' => e = .returned (.bool (unlB (H.map (·.d)) L (R.map (·.l)) i k)) ∧ Below w.heap.size w w' := by
  have HS := Lib.hid h
  have HL := Lib.hid hL
  have HM := Lib.hid hM
  have HG := Lib.hid hg
  obtain ⟨d, hd⟩ : ∃ d, H.map (·.d) = d := ⟨_, rfl⟩
  have HD := Lib.hid hd
  have hdl : d.length = n := by rw [← hd, List.length_map]; exact h.len
  have HDL := Lib.hid hdl
  have hcm : n ≤ 20000 := by rw [← hdl, ← hd]; exact hg.few
  rw [hd] at HG ⊢
  clear h hL hM hg hd hdl
  go_enter Tryd.func50, Tryd.ntmps50
  go_wp2_with fail
  go_loopw [11] (fun cv wr => ∃ ch : Nat, ch ≤ 256 ∧ cv = .int .i64 ch ∧ Hid ((List.range ch).any (unl d L (R.map (·.l)) i k) = false) ∧ Hid (Below w.heap.size w wr)) (fun cv _ => 256 - (intOf cv).toNat)
  case atStart => exact ⟨0, by omega, rfl, rfl, brefl w⟩
  case round =>
    obtain ⟨ch, hch, rfl, HN, HB⟩ := hrel
    by_cases hlt : ch < 256
    · have hlt2 : (ch : Int) < 256 := by omega
      go_wp2_with fail
      refine (to_any wr B (Nat.le_trans hB HB.out.size) A n c H (HS.out.keep (HB.out.mono hB) (Nat.le_refl _)) (by rw [HD.out]; exact HG.out) Ag cg L ((HL.out.below HB.out).more HB.out.size) i ch hi).mono ?_
      rintro e w1 ⟨rfl, hb1⟩
      have HB1 := Lib.hid (bcall HB.out hb1)
      clear hb1
      go_wp2_with fail
      refine (to_any w1 B (Nat.le_trans hB HB1.out.size) A n c H (HS.out.keep (HB1.out.mono hB) (Nat.le_refl _)) (by rw [HD.out]; exact HG.out) Ag cg L ((HL.out.below HB1.out).more HB1.out.size) k ch hk).mono ?_
      rintro e w2 ⟨rfl, hb2⟩
      have HB2 := Lib.hid (bcall HB1.out hb2)
      clear hb2 HB1
      rw [HD.out]
      have HX : ∀ {j : Nat}, j < n → ∀ x, toG d L j ch = some x → x < n := fun {j} hj x hx => by
        unfold toG at hx
        split at hx
        · rename_i y hy
          split at hx
          · cases hx
          · injection hx with hx
            rw [← hx, ← HDL.out]
            exact HG.out.within j (by rw [HDL.out]; exact hj) ch y hy
        · cases hx
      have HU : Hid (unl d L (R.map (·.l)) i k ch = match toG d L i ch, toG d L k ch with
        | none, none => false
        | some x, some y => (cellF (R.map (·.l)) x y).getD true
        | _, _ => true) := rfl
      have HXi := Lib.hid (HX hi)
      have HXk := Lib.hid (HX hk)
      have hzi : toZ d L i ch = match toG d L i ch with | some y => (y : Int) | none => -1 := rfl
      have hzk : toZ d L k ch = match toG d L k ch with | some y => (y : Int) | none => -1 := rfl
      clear HX
      cases hgi : toG d L i ch with
      | none =>
        rw [hgi] at hzi HU
        cases hgk : toG d L k ch with
        | none =>
          rw [hgk] at hzk HU
          simp only at hzi hzk
          rw [hzi, hzk]
          have HNN : Hid ((List.range (ch + 1)).any (unl d L (R.map (·.l)) i k) = false) := unl_next HN.out HU.out
          clear hzi hzk hgi hgk HXi HXk HU
          go_wp2_with fail
          go_roundw
          case rel => exact ⟨ch + 1, by omega, by go_num, HNN, HB2⟩
          case measure => simp [intOf]; omega
        | some y =>
          rw [hgk] at hzk HU
          simp only at hzi hzk
          rw [hzi, hzk]
          have HE : Hid (unlB d L (R.map (·.l)) i k = true) := unl_any hlt HU.out
          have q0 : decide ((y : Int) < 0) = false := decide_eq_false (by omega)
          clear hzi hzk hgi hgk HXi HXk HU
          go_wp2_with fail
          go_ret
          exact ⟨by rw [HE.out]; rfl, HB2.out⟩
      | some x =>
        rw [hgi] at hzi HU
        have hx := HXi.out x hgi
        have q1 : decide ((x : Int) < 0) = false := decide_eq_false (by omega)
        cases hgk : toG d L k ch with
        | none =>
          rw [hgk] at hzk HU
          simp only at hzi hzk
          rw [hzi, hzk]
          have HE : Hid (unlB d L (R.map (·.l)) i k = true) := unl_any hlt HU.out
          clear hzi hzk hgi hgk HXi HXk HU
          go_wp2_with fail
          go_ret
          exact ⟨by rw [HE.out]; rfl, HB2.out⟩
        | some y =>
          rw [hgk] at hzk HU
          simp only at hzi hzk
          rw [hzi, hzk]
          have hy := HXk.out y hgk
          have q0 : decide ((y : Int) < 0) = false := decide_eq_false (by omega)
          have HW := Lib.hid (HM.out.keep HB2.out HB2.out.size)
          obtain ⟨b, hb⟩ := HW.out.cell hx hy
          obtain ⟨ob, oo, xc, rb, ro, rfl, hob, m0, hrb, m1⟩ := HW.out.get hb
          have hx2 : (x : Int) < (n : Int) := by omega
          have hy2 : (y : Int) < (n : Int) := by omega
          have HC := Lib.hid hb
          clear hzi hzk hgi hgk HXi HXk hb
          cases b
          · have HNN : Hid ((List.range (ch + 1)).any (unl d L (R.map (·.l)) i k) = false) := unl_next HN.out (by rw [HU.out]; show (cellF _ x y).getD true = false; rw [HC.out]; rfl)
            clear HU HC
            go_wp2_with fail
            go_roundw
            case rel => exact ⟨ch + 1, by omega, by go_num, HNN, HB2⟩
            case measure => simp [intOf]; omega
          · have HE : Hid (unlB d L (R.map (·.l)) i k = true) := unl_any hlt (by rw [HU.out]; show (cellF _ x y).getD true = true; rw [HC.out]; rfl)
            clear HU HC
            go_wp2_with fail
            go_ret
            exact ⟨by rw [HE.out]; rfl, HB2.out⟩
    · obtain rfl : ch = 256 := by omega
      have HE : Hid (unlB d L (R.map (·.l)) i k = false) := HN.out
      clear HN
      go_wp2_with fail
      go_ret
      exact ⟨by rw [HE.out]; rfl, HB.out⟩
end Go.Proofs.YtebdffabfimmkaaDoor
