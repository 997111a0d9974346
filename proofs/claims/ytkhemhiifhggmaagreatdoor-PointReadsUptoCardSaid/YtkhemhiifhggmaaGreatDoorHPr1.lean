/- Words for memory used by all proofs of this project: a slice that reads as a list of cells, a list of equal rows, what a call leaves as it was. -/
import Derived.WalkKit
import Derived.WalkLawsBesides
import Derived.WalkSpells
import Derived.BigQuiet
import Derived.Deep.QuietTactic
import Derived.Deep.Draws
import Derived.Deep.LoopGhost
import Derived.Deep.DeepCutAuto
import Derived.Lib.Hide
import Derived.Below
import Derived.Laws.OwnMore
import Derived.Outline
import Derived.Maps.AppendAt
import Derived.Deep.Slices
import Derived.Deep.Fields
import Derived.ChangeArms
import Derived.ChangeSame
import Derived.SizedLaws
import Derived.OpenShut
import Derived.Laws.BytesArg
import Derived.Laws.BitsLemmas
import Derived.Deep.Onto
import Derived.IntWalk
import Derived.Deep.AppendLies
import Derived.Test.YtkhemhiifhggmaaGreatDoorProg
import Derived.Lib.SlBytesRow
import Derived.Laws.IdiomStrings
import Derived.Maps.OwnSet
import Derived.Maps.OwnOps
import Derived.Maps.Ext
import Derived.Lib.SmallJoins
import Derived.Maps.Own
import Derived.Deep.RegionHeld3
import Derived.StringKeys
set_option maxRecDepth 100000
set_option maxHeartbeats 40000000
namespace Go.Proofs.YtkhemhiifhggmaaGreatDoor
open Go.RowKit
theorem ret_int {k : IntKind} {a b : Int} (h : a = b) : Ending.returned (.int k a) = .returned (.int k b) := by rw [h]
theorem ret_bool {a b : Bool} (h : a = b) : Ending.returned (.bool a) = .returned (.bool b) := by rw [h]
def Sl (w : World) (B size : Nat) (A : Option Addr) (n : Nat) (xs : List Value) : Prop :=
 xs.length = n * size ∧ (0 < n → ∃ b off, A = some ⟨b, off, none⟩ ∧ b < B ∧ ∀ j u, xs[j]? = some u → w.cell? ⟨b, off + j, none⟩ = some u)
section
variable {w w' : World} {B B' size n : Nat} {A : Option Addr} {xs : List Value}
theorem Sl.empty : Sl w B size A 0 [] := ⟨by simp, fun h => absurd h (by omega)⟩
theorem Sl.at_ (h : Sl w B size A n xs) {k : Nat} (hk : k < n) : ∃ b off, A = some ⟨b, off, none⟩ ∧ b < B ∧ ∀ j u, xs[j]? = some u → w.cell? ⟨b, off + j, none⟩ = some u := h.2 (by omega)
theorem Sl.keep (h : Sl w B size A n xs) (hk : ∀ b o, b < B → w'.cell? ⟨b, o, none⟩ = w.cell? ⟨b, o, none⟩) : Sl w' B size A n xs :=
 ⟨h.1, fun hn => by
  obtain ⟨b, off, e, hb, hc⟩ := h.2 hn
  exact ⟨b, off, e, hb, fun j u hu => (hk _ _ hb).trans (hc j u hu)⟩⟩
theorem Sl.more (h : Sl w B size A n xs) (hB : B ≤ B') : Sl w B' size A n xs :=
 ⟨h.1, fun hn => by
  obtain ⟨b, off, e, hb, hc⟩ := h.2 hn
  exact ⟨b, off, e, by omega, hc⟩⟩
theorem Sl.below (h : Sl w B size A n xs) (hb : Below B w w') : Sl w' B size A n xs := h.keep fun _ _ hp => hb.cell hp
theorem Sl.drewN (h : Sl w B size A n xs) (k : Nat) : Sl (w.drewN k) B size A n xs := h
theorem Sl.alloc (h : Sl w B size A n xs) (hB : B ≤ w.heap.size) (o : Obj) : Sl (w.alloc o) B size A n xs := h.keep fun b o' hp => World.cell?_alloc_lt w o ⟨b, o', none⟩ (by show b < _; omega)
theorem Sl.of_own {base : Nat} {e : TypeId} {c : Nat} (h : w.ownsRow base e size (.slice A n c) n xs) : Sl w w.heap.size size A n xs := by
 refine ⟨h.1, fun hn => ?_⟩
 rcases h.2 with ⟨_, h0⟩ | ⟨g, cap, cur, hv, _, hg, _⟩
 ·omega
 ·injection hv with hA _ _
  subst hA
  have hlt : g < w.heap.size := (Array.getElem?_eq_some_iff.1 hg).1
  refine ⟨g, 0, rfl, hlt, fun j u hu => ?_⟩
  have := h.cells (g := g) rfl j u hu
  rwa [Addr.add_lit] at this
end
theorem own_shape {w : World} {base e size n : Nat} {v : Value} {xs : List Value} (h : w.ownsRow base e size v n xs) : ∃ A c, v = .slice A n c ∧ n ≤ c := by
 rcases h.2 with ⟨rfl, rfl⟩ | ⟨g, cap, cur, hv, _, _, hc, _⟩
 ·exact ⟨none, 0, rfl, Nat.le_refl _⟩
 ·exact ⟨_, _, hv, hc⟩
theorem flat_length {α : Type} (f : α → List Value) (m : Nat) (hf : ∀ x, (f x).length = m) (l : List α) : (l.flatMap f).length = l.length * m := by
 induction l with
 | nil => simp
 | cons x l ih => rw [List.flatMap_cons, List.length_append, ih, hf, List.length_cons, Nat.add_mul]; omega
theorem flat_at {α : Type} (f : α → List Value) (m : Nat) (hf : ∀ x, (f x).length = m) (l : List α) (k j : Nat) (x : α) (hx : l[k]? = some x) (hj : j < m) : (l.flatMap f)[k * m + j]? = (f x)[j]? := by
 induction l generalizing k with
 | nil => simp at hx
 |
  cons y l ih =>
  rw [List.flatMap_cons]
  cases k with
  |
   zero =>
   simp at hx
   subst hx
   rw [Nat.zero_mul, Nat.zero_add, List.getElem?_append_left (by rw [hf]; exact hj)]
  |
   succ k =>
   rw [List.getElem?_append_right (by rw [hf, Nat.add_mul]; omega), hf]
   have : (k + 1) * m + j - m = k * m + j := by rw [Nat.add_mul]; omega
   rw [this]
   exact ih k (by simpa using hx)
def Elem (P : Program) (t e : TypeId) (size bytes : Nat) : Prop :=
 P.underlying t = some (.slice e) ∧ ∃ i z, P.info? e = some i ∧ i.zero = some z ∧ i.size = size ∧ i.bytes = bytes ∧ z.cells.size = size ∧ 0 < size
theorem Elem.mk_ {P : Program} {t e : TypeId} {z : Value} {size bytes : Nat} (ht : P.underlying t = some (.slice e)) (h : (P.info? e).map (fun i => (i.zero, i.size, i.bytes)) = some (some z, size, bytes)) (hz : z.cells.size = size) (hs : 0 < size) : Elem P t e size bytes := by
 obtain ⟨i, h1, h2, h3, h4⟩ := info_parts h
 exact ⟨ht, i, z, h1, h2, h3, h4, hz, hs⟩
theorem news_at (w : World) (cs : Array Value) (e : TypeId) : ∀ j u, cs.toList[j]? = some u → (w.alloc (.cells cs e)).cell? ((⟨w.heap.size, 0, none⟩ : Addr).add j) = some u := by
 intro j u hu
 rw [Addr.add_lit, Nat.zero_add, cell_of_row _ w.heap.size j cs e (0, 0) (heap_alloc_new w _)]
 simpa using hu
theorem bcall {w W W' : World} (h : Below w.heap.size w W) (h' : Below W.heap.size W W') : Below w.heap.size w W' := h.trans (h'.mono h.size)
theorem bnew {w W : World} (h : Below w.heap.size w W) (o : Obj) : Below w.heap.size w (W.alloc o) := h.alloc h.size o
theorem brefl (w : World) : Below w.heap.size w w := Below.refl _ _
theorem below_drewN {B : Nat} {a w : World} (h : Below B a w) (n : Nat) : Below B a (w.drewN n) := ⟨h.os, h.tape, h.output, h.size, h.block⟩
section
open Go.ChangeShapes Go.WideShapes Go.Deep
variable {H : Type} {enc : TypeId × Value → H} {P : Program} {w : World} {base : Nat} {spare : Nat → Bool} {held : Bool}
theorem lt_of_cell {w : World} {a : Addr} {v : Value} (h : w.cell? a = some v) : a.block < w.heap.size ∧ a.spot = none := by
 unfold World.cell? at h
 split at h
 ·rename_i c t f hc
  refine ⟨(Array.getElem?_eq_some_iff.1 hc).1, ?_⟩
  split at h
  ·cases h
  ·rename_i hs; simpa using hs
 ·cases h
theorem choose_lt' {α : Type} [Inhabited α] {p : Nat → α → Prop} {n : Nat} (h : ∀ i, i < n → ∃ x, p i x) : ∃ f : Nat → α, ∀ i, i < n → p i (f i) := by
 refine ⟨fun i => if hi : i < n then Classical.choose (h i hi) else default, fun i hi => ?_⟩
 simp only [hi, dif_pos]
 exact Classical.choose_spec (h i hi)
end
end Go.Proofs.YtkhemhiifhggmaaGreatDoor
namespace Go.Proofs.YtkhemhiifhggmaaGreatDoor
open Go.RowKit
theorem own_head {w : World} {base e size n c : Nat} {A : Option Addr} {xs : List Value} (h : w.ownsRow base e size (.slice A n c) n xs) (hn : 0 < n) : ∃ g, A = some ⟨g, 0, none⟩ ∧ base ≤ g ∧ g < w.heap.size := by
 rcases h.2 with ⟨_, h0⟩ | ⟨g, cap, cur, hv, hb, hg, _⟩
 ·omega
 ·injection hv with hA _ _
  exact ⟨g, hA, hb, (Array.getElem?_eq_some_iff.1 hg).1⟩
theorem own_kept {w w' : World} {base e size n : Nat} {v : Value} {xs : List Value} (h : w.ownsRow base e size v n xs) (hb : Below w.heap.size w w') : w'.ownsRow base e size v n xs := by
 refine ⟨h.1, ?_⟩
 rcases h.2 with hn | ⟨g, cap, cur, rfl, hg, hh, rest⟩
 ·exact .inl hn
 ·exact .inr ⟨g, cap, cur, rfl, hg, (hb.block g (Array.getElem?_eq_some_iff.1 hh).1).trans hh, rest⟩
theorem own_new (w : World) (cs : Array Value) (e size m : Nat) (hm : cs.size = m * size) (hx : m ≤ maxLen) {nb : Nat} (h : nb = w.heap.size) {base : Nat} (hb : base ≤ w.heap.size) : (w.alloc (.cells cs e)).ownsRow base e size (.slice (some ⟨nb, 0, none⟩) m m) m cs.toList := by
 subst h
 refine ⟨by simpa using hm, .inr ⟨w.heap.size, m, cs, rfl, hb, heap_alloc_new w _, Nat.le_refl _, hx, hm, ?_⟩⟩
 exact List.take_of_length_le (by simp [hm])
theorem wpList_pushm {P : Program} {ops : Array Oper} {rest : List Oper} {o : Oper} {a : Act} {Q : Exit → Act → World → Prop} (w0 wr : World) (cs : Array Value) (hgd : o.guard = none) (s x : Operand) (t : TypeId)
  (ho : o.op = .call { callee := .builtin .append, args := #[s, x], argTypes := #[t, t] })
  {base e size bytes : Nat} (he : Elem P t e size bytes) (v : Value) (n : Nat) (xs : List Value) (hs : a.eval s = v) (hown : wr.ownsRow base e size v n xs)
  {nb m : Nat} (hx : a.eval x = .slice (some ⟨nb, 0, none⟩) m m) (hnb : wr.heap.size = nb) (hl : cs.size = m * size) (h1 : ∀ u ∈ cs.toList, u.oneCell' = true)
  (h63 : n + m ≤ maxLen) (hbytes : (n + m) * bytes ≤ 140737488355328) (hbase : base ≤ wr.heap.size) (hb : Below base w0 wr)
  (h : ∀ v' w', w'.ownsRow base e size v' (n + m) (xs ++ cs.toList) → Below base w0 w' → wr.grownBy w' v.ownBlock → (v'.ownBlock = v.ownBlock ∨ ∃ g, v'.ownBlock = some g ∧ wr.heap.size ≤ g) → wpList P ops Q rest (a.put o.dst v') w') :
  wpList P ops Q (o :: rest) a (wr.alloc (.cells cs e)) := by
 subst hnb
 obtain ⟨ht, i, z, hi, hz, hsz, hby, hzs, hpos⟩ := he
 refine wpList_append_own_at _ hgd s x t ho base e i z size bytes ht hi hz hsz hby hzs hpos v n xs hs (hown.alloc _) ⟨wr.heap.size, 0, none⟩ m m cs.toList hx (by simpa using hl) (news_at wr cs e) h1 h63 hbytes (by simp; omega) ?_
 intro v' w' h2 h3 _ h5
 have hall : wr.grownBy w' v.ownBlock := (World.grownBy_alloc wr _ _).trans h3
 refine h v' w' h2 (hb.grown hall hbase (fun k hk => (hown.lt k hk).1)) hall ?_
 rcases h5 with h5 | h5
 ·exact .inl h5
 ·exact .inr ⟨_, h5, by simp⟩
theorem convert_own {P : Program} {w : World} {base e n : Nat} {src dst : TypeId} {v : Value} {zs : List Int} (hs : P.underlying src = some (.slice e)) (he : P.underlying e = some (.int .u8)) (hd : P.underlying dst = some .string)
  (h : w.ownsRow base e 1 v n (zs.map (.int .u8))) : (convert src dst v).run P w = .ok (.string (strOfNums zs)) w := by
 have hl : zs.length = n := by have := h.1; simpa using this
 rcases h.2 with ⟨rfl, rfl⟩ | ⟨g, cap, cur, rfl, _, hg, _, _, _, hx⟩
 ·obtain rfl : zs = [] := List.eq_nil_of_length_eq_zero hl
  rw [run_convert_bytes_nil w src e hs he 0 0 dst hd]
  rfl
 ·refine run_convert_bytes_arg w src e hs he g 0 n cap zs hl (fun i hi => ?_) dst hd
  have := h.cells (g := g) rfl i (.int .u8 (zs.getD i 0)) (by simp [hl, hi])
  rwa [Addr.add_lit] at this
end Go.Proofs.YtkhemhiifhggmaaGreatDoor
namespace Go.Proofs.YtkhemhiifhggmaaGreatDoor
open Go.RowKit
def nameC (c : Int) : Bool := decide ((97 ≤ c ∧ c ≤ 122) ∨ (48 ≤ c ∧ c ≤ 57) ∨ c = 95 ∨ c = 46)
def nameB (s : ByteArray) : Bool := decide (0 < s.size ∧ s.size ≤ 40) && s.data.toList.all fun c => nameC c.toNat
theorem bytes_of {P : Program} (w : World) (src dst e : TypeId) (s : ByteArray) (hs : P.underlying src = some .string) (hd : P.underlying dst = some (.slice e)) (he : P.underlying e = some (.int .u8)) :
  ∃ c w1, (convert src dst (.string s)).run P w = .ok (.slice (some ⟨w.heap.size, 0, none⟩) s.size c) w1 ∧ Below w.heap.size w w1 ∧ w1.heap.size = w.heap.size + 1 ∧ ∀ (j : Nat) (h : j < s.size), w1.cell? ⟨w.heap.size, j, none⟩ = some (.int .u8 ((s[j].toNat : Nat) : Int)) := by
 refine ⟨_, _, run_bytes_of_string w src dst e s hs hd he, ?_, ?_, fun j hj => ?_⟩
 ·exact (Below.refl _ w).drew.alloc (Nat.le_refl _) _
 ·simp
 ·have h := World.cell?_alloc_mark w.drew (bytesRow s (grownCap w s.size 0 e)) e ((bytesRow s (grownCap w s.size 0 e)).size, (bytesRow s (grownCap w s.size 0 e)).size + 1) j
  exact h.trans (bytesRow_at s _ j hj)
theorem name_no {s : ByteArray} {k : Nat} (hk : k < s.size) (h : ¬ ((97 ≤ ((s[k].toNat : Nat) : Int) ∧ ((s[k].toNat : Nat) : Int) ≤ 122) ∨ (48 ≤ ((s[k].toNat : Nat) : Int) ∧ ((s[k].toNat : Nat) : Int) ≤ 57) ∨ ((s[k].toNat : Nat) : Int) = 95 ∨ ((s[k].toNat : Nat) : Int) = 46)) : false = nameB s := by
 have : (s.data.toList.all fun c => nameC c.toNat) = false := by
  rw [List.all_eq_false]
  exact ⟨s[k], List.mem_of_getElem? (byte_at s k hk), by rw [show nameC ((s[k].toNat : Nat) : Int) = false from decide_eq_false h]; simp⟩
 unfold nameB
 rw [this, Bool.and_false]
theorem name_yes {s : ByteArray} (h0 : 0 < s.size) (h1 : s.size ≤ 40) (h : ∀ j (hj : j < s.size), nameC ((s[j].toNat : Nat) : Int) = true) : true = nameB s := by
 have : (s.data.toList.all fun c => nameC c.toNat) = true := by
  rw [List.all_eq_true]
  intro c hc
  obtain ⟨j, hj⟩ := List.mem_iff_getElem?.1 hc
  have hl : j < s.size := by
   have := (List.getElem?_eq_some_iff.1 hj).1
   simpa using this
  rw [byte_at s j hl] at hj
  injection hj with hj
  rw [← hj]
  exact h j hl
 unfold nameB
 rw [this, Bool.and_true]
 exact (decide_eq_true ⟨h0, h1⟩).symm
theorem size_nil {s : ByteArray} : s.toList = [] ↔ s.size = 0 := by
 have e : s.toList = s.data.toList := ByteArray.toList_eq s
 rw [e, Lib.size_eq, List.length_eq_zero_iff]
theorem name_any (s : ByteArray) (w : World) : Calls Tryz.prog 85 #[.string s] w fun e w' => e = .returned (.bool (nameB s)) ∧ Below w.heap.size w w' := by
 by_cases h1 : s.toList = []
 ·have hz := size_nil.1 h1
  have hr : Hid (nameB s = false) := by
   show _ = _
   unfold nameB
   rw [hz]
   rfl
  have h3 : (s.toList == []) = true := by simpa using h1
  clear hz
  go_enter Tryz.func85, Tryz.ntmps85
  go_wp2_with fail
  go_ret
  exact ⟨ret_bool hr.out.symm, brefl w⟩
 ·have h2 : s.toList.isEmpty = false := by simpa using h1
  have h3 : (s.toList == []) = false := by simpa using h1
  have hp : 0 < s.size := by
   rcases Nat.eq_zero_or_pos s.size with h | h
   ·exact absurd (size_nil.2 h) h1
   ·exact h
  by_cases h40 : s.size ≤ 40
  ·have q1 : decide ((40 : Int) < (s.size : Int)) = false := by simp; omega
   obtain ⟨c, w1, kc, hb1, hs1, hcell⟩ := bytes_of (P := Tryz.prog) w 9 66 5 s Tryz.underlying9 Tryz.underlying66 Tryz.underlying5
   have HC := Lib.hid hcell
   have HB := Lib.hid hb1
   have hl : w.heap.size < w1.heap.size := by omega
   clear hcell hb1 hs1
   go_enter Tryz.func85, Tryz.ntmps85
   go_wp2_with fail
   clear q1 h1 h2 h3 kc
   go_loop [15] (fun i => ∃ k : Nat, k ≤ s.size ∧ i = .int .i64 k ∧ Hid (∀ j (hj : j < s.size), j < k → nameC ((s[j].toNat : Nat) : Int) = true)) (fun i => s.size - (intOf i).toNat)
   case atStart => exact ⟨0, Nat.zero_le _, rfl, fun j hj h => by omega⟩
   case round =>
    obtain ⟨k, hk, rfl, hall⟩ := hrel
    by_cases hlt : k < s.size
    ·have hc := HC.out k hlt
     have hb := s[k].toNat_lt
     have hno := Lib.hid (name_no hlt)
     have hyes : Hid (((97 ≤ ((s[k].toNat : Nat) : Int) ∧ ((s[k].toNat : Nat) : Int) ≤ 122) ∨ (48 ≤ ((s[k].toNat : Nat) : Int) ∧ ((s[k].toNat : Nat) : Int) ≤ 57) ∨ ((s[k].toNat : Nat) : Int) = 95 ∨ ((s[k].toNat : Nat) : Int) = 46) → ∀ j (hj : j < s.size), j < k + 1 → nameC ((s[j].toNat : Nat) : Int) = true) := by
      intro h j hj hjk
      by_cases e : j = k
      ·subst e; exact decide_eq_true h
      ·exact hall.out j hj (by omega)
     obtain ⟨z, hz⟩ : ∃ z : Int, ((s[k].toNat : Nat) : Int) = z := ⟨_, rfl⟩
     have z0 : 0 ≤ z := by omega
     have z1 : z ≤ 255 := by omega
     rw [hz] at hc hno hyes
     clear hz hb
     by_cases e1 : z = 95
     ·subst e1
      go_wp2_with fail
      go_round
      case rel => exact ⟨k + 1, by omega, by go_num, hyes.out (by omega)⟩
      case measure => simp [intOf]; omega
     by_cases e2 : z = 46
     ·subst e2
      go_wp2_with fail
      go_round
      case rel => exact ⟨k + 1, by omega, by go_num, hyes.out (by omega)⟩
      case measure => simp [intOf]; omega
     have n1 : (z != 95) = true := by simpa using e1
     have n2 : (z != 46) = true := by simpa using e2
     by_cases hok : (97 ≤ z ∧ z ≤ 122) ∨ (48 ≤ z ∧ z ≤ 57)
     ·rcases hok with ⟨g1, g2⟩ | ⟨g1, g2⟩
      all_goals
       go_wp2_with fail
       go_round
       case rel => exact ⟨k + 1, by omega, by go_num, hyes.out (by omega)⟩
       case measure => simp [intOf]; omega
     ·have hn := hno.out (by omega)
      have HN := Lib.hid hn
      clear hn
      have hreg : z < 48 ∨ (57 < z ∧ z < 97) ∨ 122 < z := by omega
      clear hok
      rcases hreg with g1 | ⟨g1, g2⟩ | g1
      all_goals
       go_wp2_with fail
       go_ret
       exact ⟨ret_bool HN.out, HB.out⟩
    ·obtain rfl : k = s.size := by omega
     have hy := Lib.hid (name_yes hp h40 (fun j hj => hall.out j hj hj))
     go_wp2_with fail
     go_ret
     exact ⟨ret_bool hy.out, HB.out⟩
  ·have q1 : decide ((40 : Int) < (s.size : Int)) = true := by simp; omega
   have hr : Hid (nameB s = false) := by
    show _ = _
    unfold nameB
    rw [decide_eq_false (by omega), Bool.false_and]
   go_enter Tryz.func85, Tryz.ntmps85
   go_wp2_with fail
   go_ret
   exact ⟨ret_bool hr.out.symm, brefl w⟩
end Go.Proofs.YtkhemhiifhggmaaGreatDoor
namespace Go.Proofs.YtkhemhiifhggmaaGreatDoor
open Go.RowKit Go.Maps
def fileElem {H : Type} : Value → Option (DataW H × List MemPlace)
 | .agg cs => match cs.toList with
  | [.string s, .int .i64 n] => if s.size ≤ maxLen ∧ (Lit.int .i64 n).wf = true then some (.agg [.lit (.string s.data.toList), .lit (.int .i64 n)], []) else none
  | _ => none
 | _ => none
structure DS (H : Type) where
 files : DataW H
 names : DataW H
 kept : DataW H
 last : Int
 steps : Int
 armed : Int
 fault : Int
 down : Bool
 cap : Nat
structure Foot where
 p : Nat
 fb : Nat
 nb : Nat
 kb : Nat
def DS.cells {H : Type} (F : Foot) (D : DS H) : Array Value := #[.map (some F.fb), .map (some F.nb), .map (some F.kb), .int .i64 D.last, .int .i64 D.steps, .int .i64 D.armed, .int .i64 D.fault, .bool D.down]
structure DiskAt {H : Type} (w : World) (F : Foot) (D : DS H) : Prop where
 blk : w.heap[F.p]? = some (.cells (D.cells F) 81 (0, 0))
 fil : ∃ n, n ≤ D.cap ∧ w.ownsMap Tryz.prog 3 fileElem F.fb n D.files
 nam : ∃ n, n ≤ D.cap ∧ w.ownsMap Tryz.prog 9 (plainElem Tryz.prog 3) F.nb n D.names
 kep : ∃ n, n ≤ D.cap ∧ w.ownsMap Tryz.prog 9 (plainElem Tryz.prog 3) F.kb n D.kept
 ap : F.fb ≠ F.nb ∧ F.fb ≠ F.kb ∧ F.nb ≠ F.kb
structure Fr (F : Foot) (w w' : World) : Prop where
 os : w'.os = w.os
 tape : w'.tape = w.tape
 output : w'.output = w.output
 size : w.heap.size ≤ w'.heap.size
 block : ∀ k, k < w.heap.size → k ≠ F.p → k ≠ F.fb → k ≠ F.nb → k ≠ F.kb → w'.heap[k]? = w.heap[k]?
theorem Fr.refl (F : Foot) (w : World) : Fr F w w := ⟨rfl, rfl, rfl, Nat.le_refl _, fun _ _ _ _ _ _ => rfl⟩
theorem Fr.of_below {F : Foot} {w w' : World} (h : Below w.heap.size w w') : Fr F w w' := ⟨h.os, h.tape, h.output, h.size, fun k hk _ _ _ _ => h.block k hk⟩
theorem Fr.trans {F : Foot} {a b c : World} (h : Fr F a b) (k : Fr F b c) : Fr F a c :=
 ⟨k.os.trans h.os, k.tape.trans h.tape, k.output.trans h.output, Nat.le_trans h.size k.size, fun i hi h1 h2 h3 h4 => (k.block i (Nat.lt_of_lt_of_le hi h.size) h1 h2 h3 h4).trans (h.block i hi h1 h2 h3 h4)⟩
theorem blk_set {w : World} {b j : Nat} {C : Array Value} {t : TypeId} {f : Nat × Nat} (h : w.heap[b]? = some (.cells C t f)) (v : Value) : (w.setCell ⟨b, j, none⟩ v).heap[b]? = some (.cells (C.setIfInBounds j v) t f) := by
 simp [World.setCell, Array.getElem?_modify, h]
theorem Fr.set {F : Foot} {a w : World} (h : Fr F a w) (j : Nat) (v : Value) : Fr F a (w.setCell ⟨F.p, j, none⟩ v) :=
 h.trans ⟨rfl, rfl, rfl, by simp [World.setCell], fun k _ h1 _ _ _ => Below.heap_setCell _ _ _ _ h1⟩
theorem map_ne_cells {H : Type} {w : World} {b k n : Nat} {R : Value → Option (DataW H × List MemPlace)} {D : DataW H} (h : w.ownsMap Tryz.prog k R b n D) {p : Nat} {C : Array Value} {t : TypeId} {f : Nat × Nat} (hp : w.heap[p]? = some (.cells C t f)) : b ≠ p := by
 intro e
 subst e
 obtain ⟨es, clock, hb, _⟩ := h
 rw [hb] at hp
 cases hp
theorem DiskAt.set {H : Type} {w : World} {F : Foot} {D D' : DS H} (h : DiskAt w F D) (j : Nat) (v : Value) (hc : (D.cells F).setIfInBounds j v = D'.cells F) (h1 : D'.files = D.files) (h2 : D'.names = D.names) (h3 : D'.kept = D.kept) (h4 : D.cap ≤ D'.cap) : DiskAt (w.setCell ⟨F.p, j, none⟩ v) F D' := by
 obtain ⟨blk, ⟨n1, l1, f1⟩, ⟨n2, l2, f2⟩, ⟨n3, l3, f3⟩, ap⟩ := h
 refine ⟨by rw [blk_set blk, hc], ⟨n1, by omega, ?_⟩, ⟨n2, by omega, ?_⟩, ⟨n3, by omega, ?_⟩, ap⟩
 ·rw [h1]; exact f1.setCell (map_ne_cells f1 blk) v
 ·rw [h2]; exact f2.setCell (map_ne_cells f2 blk) v
 ·rw [h3]; exact f3.setCell (map_ne_cells f3 blk) v
theorem DiskAt.cells {H : Type} {w : World} {F : Foot} {D : DS H} (h : DiskAt w F D) : w.cell? ⟨F.p, 0, none⟩ = some (.map (some F.fb)) ∧ w.cell? ⟨F.p, 1, none⟩ = some (.map (some F.nb)) ∧ w.cell? ⟨F.p, 2, none⟩ = some (.map (some F.kb)) ∧
  w.cell? ⟨F.p, 3, none⟩ = some (.int .i64 D.last) ∧ w.cell? ⟨F.p, 4, none⟩ = some (.int .i64 D.steps) ∧ w.cell? ⟨F.p, 5, none⟩ = some (.int .i64 D.armed) ∧ w.cell? ⟨F.p, 6, none⟩ = some (.int .i64 D.fault) ∧ w.cell? ⟨F.p, 7, none⟩ = some (.bool D.down) := by
 have g : ∀ j, w.cell? ⟨F.p, j, none⟩ = (D.cells F)[j]? := fun j => cell_of_row _ F.p j _ _ (0, 0) h.blk
 exact ⟨g 0, g 1, g 2, g 3, g 4, g 5, g 6, g 7⟩
theorem DiskAt.free {H : Type} {w : World} {F : Foot} {D : DS H} (h : DiskAt w F D) (j : Nat) : w.frozen? ⟨F.p, j, none⟩ = false := by
 unfold World.frozen?
 rw [h.blk]
 simp
def DS.step {H : Type} (D : DS H) : DS H × Int :=
 if D.armed = 0 then ({ D with armed := -1, down := D.fault == 15 }, D.fault) else ({ D with armed := max (-1) (D.armed - 1), steps := D.steps + 1 }, 0)
theorem step_any {H : Type} (w : World) (F : Foot) (D : DS H) (h : DiskAt w F D) (ha : -1 ≤ D.armed ∧ D.armed ≤ 9223372036854775807) (hs : 0 ≤ D.steps ∧ D.steps ≤ 4611686018427387904) :
  Calls Tryz.prog 61 #[.pointer (some ⟨F.p, 0, none⟩)] w fun e w' => e = .returned (.int .i64 D.step.2) ∧ DiskAt w' F D.step.1 ∧ Fr F w w' := by
 obtain ⟨c0, c1, c2, c3, c4, c5, c6, c7⟩ := h.cells
 have r4 := h.free 4
 have r5 := h.free 5
 have r7 := h.free 7
 have HD := Lib.hid h
 by_cases h0 : D.armed = 0
 ·have hst : Hid (D.step = ({ D with armed := -1, down := D.fault == 15 }, D.fault)) := by unfold DS.step; exact if_pos h0
  rw [h0] at c5
  clear h h0 ha hs
  go_enter Tryz.func61, Tryz.ntmps61
  go_wp2_with fail
  go_ret
  have h1 := HD.out.set (D' := { D with armed := -1 }) 5 (.int .i64 (-1)) rfl rfl rfl rfl (Nat.le_refl _)
  have h2 := h1.set (D' := { D with armed := -1, down := D.fault == 15 }) 7 (.bool (D.fault == 15)) rfl rfl rfl rfl (Nat.le_refl _)
  exact ⟨by rw [hst.out]; rfl, by rw [hst.out]; exact h2, ((Fr.refl F w).set 5 _).set 7 _⟩
 ·have hst : Hid (D.step = ({ D with armed := max (-1) (D.armed - 1), steps := D.steps + 1 }, 0)) := by unfold DS.step; exact if_neg h0
  have q0 : (D.armed == 0) = false := by simpa using h0
  obtain ⟨ha1, ha2⟩ := ha
  obtain ⟨hs1, hs2⟩ := hs
  clear h
  go_enter Tryz.func61, Tryz.ntmps61
  go_wp2_with fail
  go_ret
  have h1 := HD.out.set (D' := { D with armed := max (-1) (D.armed - 1) }) 5 (.int .i64 (max (-1) (D.armed - 1))) rfl rfl rfl rfl (Nat.le_refl _)
  have h2 := h1.set (D' := { D with armed := max (-1) (D.armed - 1), steps := D.steps + 1 }) 4 (.int .i64 (D.steps + 1)) rfl rfl rfl rfl (Nat.le_refl _)
  exact ⟨by rw [hst.out]; rfl, by rw [hst.out]; exact h2, ((Fr.refl F w).set 5 _).set 4 _⟩
end Go.Proofs.YtkhemhiifhggmaaGreatDoor
namespace Go.Proofs.YtkhemhiifhggmaaGreatDoor
open Go.RowKit Go.Maps
theorem map_below {H : Type} {w w' : World} {b k n : Nat} {R : Value → Option (DataW H × List MemPlace)} {D : DataW H} (h : w.ownsMap Tryz.prog k R b n D) (hb : Below w.heap.size w w') : w'.ownsMap Tryz.prog k R b n D := by
 obtain ⟨es, clock, h1, h2, h3, h4⟩ := h
 exact ⟨es, clock, (hb.block b (Array.getElem?_eq_some_iff.1 h1).1).trans h1, h2, h3, h4⟩
theorem DiskAt.below {H : Type} {w w' : World} {F : Foot} {D : DS H} (h : DiskAt w F D) (hb : Below w.heap.size w w') : DiskAt w' F D := by
 obtain ⟨blk, ⟨n1, l1, f1⟩, ⟨n2, l2, f2⟩, ⟨n3, l3, f3⟩, ap⟩ := h
 exact ⟨(hb.block F.p (Array.getElem?_eq_some_iff.1 blk).1).trans blk, ⟨n1, l1, map_below f1 hb⟩, ⟨n2, l2, map_below f2 hb⟩, ⟨n3, l3, map_below f3 hb⟩, ap⟩
def mayE (ns : List ByteArray) (down : Bool) : Int := if ns.all nameB then (if down then 15 else 0) else 1
theorem may_any {H : Type} (w : World) (F : Foot) (D : DS H) (A : Option Addr) (n c B : Nat) (ns : List ByteArray) (h : DiskAt w F D) (hs : Sl w B 1 A n (ns.map .string)) (hB : B ≤ w.heap.size) (hn : n ≤ 1000) :
  Calls Tryz.prog 60 #[.pointer (some ⟨F.p, 0, none⟩), .slice A n c] w fun e w' => e = .returned (.int .i64 (mayE ns D.down)) ∧ Below w.heap.size w w' := by
 have hln : ns.length = n := by have := hs.1; simpa using this
 have HD := Lib.hid h
 have HS := Lib.hid hs
 have HLN := Lib.hid hln
 clear h hs hln
 go_enter Tryz.func60, Tryz.ntmps60
 go_wp2_with fail
 go_loopw [11] (fun i wr => ∃ k : Nat, k ≤ n ∧ i = .int .i64 k ∧ Below w.heap.size w wr ∧ Hid ((ns.take k).all nameB = true)) (fun i _ => n - (intOf i).toNat)
 case atStart => exact ⟨0, Nat.zero_le _, rfl, brefl w, rfl⟩
 case round =>
  obtain ⟨k, hk, rfl, hb, hall⟩ := hrel
  by_cases hlt : k < n
  ·obtain ⟨b, off, rfl, hbB, hcell⟩ := HS.out.at_ hlt
   obtain ⟨s, hk'⟩ : ∃ s, ns[k]? = some s := ⟨ns[k]'(by rw [HLN.out]; exact hlt), List.getElem?_eq_getElem _⟩
   have hc : wr.cell? ⟨b, off + k, none⟩ = some (.string s) := (hb.cell (p := ⟨b, off + k, none⟩) (by show b < _; omega)).trans (hcell k _ (by simp [hk']))
   have HB := Lib.hid hb
   have HK := Lib.hid hk'
   have HN := Lib.hid (name_any s)
   clear hcell hb hk'
   cases hx : nameB s with
   |
    true =>
    have HX := Lib.hid hx
    clear hx
    go_wp2_with fail
    refine (HN.out _).mono ?_
    rw [HX.out]
    rintro e w1 ⟨rfl, hb1⟩
    go_wp2_with fail
    go_roundw
    case rel => exact ⟨k + 1, by omega, by go_num, bcall HB.out hb1, by
     show _ = _
     obtain ⟨hl, he⟩ := List.getElem?_eq_some_iff.1 HK.out
     rw [List.take_succ_eq_append_getElem hl, List.all_append, hall.out, he, List.all_cons, HX.out]
     rfl⟩
    case measure => simp [intOf]; omega
   |
    false =>
    have HX := Lib.hid hx
    have hr : Hid (mayE ns D.down = 1) := by
     show _ = _
     unfold mayE
     rw [if_neg]
     rw [List.all_eq_true]
     intro h
     have := h s (List.mem_of_getElem? HK.out)
     rw [HX.out] at this
     cases this
    clear hx
    go_wp2_with fail
    refine (HN.out _).mono ?_
    rw [HX.out]
    rintro e w1 ⟨rfl, hb1⟩
    go_wp2_with fail
    go_ret
    exact ⟨ret_int hr.out.symm, bcall HB.out hb1⟩
  ·obtain rfl : k = n := by omega
   have ht : ns.take k = ns := List.take_of_length_le (by rw [HLN.out]; exact Nat.le_refl _)
   obtain ⟨_, _, _, _, _, _, _, c7⟩ := (HD.out.below hb).cells
   have HB := Lib.hid hb
   cases hd : D.down with
   |
    true =>
    rw [hd] at c7
    have hr : Hid (mayE ns D.down = 15) := by
     show _ = _
     rw [hd]
     unfold mayE
     rw [← ht, if_pos hall.out]
     rfl
    clear hd ht hb
    go_wp2_with fail
    go_ret
    exact ⟨ret_int hr.out.symm, HB.out⟩
   |
    false =>
    rw [hd] at c7
    have hr : Hid (mayE ns D.down = 0) := by
     show _ = _
     rw [hd]
     unfold mayE
     rw [← ht, if_pos hall.out]
     rfl
    clear hd ht hb
    go_wp2_with fail
    go_ret
    exact ⟨ret_int hr.out.symm, HB.out⟩
end Go.Proofs.YtkhemhiifhggmaaGreatDoor
namespace Go.Proofs.YtkhemhiifhggmaaGreatDoor
open Go.RowKit Go.Maps
theorem map_grown {H : Type} {w w' : World} {b c k n : Nat} {R : Value → Option (DataW H × List MemPlace)} {D : DataW H} (h : w.ownsMap Tryz.prog k R b n D) (hg : w.grownBy w' (some c)) (hne : b ≠ c) : w'.ownsMap Tryz.prog k R b n D := by
 obtain ⟨es, clock, h1, h2, h3, h4⟩ := h
 exact ⟨es, clock, (hg.block b (Array.getElem?_eq_some_iff.1 h1).1 (by simpa using hne)).trans h1, h2, h3, h4⟩
theorem DiskAt.names' {H : Type} {w w' : World} {F : Foot} {D : DS H} (h : DiskAt w F D) {n : Nat} {N : DataW H} (hn : n ≤ D.cap + 1) (ho : w'.ownsMap Tryz.prog 9 (plainElem Tryz.prog 3) F.nb n N) (hg : w.grownBy w' (some F.nb)) : DiskAt w' F { D with names := N, cap := D.cap + 1 } := by
 obtain ⟨blk, ⟨n1, l1, f1⟩, ⟨n2, l2, f2⟩, ⟨n3, l3, f3⟩, a1, a2, a3⟩ := h
 exact ⟨(hg.block F.p (Array.getElem?_eq_some_iff.1 blk).1 (by have := map_ne_cells f2 blk; simp; exact fun e => this e.symm)).trans blk, ⟨n1, by show _ ≤ _ + 1; omega, map_grown f1 hg a1⟩, ⟨n, hn, ho⟩, ⟨n3, by show _ ≤ _ + 1; omega, map_grown f3 hg (Ne.symm a3)⟩, a1, a2, a3⟩
theorem DiskAt.files' {H : Type} {w w' : World} {F : Foot} {D : DS H} (h : DiskAt w F D) {n : Nat} {N : DataW H} (hn : n ≤ D.cap + 1) (ho : w'.ownsMap Tryz.prog 3 fileElem F.fb n N) (hg : w.grownBy w' (some F.fb)) : DiskAt w' F { D with files := N, cap := D.cap + 1 } := by
 obtain ⟨blk, ⟨n1, l1, f1⟩, ⟨n2, l2, f2⟩, ⟨n3, l3, f3⟩, a1, a2, a3⟩ := h
 exact ⟨(hg.block F.p (Array.getElem?_eq_some_iff.1 blk).1 (by have := map_ne_cells f1 blk; simp; exact fun e => this e.symm)).trans blk, ⟨n, hn, ho⟩, ⟨n2, by show _ ≤ _ + 1; omega, map_grown f2 hg (Ne.symm a1)⟩, ⟨n3, by show _ ≤ _ + 1; omega, map_grown f3 hg (Ne.symm a2)⟩, a1, a2, a3⟩
theorem Fr.grown {F : Foot} {a w w' : World} {c : Nat} (h : Fr F a w) (hg : w.grownBy w' (some c)) (hc : c = F.fb ∨ c = F.nb ∨ c = F.kb) : Fr F a w' :=
 h.trans ⟨hg.os, hg.tape, hg.output, hg.size, fun k hk _ h1 h2 h3 => hg.block k hk (by simp; intro e; subst e; rcases hc with e | e | e <;> contradiction)⟩
theorem lawS : Keyed Tryz.prog 9 := string_keyed Tryz.underlying9
theorem lawI : Keyed Tryz.prog 3 := int_keyed Tryz.underlying3
def DS.create {H : Type} (D : DS H) (s : ByteArray) : DS H × Int :=
 if mayE [s] D.down ≠ 0 then (D, mayE [s] D.down) else if D.step.2 ≠ 0 then D.step else
  ({ D.step.1 with last := D.last + 1, files := D.files.put (.int .i64 (D.last + 1)) (.agg [.lit (.string []), .lit (.int .i64 0)]), names := D.names.put (.string s.data.toList) (.lit (.int .i64 (D.last + 1))), cap := D.cap + 2 }, 0)
end Go.Proofs.YtkhemhiifhggmaaGreatDoor
namespace Go.Proofs.YtkhemhiifhggmaaGreatDoor
open Go.RowKit Go.Maps
theorem sl_one (w : World) (x : Value) (e : TypeId) : Sl (w.alloc (.cells #[x] e)) (w.heap.size + 1) 1 (some ⟨w.heap.size, 0, none⟩) 1 [x] :=
 ⟨rfl, fun _ => ⟨w.heap.size, 0, rfl, by omega, fun j u hu => by
  have h := news_at w #[x] e j u hu
  rwa [Addr.add_lit] at h⟩⟩
theorem may_one {H : Type} (w : World) (F : Foot) (D : DS H) (s : ByteArray) (h : DiskAt w F D) : Calls Tryz.prog 60 #[.pointer (some ⟨F.p, 0, none⟩), .slice (some ⟨w.heap.size, 0, none⟩) 1 1] (w.alloc (.cells #[.string s] 9)) fun e w' => e = .returned (.int .i64 (mayE [s] D.down)) ∧ DiskAt w' F D ∧ Below w.heap.size w w' := by
 refine (may_any (w.alloc (.cells #[.string s] 9)) F D _ 1 1 (w.heap.size + 1) [s] (h.below (bnew (brefl w) _)) (sl_one w _ _) (by simp) (by omega)).mono ?_
 rintro e w' ⟨rfl, hb⟩
 exact ⟨rfl, h.below (bcall (bnew (brefl w) _) hb), bcall (bnew (brefl w) _) hb⟩
theorem cells2_grown {w' w'' : World} {p i j c : Nat} {x y : Value} (h : w'.cell? ⟨p, i, none⟩ = some x ∧ w'.cell? ⟨p, j, none⟩ = some y) (hg : w'.grownBy w'' (some c)) (hr : p ≠ c) : w''.cell? ⟨p, i, none⟩ = some x ∧ w''.cell? ⟨p, j, none⟩ = some y := by
 obtain ⟨h1, h2⟩ := h
 have hl := (lt_of_cell h1).1
 exact ⟨(World.cell?_of_block (w := w') (hg.block p hl (by simpa using hr))).trans h1, (World.cell?_of_block (w := w') (hg.block p hl (by simpa using hr))).trans h2⟩
theorem DiskAt.apart {H : Type} {w : World} {F : Foot} {D : DS H} (h : DiskAt w F D) : F.p ≠ F.fb ∧ F.p ≠ F.nb ∧ F.p ≠ F.kb := by
 obtain ⟨blk, ⟨n1, l1, f1⟩, ⟨n2, l2, f2⟩, ⟨n3, l3, f3⟩, _⟩ := h
 exact ⟨Ne.symm (map_ne_cells f1 blk), Ne.symm (map_ne_cells f2 blk), Ne.symm (map_ne_cells f3 blk)⟩
theorem fileElem_mk {H : Type} {s : ByteArray} {n : Int} (hs : s.size ≤ maxLen) (hw : (Lit.int .i64 n).wf = true) : fileElem (H := H) (.agg #[.string s, .int .i64 n]) = some (.agg [.lit (.string s.data.toList), .lit (.int .i64 n)], []) := by
 simp [fileElem, hs, hw]
structure DS.fits {H : Type} (D : DS H) : Prop where
 a0 : -1 ≤ D.armed
 a1 : D.armed ≤ 9223372036854775807
 s0 : 0 ≤ D.steps
 s1 : D.steps ≤ 1099511627776
 l0 : 0 ≤ D.last
 l1 : D.last ≤ 1099511627776
 c1 : D.cap ≤ 1099511627776
theorem create_any {H : Type} (w : World) (F : Foot) (D : DS H) (s : ByteArray) (h : DiskAt w F D) (hf : D.fits) (hs : s.size ≤ maxLen) :
  Calls Tryz.prog 25 #[.pointer (some ⟨F.p, 0, none⟩), .string s] w fun e w' => e = .returned (.int .i64 (D.create s).2) ∧ DiskAt w' F (D.create s).1 ∧ Fr F w w' := by
 obtain ⟨a0, a1, s0, s1, l0, l1, cp⟩ := hf
 have HM := Lib.hid (may_one w F D s h)
 have HAP := Lib.hid h.apart
 have HST := Lib.hid (fun (w' : World) (h' : DiskAt w' F D) => step_any w' F D h' ⟨a0, a1⟩ ⟨s0, by omega⟩)
 have HS := Lib.hid hs
 by_cases hm : mayE [s] D.down = 0
 ·rw [hm] at HM
  by_cases ht : D.step.2 = 0
  ·have hcr : Hid (D.create s = ({ D.step.1 with last := D.last + 1, files := D.files.put (.int .i64 (D.last + 1)) (.agg [.lit (.string []), .lit (.int .i64 0)]), names := D.names.put (.string s.data.toList) (.lit (.int .i64 (D.last + 1))), cap := D.cap + 2 }, 0)) := by
    show _ = _
    unfold DS.create
    rw [if_neg (by rw [hm]; simp), if_neg (by rw [ht]; simp)]
   have hd1 : D.step.1.last = D.last ∧ D.step.1.files = D.files ∧ D.step.1.names = D.names ∧ D.step.1.cap = D.cap := by
    unfold DS.step
    split <;> exact ⟨rfl, rfl, rfl, rfl⟩
   obtain ⟨D1, hD1⟩ : ∃ D1, D.step.1 = D1 := ⟨_, rfl⟩
   rw [hD1] at hd1 hcr
   rw [ht, hD1] at HST
   obtain ⟨e1, e2, e3, e4⟩ := hd1
   have HE := Lib.hid (And.intro e1 (And.intro e2 (And.intro e3 e4)))
   clear hm ht hs hD1
   go_enter Tryz.func25, Tryz.ntmps25
   go_wp2_with fail
   refine HM.out.mono ?_
   rintro e w1 ⟨rfl, hd1, hb1⟩
   have HB1 := Lib.hid hb1
   have HD1 := Lib.hid hd1
   clear hd1 hb1
   go_wp2_with fail
   refine (HST.out _ HD1.out).mono ?_
   rintro e w2 ⟨rfl, hd2, hf2⟩
   have HF2 := Lib.hid hf2
   have hc := hd2.cells
   rw [e1] at hc
   obtain ⟨c0, c1, c2, c3, c4, c5, c6, c7⟩ := hc
   have r3 := hd2.free 3
   have HD2 := Lib.hid hd2
   have HD3 := Lib.hid (hd2.set (D' := { D1 with last := D.last + 1 }) 3 (.int .i64 (D.last + 1)) rfl rfl rfl rfl (Nat.le_refl _))
   obtain ⟨x0, _, _, x3, _⟩ := HD3.out.cells
   obtain ⟨n1, ln1, f1⟩ := HD3.out.fil
   have HF1 := Lib.hid f1
   clear hd2 hf2 c1 c2 c4 c5 c6 c7 e1 e2 e3 e4 f1
   go_wp2_with fail
   obtain ⟨w3, run3, ho3, ht3⟩ := World.ownsMap.store (w := (w2.setCell ⟨F.p, 3, none⟩ (.int .i64 (D.last + 1))).drew) HF1.out lawI Tryz.underlying78 (by unfold maxLen; have := HE.out.2.2.2; omega) (key := .int .i64 (D.last + 1)) (val := .agg #[.string ⟨#[]⟩, .int .i64 0]) (keyOf_int_mk Tryz.underlying3 (WalkArith.wf_i64 (by omega))) (fileElem_mk (s := ⟨#[]⟩) (n := 0) (Nat.zero_le _) (by decide))
   have hg3 := ht3.grown
   have HG3 := Lib.hid hg3
   have HO3 := Lib.hid ho3
   clear ho3 ht3 hg3
   go_region_held3 (fun w' => w'.cell? ⟨F.p, 0, none⟩ = some (.map (some F.fb)) ∧ w'.cell? ⟨F.p, 3, none⟩ = some (.int .i64 (D.last + 1)))
    (first
     | (refine cells2_grown ?_ HG3.out HAP.out.1; assumption)
     | (refine ⟨?_, ?_⟩ <;> first | exact x0 | exact x3 | (simp; done)))
    (fail)
   have HD4 := Lib.hid ((HD3.out.below (brefl _).drew).files' (w' := w3) (by have := HE.out.2.2.2; show n1 + 1 ≤ D1.cap + 1; omega) HO3.out HG3.out)
   have HF3 := Lib.hid (((HF2.out.set 3 (.int .i64 (D.last + 1))).trans (Fr.of_below (brefl _).drew)).grown HG3.out (.inl rfl))
   clear x0 x3 c0 c3 r3 run3
   obtain ⟨_, y1, _, y3, _⟩ := HD4.out.cells
   obtain ⟨n2, ln2, f2⟩ := HD4.out.nam
   obtain ⟨w4, run4, ho4, ht4⟩ := World.ownsMap.store (w := w3.drew) f2 lawS Tryz.underlying79 (by unfold maxLen; have := HE.out.2.2.2; have : n2 ≤ D1.cap + 1 := ln2; omega) (key := .string s) (val := .int .i64 (D.last + 1)) (Go.WideMaps.keyOf_string_mk Tryz.underlying9 HS.out) (plainElem_int Tryz.underlying3 (WalkArith.wf_i64 (by omega)))
   have HG4 := Lib.hid ht4.grown
   have HO4 := Lib.hid ho4
   have HL2 := Lib.hid ln2
   clear ho4 ht4 f2 ln2
   go_wp2_with fail
   go_region_held3 (fun w' => w'.cell? ⟨F.p, 1, none⟩ = some (.map (some F.nb)) ∧ w'.cell? ⟨F.p, 3, none⟩ = some (.int .i64 (D.last + 1)))
    (first
     | (refine cells2_grown ?_ HG4.out HAP.out.2.1; assumption)
     | (refine ⟨?_, ?_⟩ <;> first | exact y1 | exact y3 | (simp; done)))
    (fail)
   have HD5 := Lib.hid ((HD4.out.below (brefl _).drew).names' (w' := w4) (by have := HL2.out; show n2 + 1 ≤ D1.cap + 1 + 1; exact Nat.succ_le_succ this) HO4.out HG4.out)
   have HF4 := Lib.hid ((HF3.out.trans (Fr.of_below (brefl _).drew)).grown HG4.out (.inr (.inl rfl)))
   go_wp2_with fail
   go_ret
   refine ⟨by rw [hcr.out]; rfl, ?_, (Fr.of_below HB1.out).trans HF4.out⟩
   rw [hcr.out]
   obtain ⟨e1, e2, e3, e4⟩ := HE.out
   have hd5 := HD5.out
   simp only [e2, e3, e4] at hd5
   exact hd5
  ·have hcr : Hid (D.create s = D.step) := by
    show _ = _
    unfold DS.create
    rw [if_neg (by rw [hm]; simp), if_pos ht]
   obtain ⟨t, htt⟩ : ∃ t, D.step.2 = t := ⟨_, rfl⟩
   rw [htt] at ht HST
   have q1 : (t == 0) = false := by simpa using ht
   have q2 : (t != 0) = true := by simpa using ht
   have HT := Lib.hid htt
   clear hm ht htt hs
   go_enter Tryz.func25, Tryz.ntmps25
   go_wp2_with fail
   refine HM.out.mono ?_
   rintro e w1 ⟨rfl, hd1, hb1⟩
   have HB1 := Lib.hid hb1
   have HD1 := Lib.hid hd1
   clear hd1 hb1
   go_wp2_with fail
   refine (HST.out _ HD1.out).mono ?_
   rintro e w2 ⟨rfl, hd2, hf2⟩
   have HD2 := Lib.hid hd2
   clear hd2
   go_wp2_with fail
   go_ret
   exact ⟨by rw [hcr.out, HT.out]; rfl, by rw [hcr.out]; exact HD2.out, (Fr.of_below HB1.out).trans hf2⟩
 ·have hcr : Hid (D.create s = (D, mayE [s] D.down)) := by
   show _ = _
   unfold DS.create
   rw [if_pos hm]
  obtain ⟨t, htt⟩ : ∃ t, mayE [s] D.down = t := ⟨_, rfl⟩
  rw [htt] at hm HM hcr
  have q1 : (t == 0) = false := by simpa using hm
  have q2 : (t != 0) = true := by simpa using hm
  clear hm htt hs
  go_enter Tryz.func25, Tryz.ntmps25
  go_wp2_with fail
  refine HM.out.mono ?_
  rintro e w1 ⟨rfl, hd1, hb1⟩
  have HD1 := Lib.hid hd1
  clear hd1
  go_wp2_with fail
  go_ret
  exact ⟨by rw [hcr.out]; rfl, by rw [hcr.out]; exact HD1.out, Fr.of_below hb1⟩
end Go.Proofs.YtkhemhiifhggmaaGreatDoor
namespace Go.Proofs.YtkhemhiifhggmaaGreatDoor
open Go.RowKit Go.Maps
def intOfD {H : Type} : DataW H → Int
 | .lit (.int _ n) => n
 | _ => 0
def keyS (s : ByteArray) : Lit := .string s.data.toList
def numOf {H : Type} (N : DataW H) (s : ByteArray) : Int := intOfD (N.atKey (keyS s) (.lit (.int .i64 0)))
theorem zeroI (w : World) : (zeroValue 3).run Tryz.prog w = .ok (.int .i64 0) w := by kernel_rfl
theorem names_look {H : Type} {w : World} {b n : Nat} {N : DataW H} (h : w.ownsMap Tryz.prog 9 (plainElem Tryz.prog 3) b n N) (s : ByteArray) (hs : s.size ≤ maxLen) :
  (Instr.lookup 79 (.map (some b)) (.string s) true).run Tryz.prog w = .ok (.tuple #[.int .i64 (numOf N s), .bool (Maps.has N (keyS s))]) w ∧ (Lit.int .i64 (numOf N s)).wf = true ∧ N.atKey (keyS s) (.lit (.int .i64 0)) = .lit (.int .i64 (numOf N s)) := by
 obtain ⟨v, ps, hrun, hR⟩ := h.look_ok lawS Tryz.underlying79 (zeroI w) (plainElem_int Tryz.underlying3 (a := 0) (by decide)) (Go.WideMaps.keyOf_string_mk Tryz.underlying9 hs)
 obtain ⟨c, rfl, hc, hw⟩ := plainElem_int_inv Tryz.underlying3 hR
 injection hc with hc _
 have e : numOf N s = c := by
  unfold numOf keyS
  rw [hc]
  rfl
 rw [e]
 exact ⟨hrun, hw, hc⟩
end Go.Proofs.YtkhemhiifhggmaaGreatDoor
namespace Go.Proofs.YtkhemhiifhggmaaGreatDoor
open Go.RowKit Go.Maps
theorem sync1_any (d : ByteArray) (n : Int) (w : World) : Calls Tryz.prog 64 #[.agg #[.string d, .int .i64 n]] w fun e w' => e = .returned (.agg #[.string d, .int .i64 d.size]) ∧ Below w.heap.size w w' := by
 go_enter Tryz.func64, Tryz.ntmps64
 go_wp2_with fail
 exact bodyPost_ret (v := .agg #[.string d, .int .i64 d.size]) (by simp [results, Tryz.results64, go_sem]) rfl ⟨rfl, bnew (bnew (brefl w) _) _⟩
theorem append1_any (d x : ByteArray) (n : Int) (b : Nat) (w : World) (hb : w.cell? ⟨b, 0, none⟩ = some (.string x)) (hs : d.size + x.size ≤ 9223372036854775807) : Calls Tryz.prog 63 #[.agg #[.string d, .int .i64 n], .pointer (some ⟨b, 0, none⟩)] w fun e w' => e = .returned (.agg #[.string (d ++ x), .int .i64 n]) ∧ Below w.heap.size w w' := by
 have hl := (lt_of_cell hb).1
 simp only at hl
 have hcat : ∀ w : World, (Op.stringOp .add d x).run Tryz.prog w = .ok (.string (d ++ x)) w := fun w => run_string_add_sum w d x hs
 go_enter Tryz.func63, Tryz.ntmps63
 go_wp2_with fail
 exact bodyPost_ret (v := .agg #[.string (d ++ x), .int .i64 n]) (by simp [results, Tryz.results63, go_sem]) rfl ⟨rfl, bnew (bnew (brefl w) _) _⟩
end Go.Proofs.YtkhemhiifhggmaaGreatDoor
namespace Go.Proofs.YtkhemhiifhggmaaGreatDoor
open Go.RowKit Go.Maps
theorem fileElem_inv {H : Type} {v : Value} {z : DataW H × List MemPlace} (h : fileElem v = some z) : ∃ (s : ByteArray) (n : Int), v = .agg #[.string s, .int .i64 n] ∧ z = (.agg [.lit (.string s.data.toList), .lit (.int .i64 n)], []) ∧ s.size ≤ maxLen ∧ (Lit.int .i64 n).wf = true := by
 cases v with
 |
  agg cs =>
  obtain ⟨l⟩ := cs
  simp only [fileElem] at h
  split at h
  ·rename_i s n
   split at h
   ·rename_i hc
    injection h with h
    exact ⟨s, n, rfl, h.symm, hc.1, hc.2⟩
   ·cases h
  ·cases h
 | _ => cases h
def filD {H : Type} : DataW H → List UInt8 × Int
 | .agg [.lit (.string l), .lit (.int _ n)] => (l, n)
 | _ => ([], 0)
def fil0 {H : Type} : DataW H := .agg [.lit (.string []), .lit (.int .i64 0)]
def fileOf {H : Type} (N : DataW H) (k : Int) : List UInt8 × Int := filD (N.atKey (.int .i64 k) fil0)
def bs (l : List UInt8) : ByteArray := ⟨l.toArray⟩
theorem zeroF (w : World) : (zeroValue 98).run Tryz.prog w = .ok (.agg #[.string ⟨#[]⟩, .int .i64 0]) w := by kernel_rfl
theorem files_look {H : Type} {w : World} {b n : Nat} {N : DataW H} (h : w.ownsMap Tryz.prog 3 fileElem b n N) (k : Int) (hk : (Lit.int .i64 k).wf = true) (c : Bool) :
  ∃ r, (Instr.lookup 78 (.map (some b)) (.int .i64 k) c).run Tryz.prog w = .ok r w ∧ (c = false → r = .agg #[.string (bs (fileOf N k).1), .int .i64 (fileOf N k).2]) ∧ (c = true → r = .tuple #[.agg #[.string (bs (fileOf N k).1), .int .i64 (fileOf N k).2], .bool (Maps.has N (.int .i64 k))]) ∧
   (bs (fileOf N k).1).size ≤ maxLen ∧ (Lit.int .i64 (fileOf N k).2).wf = true ∧ N.atKey (.int .i64 k) fil0 = .agg [.lit (.string (fileOf N k).1), .lit (.int .i64 (fileOf N k).2)] := by
 obtain ⟨es, clock, hb, Ft, _, rfl⟩ := h
 have hz0 : fileElem (H := H) (.agg #[.string ⟨#[]⟩, .int .i64 0]) = some (fil0, []) := fileElem_mk (s := ⟨#[]⟩) (n := 0) (Nat.zero_le _) (by decide)
 have key : ∀ (v : Value) (z : DataW H × List MemPlace) (D : DataW H), fileElem v = some z → D.atKey (.int .i64 k) fil0 = z.1 → v = .agg #[.string (bs (fileOf D k).1), .int .i64 (fileOf D k).2] ∧ (bs (fileOf D k).1).size ≤ maxLen ∧ (Lit.int .i64 (fileOf D k).2).wf = true ∧ D.atKey (.int .i64 k) fil0 = .agg [.lit (.string (fileOf D k).1), .lit (.int .i64 (fileOf D k).2)] := by
  intro v z D hv hat
  obtain ⟨s, m, rfl, rfl, hs, hw⟩ := fileElem_inv hv
  have e : fileOf D k = (s.data.toList, m) := by
   unfold fileOf
   rw [hat]
   rfl
  have eb : bs (fileOf D k).1 = s := by rw [e]; rfl
  rw [eb, e]
  exact ⟨rfl, hs, hw, hat⟩
 rcases Maps.fit_look c lawI Tryz.underlying78 (zeroF w) hb Ft (keyOf_int_mk Tryz.underlying3 hk) with ⟨hrun, _, hat⟩ | ⟨e0, y, _, _, hrun, hRv, hat, _⟩
 ·have hh := Maps.has_false_of_atKey hat
  obtain ⟨a1, a2, a3, a4⟩ := key _ _ _ hz0 (hat fil0)
  refine ⟨_, hrun, fun hc => ?_, fun hc => ?_, a2, a3, a4⟩
  ·subst hc; exact a1
  ·subst hc; rw [hh, ← a1]; rfl
 ·have hh := Maps.has_true_of_atKey hat
  obtain ⟨a1, a2, a3, a4⟩ := key _ _ _ hRv (hat fil0)
  refine ⟨_, hrun, fun hc => ?_, fun hc => ?_, a2, a3, a4⟩
  ·subst hc; exact a1
  ·subst hc; rw [hh, ← a1]; rfl
end Go.Proofs.YtkhemhiifhggmaaGreatDoor
