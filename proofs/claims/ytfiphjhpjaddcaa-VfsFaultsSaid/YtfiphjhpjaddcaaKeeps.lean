/- VfsKeeps in plain words. -/
import Derived.Test.YtfiphjhpjaddcaaFate
namespace Go.Proofs.Ytfiphjhpjaddcaa
open Go.RowKit Go.Maps Go.Sort

def bb : ByteArray := ⟨#[98]⟩
def bc : ByteArray := ⟨#[99]⟩
def be : ByteArray := ⟨#[101]⟩
theorem ba_size (s : ByteArray) : s.size = s.data.toList.length := by rw [Array.length_toList]; rfl
theorem ba_eq {s t : ByteArray} (h : s.data.toList = t.data.toList) : s = t := tolist_inj.1 (by rw [ByteArray.toList_eq, ByteArray.toList_eq]; exact h)
theorem pre_cut {a s : ByteArray} {n : Nat} (h : a.data.toList = s.data.toList.take n) (hn : n ≤ s.data.toList.length) : a.size = n ∧ a.size ≤ s.size ∧ s.extract 0 a.size = a := by
  have e : a.size = n := by rw [ba_size, h, List.length_take]; omega
  have hs : s = bs s.data.toList := by simp [bs]
  refine ⟨e, by rw [e, ba_size]; exact hn, ba_eq ?_⟩
  rw [hs, bs_take, e, h]
  simp [bs]
theorem run_pre (a s : ByteArray) (h1 : a.size ≤ s.size) (h2 : s.extract 0 a.size = a) (w : World) : (Instr.slice 9 (.string s) none (some (.int .i64 a.size)) none).run Try.prog w = .ok (.string a) w := by
  have hb : ((a.size : Nat) : Int) ≤ (s.size : Int) := by omega
  have hc : (0 : Int) ≤ (a.size : Nat) := by omega
  simp [Instr.slice, run_underlying Try.underlying9, Instr.sliceBounds, run_sliceBound, hb, h2]
def kp1 (_ _ : ByteArray) : DS Unit := ((DS.new Unit).create baA).1
def kp2 (d m : ByteArray) : DS Unit := ((kp1 d m).append baA d).1
def kp3 (d m : ByteArray) : DS Unit := ((kp2 d m).sync baA).1
def kp4 (d m : ByteArray) : DS Unit := ((kp3 d m).create bb).1
def kp5 (d m : ByteArray) : DS Unit := ((kp4 d m).append bb d).1
def kp6 (d m : ByteArray) : DS Unit := ((kp5 d m).sync bb).1
def kp7 (d m : ByteArray) : DS Unit := ((kp6 d m).syncDir).1
def kp8 (d m : ByteArray) : DS Unit := ((kp7 d m).append baA m).1
def kp9 (d m : ByteArray) : DS Unit := ((kp8 d m).rename bb bc).1
def kp10 (d m : ByteArray) : DS Unit := ((kp9 d m).create be).1
def kp11 (d m : ByteArray) : DS Unit := ((kp10 d m).append be m).1
section
variable (d m : ByteArray)
theorem kc1 : ((DS.new Unit).create baA).2 = 0 := by kernel_rfl
theorem kc2 : ((kp1 d m).append baA d).2 = 0 := by kernel_rfl
theorem kc3 : ((kp2 d m).sync baA).2 = 0 := by kernel_rfl
theorem kc4 : ((kp3 d m).create bb).2 = 0 := by kernel_rfl
theorem kc5 : ((kp4 d m).append bb d).2 = 0 := by kernel_rfl
theorem kc6 : ((kp5 d m).sync bb).2 = 0 := by kernel_rfl
theorem kc7 : ((kp6 d m).syncDir).2 = 0 := by kernel_rfl
theorem kc8 : ((kp7 d m).append baA m).2 = 0 := by kernel_rfl
theorem kc9 : ((kp8 d m).rename bb bc).2 = 0 := by kernel_rfl
theorem kc10 : ((kp9 d m).create be).2 = 0 := by kernel_rfl
theorem kc11 : ((kp10 d m).append be m).2 = 0 := by kernel_rfl
theorem ks1 : (kp1 d m).small 1 := (small_new Unit).create _
theorem ks2 : (kp2 d m).small 2 := (ks1 d m).append _ _
theorem ks3 : (kp3 d m).small 3 := (ks2 d m).sync _
theorem ks4 : (kp4 d m).small 4 := (ks3 d m).create _
theorem ks5 : (kp5 d m).small 5 := (ks4 d m).append _ _
theorem ks6 : (kp6 d m).small 6 := (ks5 d m).sync _
theorem ks7 : (kp7 d m).small 7 := (ks6 d m).syncDir
theorem ks8 : (kp8 d m).small 8 := (ks7 d m).append _ _
theorem ks9 : (kp9 d m).small 9 := (ks8 d m).rename _ _
theorem ks10 : (kp10 d m).small 10 := (ks9 d m).create _
theorem ks11 : (kp11 d m).small 11 := (ks10 d m).append _ _
theorem kg1 : (kp1 d m).good 0 := (good_new Unit).create _
theorem kg2 : (kp2 d m).good (0 + d.size) := (kg1 d m).append _ _
theorem kg4 : (kp4 d m).good (0 + d.size) := ((kg2 d m).sync _).create _
theorem kg5 : (kp5 d m).good (0 + d.size + d.size) := (kg4 d m).append _ _
theorem kg7 : (kp7 d m).good (0 + d.size + d.size) := ((kg5 d m).sync _).syncDir
theorem kg8 : (kp8 d m).good (0 + d.size + d.size + m.size) := (kg7 d m).append _ _
theorem kg10 : (kp10 d m).good (0 + d.size + d.size + m.size) := ((kg8 d m).rename _ _).create _
theorem kg11 : (kp11 d m).good (0 + d.size + d.size + m.size + m.size) := (kg10 d m).append _ _
theorem kk : (kp11 d m).kept = .map [(keyS baA, .lit (.int .i64 1)), (keyS bb, .lit (.int .i64 2))] := by kernel_rfl
theorem kn : (kp11 d m).names = .map [(keyS baA, .lit (.int .i64 1)), (keyS bc, .lit (.int .i64 2)), (keyS be, .lit (.int .i64 3))] := by kernel_rfl
theorem kf1 : fileOf (kp11 d m).files 1 = (d.data.toList ++ m.data.toList, (d.data.toList.length : Int)) := by kernel_rfl
theorem kf2 : fileOf (kp11 d m).files 2 = (d.data.toList, (d.data.toList.length : Int)) := by kernel_rfl
theorem kf3 : fileOf (kp11 d m).files 3 = (m.data.toList, 0) := by kernel_rfl
theorem kh : Maps.has (kp11 d m).kept (keyS baA) = true ∧ Maps.has (kp11 d m).names (keyS baA) = true ∧ Maps.has (kp11 d m).kept (keyS bb) = true ∧ Maps.has (kp11 d m).names (keyS bb) = false ∧ Maps.has (kp11 d m).kept (keyS bc) = false ∧ Maps.has (kp11 d m).names (keyS bc) = true ∧ Maps.has (kp11 d m).kept (keyS be) = false ∧ Maps.has (kp11 d m).names (keyS be) = true := by
  rw [kk, kn]; decide +kernel
theorem ko : numOf (kp11 d m).kept baA = 1 ∧ numOf (kp11 d m).names baA = 1 ∧ numOf (kp11 d m).kept bb = 2 ∧ numOf (kp11 d m).names bc = 2 ∧ numOf (kp11 d m).names be = 3 := by
  rw [kk, kn]; decide +kernel
theorem keeps_plain (loss : Int) :
    (readE ((kp11 d m).restart loss) baA = 0 ∧ d.size ≤ (readS ((kp11 d m).restart loss) baA).size ∧ (readS ((kp11 d m).restart loss) baA).size ≤ (d ++ m).size ∧ (d ++ m).extract 0 (readS ((kp11 d m).restart loss) baA).size = readS ((kp11 d m).restart loss) baA) ∧
    (readE ((kp11 d m).restart loss) bb = 0 ∧ readS ((kp11 d m).restart loss) bb = d ∨ readE ((kp11 d m).restart loss) bb = 11) ∧
    (readE ((kp11 d m).restart loss) bc = 0 ∧ readS ((kp11 d m).restart loss) bc = d ∨ readE ((kp11 d m).restart loss) bc = 11) ∧
    ((readE ((kp11 d m).restart loss) be = 0 ∨ readE ((kp11 d m).restart loss) be = 11) ∧ (readS ((kp11 d m).restart loss) be).size ≤ m.size ∧ m.extract 0 (readS ((kp11 d m).restart loss) be).size = readS ((kp11 d m).restart loss) be) := by
  have hK : IsMap (kp11 d m).kept := ⟨_, kk d m⟩
  have hN : Keyed' (kp11 d m).names := ⟨_, kn d m, by simp [keyS, Go.WideAt.IsKeyLit]⟩
  have hg := kg11 d m
  obtain ⟨h1, h2, h3, h4, h5, h6, h7, h8⟩ := kh d m
  obtain ⟨n1, n2, n3, n4, n5⟩ := ko d m
  have rA := read_restart hg hK hN loss (s := baA) (by decide +kernel)
  have rB := read_restart hg hK hN loss (s := bb) (by decide +kernel)
  have rC := read_restart hg hK hN loss (s := bc) (by decide +kernel)
  have rE := read_restart hg hK hN loss (s := be) (by decide +kernel)
  rw [h1, h2] at rA
  rw [h3, h4] at rB
  rw [h5, h6] at rC
  rw [h7, h8] at rE
  have two : ∀ {s : ByteArray} {q : Nat}, (fileOf (kp11 d m).files 2).2 ≤ q → q ≤ (fileOf (kp11 d m).files 2).1.length → s.data.toList = (fileOf (kp11 d m).files 2).1.take q → s = d := by
    intro s q q0 q1 e
    rw [kf2] at q0 q1 e
    refine ba_eq (e.trans ?_)
    simp only at q0 q1
    rw [List.take_of_length_le (by show d.data.toList.length ≤ q; omega)]
  refine ⟨?_, ?_, ?_, ?_⟩
  · rcases rA with ⟨_, _, h | h⟩ | ⟨e0, k, q, hk, q0, q1, e⟩
    · cases h
    · cases h
    · obtain rfl : k = 1 := by rcases hk with ⟨_, h⟩ | ⟨_, h⟩ <;> omega
      rw [kf1] at q0 q1 e
      simp only at q0 q1 e
      have hl : (d ++ m).data.toList = d.data.toList ++ m.data.toList := ba_append d m
      obtain ⟨c1, c2, c3⟩ := pre_cut (s := d ++ m) (e.trans (by rw [hl])) (by rw [hl]; exact q1)
      exact ⟨e0, by rw [c1, ba_size]; omega, c2, c3⟩
  · rcases rB with ⟨e0, _⟩ | ⟨e0, k, q, hk, q0, q1, e⟩
    · exact .inr e0
    · obtain rfl : k = 2 := by
        rcases hk with ⟨_, h⟩ | ⟨h, _⟩
        · omega
        · cases h
      exact .inl ⟨e0, two q0 q1 e⟩
  · rcases rC with ⟨e0, _⟩ | ⟨e0, k, q, hk, q0, q1, e⟩
    · exact .inr e0
    · obtain rfl : k = 2 := by
        rcases hk with ⟨h, _⟩ | ⟨_, h⟩
        · cases h
        · omega
      exact .inl ⟨e0, two q0 q1 e⟩
  · rcases rE with ⟨e0, e, _⟩ | ⟨e0, k, q, hk, q0, q1, e⟩
    · obtain ⟨_, c2, c3⟩ := pre_cut (s := m) (n := 0) (by rw [e]; rfl) (Nat.zero_le _)
      exact ⟨.inr e0, c2, c3⟩
    · obtain rfl : k = 3 := by
        rcases hk with ⟨h, _⟩ | ⟨_, h⟩
        · cases h
        · omega
      rw [kf3] at q0 q1 e
      obtain ⟨_, c2, c3⟩ := pre_cut (s := m) e q1
      exact ⟨.inl e0, c2, c3⟩
end
end Go.Proofs.Ytfiphjhpjaddcaa
