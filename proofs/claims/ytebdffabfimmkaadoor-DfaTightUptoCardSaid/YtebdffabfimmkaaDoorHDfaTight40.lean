/- dfa.Both: what stands in the midst of a round. -/
import Derived.Test.YtebdffabfimmkaaDoorHDfaTight39
import Derived.Test.YtebdffabfimmkaaDoorHDfaTight28
namespace Go.Proofs.YtebdffabfimmkaaDoor
open Go.RowKit Go.Maps

/-- What stands in the midst of a round of Both. -/
structure BoG (a e : List St) (n n' : Nat) (w W : World) (p kb i u v : Nat) (pa qa : List Arc3) (k j b ns cs ct : Nat) (As At : Option Addr) (N : DataW Unit) (arcs : List Arc3) (na ca : Nat) (Aa : Option Addr) (hs : List Sh) (S : List Rw) (M0 : List (List Int)) : Prop where
  pos : PosP pa qa k j b
  ti : TiG w W p As ns cs At ct kb N ⟨.slice Aa na ca, na, arcsC arcs⟩ hs S [] GRow.nil
  mid : MidP (pairW a e) (finP a e) (finP a e) [0, 0] i M0 [(u : Int), (v : Int)] b (S.map (·.l)) arcs (finP a e [(u : Int), (v : Int)]) (hs.map (·.d))
  prs : ∀ s ∈ S, IsPair n n' s.l
  tail : ∀ k, i + 1 ≤ k → k < ns → ∃ s, S[k]? = some s ∧ hs[k]? = some ⟨(finP a e s.l, []), none, 0⟩
  at_ : hs[i]? = some ⟨(finP a e [(u : Int), (v : Int)], []), none, 0⟩
  len : arcs.length = na
  hi : ∀ x ∈ arcs, 0 ≤ x.2.1 ∧ x.2.1 ≤ 256
  few : ns ≤ 20000 + b
  nab : na ≤ b
  ins : i < ns
section
variable {a e : List St} {n n' : Nat} {w W W' : World} {p kb i u v : Nat} {pa qa : List Arc3} {k j b ns cs ct : Nat} {As At : Option Addr} {N : DataW Unit} {arcs : List Arc3} {na ca : Nat} {Aa : Option Addr} {hs : List Sh} {S : List Rw} {M0 : List (List Int)}
theorem BoG.keep (h : BoG a e n n' w W p kb i u v pa qa k j b ns cs ct As At N arcs na ca Aa hs S M0) (hb : Below W.heap.size W W') : BoG a e n n' w W' p kb i u v pa qa k j b ns cs ct As At N arcs na ca Aa hs S M0 := { h with ti := h.ti.keep hb }
theorem BoG.pass {x y : Arc3} (h : BoG a e n n' w W p kb i u v pa qa k j b ns cs ct As At N arcs na ca Aa hs S M0) (hp : pa[k]? = some x) (hq : qa[j]? = some y) (hn : ¬ max x.1 y.1 ≤ min x.2.1 y.2.1) : BoG a e n n' w W p kb i u v pa qa k (j + 1) b ns cs ct As At N arcs na ca Aa hs S M0 := { h with pos := h.pos.pass hp hq hn }
theorem BoG.next (h : BoG a e n n' w W p kb i u v pa qa k j b ns cs ct As At N arcs na ca Aa hs S M0) (hj : qa.length ≤ j) : BoG a e n n' w W p kb i u v pa qa (k + 1) 0 b ns cs ct As At N arcs na ca Aa hs S M0 := { h with pos := h.pos.next hj }
/-- Behind all arcs. -/
theorem BoG.last (h : BoG a e n n' w W p kb i u v (arcsS a (u : Int)) (arcsS e (v : Int)) k 0 b ns cs ct As At N arcs na ca Aa hs S M0) (hk : (arcsS a (u : Int)).length ≤ k) : MidP (pairW a e) (finP a e) (finP a e) [0, 0] i M0 [(u : Int), (v : Int)] 256 (S.map (·.l)) arcs (finP a e [(u : Int), (v : Int)]) (hs.map (·.d)) :=
  h.mid.pass_ h.pos.le fun _ h1 _ => h.pos.rest hk h1
/-- Two arcs have met, their pair's state is made, the arc is put behind the others. -/
theorem BoG.take {P Q : Arc3} {u2 v2 i11 ns' cs' ct' na' ca' : Nat} {T T' : Int} {As' At' Aa' : Option Addr} {N' : DataW Unit} {hs' : List Sh} {S' : List Rw} {R : Rw} {f : Bool} (hpa : arcsS a (u : Int) = pa) (hqa : arcsS e (v : Int) = qa) (hap : Asc pa 256) (haq : Asc qa 256)
    (h : BoG a e n n' w W p kb i u v pa qa k j b ns cs ct As At N arcs na ca Aa hs S M0) (hp : pa[k]? = some P) (hq : qa[j]? = some Q) (hu : max P.1 Q.1 = (u2 : Int)) (hv : min P.2.1 Q.2.1 = (v2 : Int)) (hn : u2 ≤ v2) (hT : P.2.2 = T) (hT' : Q.2.2 = T') (hf : finP a e [T, T'] = f) (hR : R.l = [T, T']) (hpr : IsPair n n' [T, T'])
    (hti : TiG w W' p As' ns' cs' At' ct' kb N' ⟨.slice Aa' na' ca', na', arcsC (joinA arcs ((u2 : Int), (v2 : Int), (i11 : Int)))⟩ hs' S' [] GRow.nil) (hna : (joinA arcs ((u2 : Int), (v2 : Int), (i11 : Int))).length = na')
    (hc : (findE [T, T'] (S.map (·.l)) = some i11 ∧ ns' = ns ∧ hs' = hs ∧ S' = S) ∨ (findE [T, T'] (S.map (·.l)) = none ∧ i11 = ns ∧ ns' = ns + 1 ∧ hs' = hs ++ [⟨(f, []), none, 0⟩] ∧ S' = S ++ [R])) :
    BoG a e n n' w W' p kb i u v pa qa k (j + 1) (v2 + 1) ns' cs' ct' As' At' N' (joinA arcs ((u2 : Int), (v2 : Int), (i11 : Int))) na' ca' Aa' hs' S' M0 := by
  subst hpa hqa hT hT' hf
  have hb := h.pos.left k j P Q hp hq (.inr ⟨rfl, Nat.le_refl _⟩)
  have hP := h.pos.take hap haq hp hq hu hv hn
  have hM := h.mid.meet hap haq h.pos hp hq hu hv hn
  have hle := hP.le
  have hj := joinA_len arcs ((u2 : Int), (v2 : Int), (i11 : Int))
  have hjh := joinA_hi (P := fun z => 0 ≤ z ∧ z ≤ 256) (a := ((u2 : Int), (v2 : Int), (i11 : Int))) h.hi (by show 0 ≤ (v2 : Int) ∧ (v2 : Int) ≤ 256; omega)
  have hl := h.len
  have hnb := h.nab
  have hfw := h.few
  have hin := h.ins
  have hsl := h.ti.mr.sl
  have hhl := h.ti.mr.hl
  rcases hc with ⟨hq, rfl, rfl, rfl⟩ | ⟨hq, rfl, rfl, rfl, rfl⟩
  · exact ⟨hP, hti, hM.1 _ hq, h.prs, h.tail, h.at_, hna, hjh, by omega, by omega, hin⟩
  · have h2 := hM.2 hq
    rw [List.length_map, hsl] at h2
    refine ⟨hP, hti, by rw [List.map_append, List.map_append]; show MidP _ _ _ _ _ _ _ _ (_ ++ [R.l]) _ _ _; rw [hR]; exact h2, fun s hs => ?_, fun k' h3 h4 => ?_, ?_, hna, hjh, by omega, by omega, by omega⟩
    · rcases List.mem_append.1 hs with hs | hs
      · exact h.prs s hs
      · rw [List.mem_singleton.1 hs, hR]
        exact hpr
    · by_cases hk' : k' < i11
      · obtain ⟨s, h5, h6⟩ := h.tail k' h3 hk'
        exact ⟨s, by rw [List.getElem?_append_left (by omega)]; exact h5, by rw [List.getElem?_append_left (by omega)]; exact h6⟩
      · obtain rfl : k' = i11 := by omega
        refine ⟨R, ?_, ?_⟩
        · rw [List.getElem?_append_right (by omega), hsl, Nat.sub_self]; rfl
        · rw [List.getElem?_append_right (by omega), hhl, Nat.sub_self, hR]; rfl
    · rw [List.getElem?_append_left (by omega)]
      exact h.at_
end
end Go.Proofs.YtebdffabfimmkaaDoor
