/- Folded. -/
import Derived.Test.YtaociahafamncaaGreatDoorHW26
import Derived.Test.YtaociahafamncaaGreatDoorHW3
set_option maxRecDepth 100000
set_option maxHeartbeats 40000000
set_option linter.unusedVariables false
namespace Go.Proofs.YtaociahafamncaaGreatDoor
section
theorem runP_snocC{l:List Lst}:∀(t:List Nat) (P:Nat→Prop) (c:Nat),runP l P (t++[c])=Clo l (ovP l (runP l P t) c)
 |[],_,_=>rfl
 |
  b::t,P,c=>by
  show runP l (Clo l (ovP l P b)) (t++[c])=_;rw[runP_snocC t];rfl
theorem row_in{σ:Type}[DecidableEq σ]{W:Bfs σ}(hW:Plain W)(P:σ→Prop)(hP:∀x c y,P x→c<256→W.step x c=some y→P y)(x:σ)(hx:P x){met:List σ}(h1:met.Nodup)(h2:∀z∈met,P z):∀c,c≤256→(W.row x met c).Nodup∧∀z∈W.row x met c,P z
 |0,_=>⟨h1,h2⟩
 |
  n+1,hn=>by
  obtain⟨h3,h4⟩:=row_in hW P hP x hx h1 h2 n (by omega);rw[Bfs.row];cases hs:W.step x n with
  |none=>exact⟨h3,h4⟩
  |
   some y=>
   simp only
   rw[hW.find,hW.rep];cases hf:findE y (W.row x met n)with
   |some i=>exact⟨h3,h4⟩
   |
    none=>
    refine⟨List.nodup_append.2 ⟨h3,List.pairwise_singleton _ _,fun a ha b hb=>?_⟩,fun z hz=>?_⟩
    ·rw[List.mem_singleton.1 hb];intro e
     have:=findI_none.1 hf a ha;rw[e]at this;simp at this
    ·rcases List.mem_append.1 hz with hz|hz
     ·exact h4 z hz
     ·rw[List.mem_singleton.1 hz];exact hP x n y hx (by omega) hs
theorem runs_in{σ:Type}[DecidableEq σ]{W:Bfs σ}(hW:Plain W)(P:σ→Prop)(hP:∀x c y,P x→c<256→W.step x c=some y→P y){x0:σ}(h0:P x0):∀f,(W.run f 0 [x0]).Nodup∧∀z∈W.run f 0 [x0],P z
 |0=>⟨List.pairwise_singleton _ _,fun z hz=>by rw[List.mem_singleton.1 hz];exact h0⟩
 |
  f+1=>by
  obtain⟨h1,h2⟩:=runs_in hW P hP h0 f;rw[W.run_succ];split
  ·rename_i x hx
   exact row_in hW P hP _ (h2 x (List.mem_of_getElem? hx)) h1 h2 256 (Nat.le_refl _)
  ·exact⟨h1,h2⟩
theorem nodup_le{σ:Type}[DecidableEq σ]:∀{l L:List σ},l.Nodup→(∀x∈l,x∈L)→l.length≤L.length
 |[],_,_,_=>Nat.zero_le _
 |
  x::l,L,hn,hs=>by
  obtain⟨h1,h2⟩:=List.nodup_cons.1 hn;have h3:=nodup_le (l:=l) (L:=L.erase x) h2 fun y hy=>(List.mem_erase_of_ne (fun e=>h1 (by rw[←e];exact hy))).2 (hs y (List.mem_cons_of_mem _ hy))
  have h4:=List.length_erase_of_mem (hs x (List.mem_cons_self ..));have h5:=List.length_pos_of_mem (hs x (List.mem_cons_self ..));rw[List.length_cons];omega
theorem met_few{l:List Lst}(L:List (List Int))(h:∀t:List Nat,setL l.length (fun y=>Way (edgeL l) 0 t y)∈L)(f:Nat):((subW l).run f 0 [setL l.length (Clo l fun x=>x=0)]).length≤L.length:=by
 have hr:∀t,runP l (Clo l fun x=>x=0) t=fun y=>Way (edgeL l) 0 t y:=fun t=>by
  funext y
  apply propext
  rw[run_way];exact⟨fun⟨x,hx,hw⟩=>by rw[←hx];exact hw,fun hw=>⟨0,rfl,hw⟩⟩
 obtain⟨h1,h2⟩:=runs_in (subW_plain l) (fun S=>∃t,S=setL l.length (runP l (Clo l fun x=>x=0) t)) (fun S c T ⟨t,ht⟩ _ hs=>by
  have hs:stepS l S c=some T:=hs;unfold stepS at hs;split at hs
  ·injection hs with hs
   refine⟨t++[c],?_⟩;rw[←hs,runP_snocC,ht,overP_set]
  ·cases hs) (x0:=setL l.length (Clo l fun x=>x=0)) ⟨[],rfl⟩ f
 refine nodup_le h1 fun S hS=>?_
 obtain⟨t,ht⟩:=h2 S hS;rw[ht,hr t];exact h t
def repB(cs:List Nat)(c:Nat):Nat:=(cs.filter (· ≤c)).foldl max 0
theorem foldl_max(cs:List Nat):∀m,m≤cs.foldl max m∧(∀x∈cs,x≤cs.foldl max m)∧(cs.foldl max m=m∨cs.foldl max m∈cs):=by
 induction cs with
 |nil=>exact fun m=>⟨Nat.le_refl _,fun x hx=>absurd hx List.not_mem_nil,.inl rfl⟩
 |
  cons a cs ih=>
  intro m
  obtain⟨h1,h2,h3⟩:=ih (max m a);rw[List.foldl_cons];refine⟨by omega,fun x hx=>?_,?_⟩
  ·rcases List.mem_cons.1 hx with rfl|hx
   ·omega
   ·exact h2 x hx
  ·rcases h3 with h3|h3
   ·rw[h3];by_cases h:a≤m
    ·left;omega
    ·right
     rw[show max m a=a by omega];exact List.mem_cons_self ..
   ·exact .inr (List.mem_cons_of_mem _ h3)
theorem repB_le(cs:List Nat)(c:Nat):repB cs c≤c:=by
 obtain⟨_,_,h⟩:=foldl_max (cs.filter (· ≤c)) 0;unfold repB;rcases h with h|h
 ·rw[h];exact Nat.zero_le _
 ·have:=(List.mem_filter.1 h).2;simpa using this
theorem repB_ge{cs:List Nat}{c x:Nat}(hx:x∈cs)(h:x≤c):x≤repB cs c:=(foldl_max (cs.filter (· ≤c)) 0).2.1 x (List.mem_filter.2 ⟨hx,by simpa using h⟩)
theorem repB_mem{cs:List Nat}(h0:0∈cs)(c:Nat):repB cs c∈cs:=by
 obtain⟨_,_,h⟩:=foldl_max (cs.filter (· ≤c)) 0;unfold repB;rcases h with h|h
 ·rw[h];exact h0
 ·exact(List.mem_filter.1 h).1
theorem repB_fit{cs:List Nat}{c:Nat}{p:Int×Int}(h1:p.1.toNat∈cs)(h2:(p.2+1).toNat∈cs)(h3:0≤p.1)(h4:0≤p.2):(p.1≤(c:Int)∧(c:Int)≤p.2)↔(p.1≤(repB cs c:Int)∧(repB cs c:Int)≤p.2):=by
 have hle:=repB_le cs c;constructor
 ·rintro⟨k1,k2⟩;have:=repB_ge (c:=c) h1 (by omega);omega
 ·rintro⟨k1,k2⟩;refine⟨by omega,?_⟩;by_cases h:(c:Int)≤p.2
  ·exact h
  ·have:=repB_ge (c:=c) h2 (by omega);omega
def repU:List (List Nat)→List Nat→List Nat
 |c::cs,x::u=>repB c x::repU cs u
 |_,_=>[]
theorem repU_len:∀{cs:List (List Nat)}{u:List Nat},cs.length=u.length→(repU cs u).length=u.length
 |[],[],_=>rfl
 |
  _::cs,_::u,h=>by
  rw[repU,List.length_cons,List.length_cons,repU_len (by simpa using h)]
def prodL:List (List Nat)→List (List Nat)
 |[]=>[[]]
 |c::cs=>c.flatMap fun x=>(prodL cs).map (x:: ·)
theorem prodL_mem:∀{cs:List (List Nat)}{u:List Nat},cs.length=u.length→(∀c∈cs,0∈c)→repU cs u∈prodL cs
 |[],[],_,_=>by simp[repU,prodL]
 |
  c::cs,x::u,h,h0=>by
  rw[repU,prodL,List.mem_flatMap];exact⟨repB c x,repB_mem (h0 c (List.mem_cons_self ..)) x,List.mem_map_of_mem (prodL_mem (by simpa using h) fun c hc=>h0 c (List.mem_cons_of_mem _ hc))⟩
theorem flat_const{α β:Type}(f:α→List β)(m:Nat)(hf:∀x,(f x).length=m)(l:List α):(l.flatMap f).length=l.length*m:=by
 induction l with
 |nil=>simp
 |cons x l ih=>rw[List.flatMap_cons,List.length_append,ih,hf,List.length_cons,Nat.add_mul];omega
theorem prodL_len:∀{cs:List (List Nat)}{m:Nat},(∀c∈cs,c.length≤m)→(prodL cs).length≤m^cs.length
 |[],_,_=>by simp[prodL]
 |
  c::cs,m,h=>by
  rw[prodL,flat_const _ (prodL cs).length (fun x=>List.length_map ..),List.length_cons,Nat.pow_succ,Nat.mul_comm];exact Nat.mul_le_mul (prodL_len fun c hc=>h c (List.mem_cons_of_mem _ hc)) (h c (List.mem_cons_self ..))
theorem rep_fit:∀{q:List (Int×Int)}{cs:List (List Nat)}{u:List Nat},q.length=u.length→cs.length=u.length→(∀(k:Nat) p c,q[k]? =some p→cs[k]? =some c→p.1.toNat∈c∧(p.2+1).toNat∈c)→(∀p∈q,0≤p.1∧0≤p.2)→(fitN q u↔fitN q (repU cs u))
 |[],[],[],_,_,_,_=>Iff.rfl
 |[],_::_,[],_,h,_,_=>by simp at h
 |[],_,_::_,h,_,_,_=>by simp at h
 |_::_,_,[],h,_,_,_=>by simp at h
 |_::_,[],_::_,_,h,_,_=>by simp at h
 |
  p::q,c::cs,x::u,h1,h2,h3,h4=>by
  have ih:=rep_fit (q:=q) (cs:=cs) (u:=u) (by simpa using h1) (by simpa using h2) (fun k p c hp hc=>h3 (k+1) p c (by simpa using hp) (by simpa using hc)) fun p hp=>h4 p (List.mem_cons_of_mem _ hp)
  obtain⟨k1,k2⟩:=h3 0 p c rfl rfl;obtain⟨k3,k4⟩:=h4 p (List.mem_cons_self ..);have hb:=repB_fit (c:=x) k1 k2 k3 k4;show(p.1≤(x:Int)∧(x:Int)≤p.2∧fitN q u)↔(p.1≤(repB c x:Int)∧(repB c x:Int)≤p.2∧fitN q (repU cs u));rw[←and_assoc,←and_assoc,hb,ih]
def cutsAt(rs:List (List (Int×Int)))(d k:Nat):List Nat:=0::(rs.filter fun r=>decide (d<r.length)).flatMap fun r=>match r[k]? with
 |some p=>[p.1.toNat,(p.2+1).toNat]
 |none=>[0,0]
theorem cutsAt_len(rs:List (List (Int×Int)))(d k:Nat):(cutsAt rs d k).length=1+(rs.filter fun r=>decide (d<r.length)).length*2:=by
 unfold cutsAt;rw[List.length_cons,flat_const _ 2 (fun r=>by split<;>rfl)];omega
def cutsU(rs:List (List (Int×Int)))(d:Nat):List (List Nat):=(List.range d).map (cutsAt rs d)
theorem cutsU_len(rs:List (List (Int×Int)))(d:Nat):(cutsU rs d).length=d:=by unfold cutsU;rw[List.length_map,List.length_range]
theorem mids_rep{rs:List (List (Int×Int))}(hr:∀r∈rs,∀p∈r,0≤p.1∧0≤p.2){u:List Nat}:∀{rs':List (List (Int×Int))}{N y:Nat},(∀r∈rs',r∈rs)→(midsP N rs' u y↔midsP N rs' (repU (cutsU rs u.length) u) y)
 |[],_,_,_=>Iff.rfl
 |
  r::rs',N,y,hs=>by
  have hl:=repU_len (u:=u) (cutsU_len rs u.length);unfold midsP;refine or_congr ?_ (mids_rep hr fun r h=>hs r (List.mem_cons_of_mem _ h));unfold midP;rw[hl];refine and_congr Iff.rfl ⟨fun⟨h1,h2,h3⟩=>⟨h1,h2,?_⟩,fun⟨h1,h2,h3⟩=>⟨h1,h2,?_⟩⟩;all_goals
   have key:=rep_fit (q:=r.take u.length) (cs:=cutsU rs u.length) (u:=u) (by rw[List.length_take];omega) (cutsU_len rs u.length) (fun k p c hp hc=>by
    unfold cutsU at hc;rw[List.getElem?_map]at hc;obtain⟨k',hk',rfl⟩:=Option.map_eq_some_iff.1 hc;have hkl:=(List.getElem?_eq_some_iff.1 hk').1;rw[List.length_range]at hkl;rw[List.getElem?_range hkl]at hk';injection hk' with hk'
    subst hk';rw[List.getElem?_take_of_lt hkl]at hp;have hmem:r∈rs.filter fun r=>decide (u.length<r.length):=List.mem_filter.2 ⟨hs r (List.mem_cons_self ..),decide_eq_true h1⟩
    unfold cutsAt;constructor<;>refine List.mem_cons_of_mem _ (List.mem_flatMap.2 ⟨r,hmem,?_⟩)<;>rw[hp]<;>simp) (fun p hp=>hr r (hs r (List.mem_cons_self ..)) p (List.mem_of_mem_take hp))
  ·exact key.1 h3
  ·exact key.2 h3
structure RowsU(rs:List (List (Int×Int))):Prop where
 len:∀r∈rs,1≤r.length∧r.length≤4
 ok:∀r∈rs,∀p∈r,0≤p.1∧0≤p.2
 lead:∀r∈rs,1<r.length→∀p,r[0]? =some p→192≤p.1
 cont:∀r∈rs,∀(k:Nat) p,0<k→r[k]? =some p→128≤p.1∧p.2≤191
 few1:(rs.filter fun r=>decide (1<r.length)).length≤20
 few2:(rs.filter fun r=>decide (2<r.length)).length≤17
 few3:(rs.filter fun r=>decide (3<r.length)).length≤7
def Shp:List Nat→Prop
 |[]=>False
 |c::t=>192≤c∧∀d∈t,d≤191
theorem fitN_get:∀{q:List (Int×Int)}{u:List Nat},fitN q u→∀(k:Nat) p c,q[k]? =some p→u[k]? =some c→p.1≤(c:Int)∧(c:Int)≤p.2
 |[],[],_,_,_,_,h,_=>by simp at h
 |
  p::q,c::u,h,k,p',c',h1,h2=>by
  cases k with
  |
   zero=>
   simp at h1 h2
   subst h1 h2;exact⟨h.1,h.2.1⟩
  |succ k=>exact fitN_get h.2.2 k p' c' (by simpa using h1) (by simpa using h2)
 |[],_::_,h,_,_,_,_,_=>h.elim
 |_::_,[],h,_,_,_,_,_=>h.elim
theorem mids_shape{rs:List (List (Int×Int))}(hr:RowsU rs){u:List Nat}:∀{rs':List (List (Int×Int))}{N y:Nat},(∀r∈rs',r∈rs)→midsP N rs' u y→Shp u∧u.length≤3
 |[],_,_,_,h=>h.elim
 |
  r::rs',N,y,hs,h=>by
  rcases h with⟨h1,h2,h3,h4⟩|h
  ·have hrm:=hs r (List.mem_cons_self ..);have hl:=(hr.len r hrm).2;refine⟨?_,by omega⟩;cases u with
   |nil=>simp at h1
   |
    cons c t=>
    rw[List.length_cons]at h2;have hg:∀(k:Nat) p d,r[k]? =some p→(c::t)[k]? =some d→p.1≤(d:Int)∧(d:Int)≤p.2:=fun k p d hp hd=>fitN_get h4 k p d (by
     rw[List.getElem?_take_of_lt (List.getElem?_eq_some_iff.1 hd).1];exact hp) hd
    refine⟨?_,fun d hd=>?_⟩
    ·have h5:=hg 0 r[0] c (List.getElem?_eq_getElem (by omega)) rfl;have h6:=hr.lead r hrm (by omega) r[0] (List.getElem?_eq_getElem (by omega));omega
    ·obtain⟨k,hk⟩:=List.mem_iff_getElem?.1 hd;have hkl:=(List.getElem?_eq_some_iff.1 hk).1;have h5:=hg (k+1) r[k+1] d (List.getElem?_eq_getElem (by omega)) (by simpa using hk);have h6:=(hr.cont r hrm (k+1) r[k+1] (by omega) (List.getElem?_eq_getElem (by omega))).2;omega
  ·exact mids_shape hr (fun r h=>hs r (List.mem_cons_of_mem _ h)) h
def candsU(rs:List (List (Int×Int))):List (Option (List Nat)):=none::((prodL (cutsU rs 1)++prodL (cutsU rs 2)++prodL (cutsU rs 3)).map some)
theorem candsU_len{rs:List (List (Int×Int))}(hr:RowsU rs):(candsU rs).length≤4642:=by
 have k:∀d m,(rs.filter fun r=>decide (d<r.length)).length≤m→(prodL (cutsU rs d)).length≤(1+m*2)^d:=fun d m h=>by
  have h1:=prodL_len (cs:=cutsU rs d) (m:=1+m*2) fun c hc=>by
   unfold cutsU at hc;obtain⟨k,_,rfl⟩:=List.mem_map.1 hc;rw[cutsAt_len];omega
  rwa[cutsU_len]at h1
 have k1:=k 1 20 hr.few1;have k2:=k 2 17 hr.few2;have k3:=k 3 7 hr.few3;unfold candsU;rw[List.length_cons,List.length_map,List.length_append,List.length_append];omega
end
namespace Sp
theorem part_few{lo hi x y:Int}{m:Nat}(hc:∀a b,a≤b→x≤a→b≤y→Cls a b∧(rowsP a b).length≤m):(part lo hi x y).length≤m:=by
 unfold part;split
 ·exact(hc _ _ ‹_› (by omega) (by omega)).2
 ·simp
theorem all_len(lo hi:Int):(allP lo hi).length≤20:=by
 have s1:∀a:Int,a≤127→szC a≤1:=fun a h=>by unfold szC;rw[if_pos (by omega)];omega
 have s2:∀a:Int,a≤2047→szC a≤2:=fun a h=>by have:=sz_cls (lo:=a);omega
 have s3:∀a:Int,a≤65535→szC a≤3:=fun a h=>by have:=sz_cls (lo:=a);omega
 unfold allP;have l0:0≤max lo 0:=by omega
 have h0:min hi 1114111≤1114111:=by omega
 generalize max lo 0=a at*;generalize min hi 1114111=b at*;have p0:=part_few (lo:=a) (hi:=b) (x:=0) (y:=127) (m:=1) (fun u v h h1 h2=>by
  have k:Cls u v:=by unfold Cls;omega
  have:=few1 h k;exact⟨k,by have:=s1 u (by omega);omega⟩)
 have p1:=part_few (lo:=a) (hi:=b) (x:=128) (y:=2047) (m:=3) (fun u v h h1 h2=>by
  have k:Cls u v:=by unfold Cls;omega
  have:=few1 h k;exact⟨k,by have:=s2 u (by omega);omega⟩)
 have p2:=part_few (lo:=a) (hi:=b) (x:=2048) (y:=55295) (m:=5) (fun u v h h1 h2=>by
  have k:Cls u v:=by unfold Cls;omega
  have:=few1 h k;exact⟨k,by have:=s3 u (by omega);omega⟩)
 have p3:=part_few (lo:=a) (hi:=b) (x:=57344) (y:=65535) (m:=5) (fun u v h h1 h2=>by
  have k:Cls u v:=by unfold Cls;omega
  have:=few1 h k;exact⟨k,by have:=s3 u (by omega);omega⟩)
 have p4:(part a b 65536 1114111).length≤7:=part_few (fun u v h h1 h2=>by
  have k:Cls u v:=by unfold Cls;omega
  exact⟨k,(few1 h k).1⟩)
 have key:(part a b 0 127).length=0∨(part a b 2048 55295).length=0∨(part a b 128 2047).length≤1:=by
  by_cases c1:max a 0≤min b 127
  ·by_cases c2:max a 2048≤min b 55295
   ·refine .inr (.inr ?_);unfold part;rw[if_pos (by omega),show max a 128=128 by omega,show min b 2047=2047 by omega];have:(rowsP 128 2047).length=1:=few_leaf (by decide);omega
   ·refine .inr (.inl ?_);unfold part;rw[if_neg c2];rfl
  ·refine .inl ?_;unfold part;rw[if_neg c1];rfl
 unfold upto;simp only[List.take_succ_cons,List.take_zero,List.flatten_cons,List.flatten_nil,List.length_append,List.length_nil];omega
theorem part_ok{lo hi x y:Int}(hc:∀a b,x≤a→b≤y→Cls a b):∀r∈part lo hi x y,rowOk r:=by
 unfold part;split
 ·exact rows_ok ‹_› (hc _ _ (by omega) (by omega))
 ·intro r hr;simp at hr
theorem all_ok(lo hi:Int):∀r∈allP lo hi,rowOk r:=by
 unfold allP upto;intro r hr
 simp only[List.take_succ_cons,List.take_zero,List.flatten_cons,List.flatten_nil,List.mem_append,List.not_mem_nil,or_false]at hr;rcases hr with h|h|h|h|h
 ·exact part_ok (fun a b _ _=>by unfold Cls;omega) r h
 ·exact part_ok (fun a b _ _=>by unfold Cls;omega) r h
 ·exact part_ok (fun a b _ _=>by unfold Cls;omega) r h
 ·exact part_ok (fun a b _ _=>by unfold Cls;omega) r h
 ·exact part_ok (fun a b _ _=>by unfold Cls;omega) r h
theorem part_holds{lo hi x y c:Int}(hc:∀a b,x≤a→b≤y→Cls a b):holdsR (part lo hi x y) (encC c)=inB (max lo x) (min hi y) c:=by
 unfold part;split
 ·exact rows_holds ‹_› (hc _ _ (by omega) (by omega))
 ·unfold inB holdsR;rw[if_neg (by omega)];rfl
theorem all_holds(lo hi c:Int)(hw:wholeB c=true):holdsR (allP lo hi) (encC c)=inB lo hi c:=by
 have:=whole_of hw;unfold allP upto;simp only[List.take_succ_cons,List.take_zero,List.flatten_cons,List.flatten_nil,holdsR_append];rw[part_holds (fun a b _ _=>by unfold Cls;omega),part_holds (fun a b _ _=>by unfold Cls;omega),part_holds (fun a b _ _=>by unfold Cls;omega),part_holds (fun a b _ _=>by unfold Cls;omega),part_holds (fun a b _ _=>by unfold Cls;omega)];have e:holdsR [] (encC c)=0:=rfl;rw[e];unfold inB;by_cases h:lo≤c∧c≤hi
 ·rw[if_pos h];repeat' split
  all_goals omega
 ·rw[if_neg h,if_neg (by omega),if_neg (by omega),if_neg (by omega),if_neg (by omega),if_neg (by omega)];rfl
end Sp
namespace Sp
def UOk(s:Int)(r:List (Int×Int)):Prop:=(1≤r.length∧r.length≤4)∧(∀p∈r,0≤p.1∧0≤p.2)∧(1<r.length→∀p,r[0]? =some p→192≤p.1)∧(∀(k:Nat) p,0<k→r[k]? =some p→128≤p.1∧p.2≤191)∧((r.length:Int)=s)∧(r.length=1→∀p∈r,p.2≤127)
theorem leaf_u{lo hi:Int}(h:lo≤hi)(hk:Cls lo hi):UOk (szC lo) (leafC lo hi):=by
 have hs:=sz_cls (lo:=lo);rcases leaf_case h hk with⟨a,b,e⟩|⟨a,b,e⟩|⟨a,b,e⟩|⟨a,b,e⟩
 all_goals
  rw[e]
 ·refine⟨by simp,fun p hp=>?_,fun h=>by simp at h,fun k p hk hp=>?_,by simp;omega,fun _ p hp=>?_⟩
  ·rw[List.mem_singleton.1 hp];exact⟨a,by show 0≤hi;omega⟩
  ·have:=(List.getElem?_eq_some_iff.1 hp).1;simp at this
   omega
  ·rw[List.mem_singleton.1 hp];exact b
 ·refine⟨by simp,fun p hp=>?_,fun _ p hp=>?_,fun k p hk hp=>?_,by simp;omega,fun h=>by simp at h⟩
  ·simp only[List.mem_cons,List.not_mem_nil,or_false]at hp;rcases hp with rfl|rfl
   ·constructor<;>simp only<;>omega
   ·constructor<;>simp only<;>omega
  ·injection hp with hp
   subst hp;simp only
   omega
  ·have hl:=(List.getElem?_eq_some_iff.1 hp).1;simp at hl
   obtain rfl:k=1:=by omega
   injection hp with hp
   subst hp;constructor<;>simp only<;>omega
 ·refine⟨by simp,fun p hp=>?_,fun _ p hp=>?_,fun k p hk hp=>?_,by simp;omega,fun h=>by simp at h⟩
  ·simp only[List.mem_cons,List.not_mem_nil,or_false]at hp;rcases hp with rfl|rfl|rfl
   ·constructor<;>simp only<;>omega
   ·constructor<;>simp only<;>omega
   ·constructor<;>simp only<;>omega
  ·injection hp with hp
   subst hp;simp only
   omega
  ·have hl:=(List.getElem?_eq_some_iff.1 hp).1;simp at hl
   obtain rfl|rfl:k=1∨k=2:=by omega
   all_goals
    injection hp with hp
    subst hp;constructor<;>simp only<;>omega
 ·refine⟨by simp,fun p hp=>?_,fun _ p hp=>?_,fun k p hk hp=>?_,by simp;omega,fun h=>by simp at h⟩
  ·simp only[List.mem_cons,List.not_mem_nil,or_false]at hp;rcases hp with rfl|rfl|rfl|rfl
   ·constructor<;>simp only<;>omega
   ·constructor<;>simp only<;>omega
   ·constructor<;>simp only<;>omega
   ·constructor<;>simp only<;>omega
  ·injection hp with hp
   subst hp;simp only
   omega
  ·have hl:=(List.getElem?_eq_some_iff.1 hp).1;simp at hl
   obtain rfl|rfl|rfl:k=1∨k=2∨k=3:=by omega
   all_goals
    injection hp with hp
    subst hp;constructor<;>simp only<;>omega
theorem rows_u{lo hi:Int}(h:lo≤hi)(hk:Cls lo hi):∀r∈rowsP lo hi,UOk (szC lo) r:=by
 refine rows_ind (motive:=fun lo hi=>∀r∈rowsP lo hi,UOk (szC lo) r) ?_ ?_ lo hi h hk
 ·intro lo hi c h1 hk hc h2 h3 a b r hr
  rw[rowsP_cut h1 hc,List.mem_append]at hr;rcases hr with hr|hr
  ·exact a r hr
  ·have:=b r hr;rwa[sz_same hk (by omega) h3]at this
 ·intro lo hi h1 hk hc r hr
  rw[rowsP_leaf hc,List.mem_singleton]at hr;subst hr;exact leaf_u h1 hk
theorem part_u{lo hi x y s:Int}(hc:∀a b,a≤b→x≤a→b≤y→Cls a b∧szC a=s):∀r∈part lo hi x y,UOk s r:=by
 unfold part;split
 ·intro r hr
  obtain⟨k1,k2⟩:=hc _ _ ‹_› (by omega) (by omega);have:=rows_u ‹_› k1 r hr;rwa[k2]at this
 ·intro r hr;cases hr
theorem filter_none{α:Type}{p:α→Bool}{l:List α}(h:∀x∈l,p x=false):(l.filter p).length=0:=by
 rw[List.filter_eq_nil_iff.2 fun x hx=>by rw[h x hx];exact Bool.false_ne_true];rfl
theorem all_parts(lo hi:Int):∃p0 p1 p2 p3 p4:List (List (Int×Int)),allP lo hi=p0++(p1++(p2++(p3++p4)))∧(∀r∈p0,UOk 1 r)∧(∀r∈p1,UOk 2 r)∧(∀r∈p2,UOk 3 r)∧(∀r∈p3,UOk 3 r)∧(∀r∈p4,UOk 4 r)∧p1.length≤3∧p2.length≤5∧p3.length≤5∧p4.length≤7:=by
 have s1:∀a:Int,a≤127→szC a=1:=fun a h=>by have:=sz_cls (lo:=a);omega
 have s2:∀a:Int,128≤a→a≤2047→szC a=2:=fun a h h'=>by have:=sz_cls (lo:=a);omega
 have s3:∀a:Int,2048≤a→a≤65535→szC a=3:=fun a h h'=>by have:=sz_cls (lo:=a);omega
 have s4:∀a:Int,65536≤a→szC a=4:=fun a h=>by have:=sz_cls (lo:=a);omega
 refine⟨part (max lo 0) (min hi 1114111) 0 127,part (max lo 0) (min hi 1114111) 128 2047,part (max lo 0) (min hi 1114111) 2048 55295,part (max lo 0) (min hi 1114111) 57344 65535,part (max lo 0) (min hi 1114111) 65536 1114111,?_,part_u fun a b h h1 h2=>⟨?_,s1 a (by omega)⟩,part_u fun a b h h1 h2=>⟨?_,s2 a h1 (by omega)⟩,part_u fun a b h h1 h2=>⟨?_,s3 a h1 (by omega)⟩,part_u fun a b h h1 h2=>⟨?_,s3 a (by omega) (by omega)⟩,part_u fun a b h h1 h2=>⟨?_,s4 a h1⟩,part_few fun u v h h1 h2=>?_,part_few fun u v h h1 h2=>?_,part_few fun u v h h1 h2=>?_,part_few fun u v h h1 h2=>?_⟩
 ·unfold allP upto;simp
 ·unfold Cls;omega
 ·unfold Cls;omega
 ·unfold Cls;omega
 ·unfold Cls;omega
 ·unfold Cls;omega
 ·have k:Cls u v:=by unfold Cls;omega
  have:=few1 h k;exact⟨k,by have:=s2 u h1 (by omega);omega⟩
 ·have k:Cls u v:=by unfold Cls;omega
  have:=few1 h k;exact⟨k,by have:=s3 u h1 (by omega);omega⟩
 ·have k:Cls u v:=by unfold Cls;omega
  have:=few1 h k;exact⟨k,by have:=s3 u (by omega) (by omega);omega⟩
 ·have k:Cls u v:=by unfold Cls;omega
  exact⟨k,(few1 h k).1⟩
theorem all_u(lo hi:Int):∀r∈allP lo hi,∃s,UOk s r:=by
 obtain⟨p0,p1,p2,p3,p4,e,h0,h1,h2,h3,h4,_⟩:=all_parts lo hi;intro r hr
 rw[e]at hr;simp only[List.mem_append]at hr;rcases hr with h|h|h|h|h
 ·exact⟨_,h0 r h⟩
 ·exact⟨_,h1 r h⟩
 ·exact⟨_,h2 r h⟩
 ·exact⟨_,h3 r h⟩
 ·exact⟨_,h4 r h⟩
theorem all_rowsU(lo hi:Int):RowsU (allP lo hi):=by
 have hu:=all_u lo hi;obtain⟨p0,p1,p2,p3,p4,e,h0,h1,h2,h3,h4,n1,n2,n3,n4⟩:=all_parts lo hi;have cnt:∀d:Nat,((allP lo hi).filter fun r=>decide (d<r.length)).length=(p0.filter fun r=>decide (d<r.length)).length+((p1.filter fun r=>decide (d<r.length)).length+((p2.filter fun r=>decide (d<r.length)).length+((p3.filter fun r=>decide (d<r.length)).length+(p4.filter fun r=>decide (d<r.length)).length))):=fun d=>by
  rw[e];simp only[List.filter_append,List.length_append]
 have z:∀{s:Int}{p:List (List (Int×Int))},(∀r∈p,UOk s r)→∀d:Nat,s≤(d:Int)→(p.filter fun r=>decide (d<r.length)).length=0:=fun{s p} h d hd=>filter_none fun r hr=>decide_eq_false (by have:=(h r hr).2.2.2.2.1;omega)
 have b:∀(p:List (List (Int×Int))) (d:Nat),(p.filter fun r=>decide (d<r.length)).length≤p.length:=fun p d=>List.length_filter_le ..
 refine⟨fun r hr=>?_,fun r hr=>?_,fun r hr=>?_,fun r hr=>?_,?_,?_,?_⟩
 ·obtain⟨s,h⟩:=hu r hr;exact h.1
 ·obtain⟨s,h⟩:=hu r hr;exact h.2.1
 ·obtain⟨s,h⟩:=hu r hr;exact h.2.2.1
 ·obtain⟨s,h⟩:=hu r hr;exact h.2.2.2.1
 ·rw[cnt];have:=z h0 1 (by omega);have:=b p1 1;have:=b p2 1;have:=b p3 1;have:=b p4 1
  omega
 ·rw[cnt];have:=z h0 2 (by omega);have:=z h1 2 (by omega)
  have:=b p2 2;have:=b p3 2;have:=b p4 2
  omega
 ·rw[cnt];have:=z h0 3 (by omega);have:=z h1 3 (by omega);have:=z h2 3 (by omega);have:=z h3 3 (by omega)
  have:=b p4 3;omega
theorem all_ne(lo hi:Int):∀r∈allP lo hi,r≠[]:=fun r hr e=>by
 obtain⟨s,h⟩:=all_u lo hi r hr;rw[e]at h;have:=h.1.1;simp at this
theorem fits_fitN:∀{r:List (Int×Int)}{u:List Nat},fitsR r (u.map fun c:Nat=>(c:Int))=true↔fitN r u
 |[],[]=>by simp[fitsR,fitN]
 |[],_::_=>by simp[fitsR,fitN]
 |_::_,[]=>by simp[fitsR,fitN]
 |
  p::r,c::u=>by
  have ih:= @fits_fitN r u;unfold fitsR at ih⊢;show _↔p.1≤(c:Int)∧(c:Int)≤p.2∧fitN r u;rw[←ih];simp only[List.map_cons,List.length_cons,List.zip_cons_cons,List.all_cons,Bool.and_eq_true,beq_iff_eq,decide_eq_true_eq,List.length_map];constructor
  ·rintro⟨h1,⟨h2,h3⟩,h4⟩;exact⟨h2,h3,by omega,h4⟩
  ·rintro⟨h1,h2,h3,h4⟩;exact⟨by omega,⟨h1,h2⟩,h4⟩
def encN(c:Int):List Nat:=(encC c).map Int.toNat
theorem encN_cast{c:Int}(h:0≤c):(encN c).map (fun c:Nat=>(c:Int))=encC c:=by
 have k:∀z∈encC c,0≤z:=by
  rcases @enc_case c with⟨a,e⟩|⟨a,b,e⟩|⟨a,b,e⟩|⟨a,e⟩
  all_goals
   rw[e];intro z hz
   simp only[List.mem_cons,List.not_mem_nil,or_false]at hz
  ·omega
  ·omega
  ·omega
  ·omega
 unfold encN;rw[List.map_map];conv=>rhs;rw[←List.map_id (encC c)]
 refine List.map_congr_left fun z hz=>?_
 have:=k z hz;simp only[Function.comp,id];omega
theorem all_fits{lo hi c:Int}(hw:wholeB c=true):(∃r∈allP lo hi,fitN r (encN c))↔lo≤c∧c≤hi:=by
 have h1:=all_holds lo hi c hw;have h0:=(whole_of hw).1;have e:(∃r∈allP lo hi,fitN r (encN c))↔0<holdsR (allP lo hi) (encC c):=by
  unfold holdsR;rw[←encN_cast h0];constructor
  ·rintro⟨r,hr,hf⟩;have:=List.length_pos_of_mem ((List.mem_filter (p:=fun r=>fitsR r ((encN c).map fun c:Nat=>(c:Int)))).2 ⟨hr,fits_fitN.2 hf⟩);omega
  ·intro h
   obtain⟨r,hr⟩:=List.exists_mem_of_length_pos (show 0<_ from by exact Int.ofNat_lt.1 h);exact⟨r,(List.mem_filter.1 hr).1,fits_fitN.1 (List.mem_filter.1 hr).2⟩
 rw[e,h1];unfold inB;split
 ·rename_i h
  exact⟨fun _=>h,fun _=>by omega⟩
 ·rename_i h
  exact⟨fun h'=>by omega,fun h'=>absurd h' h⟩
end Sp
section
open Sp
def encs(l:List Int):List Nat:=l.flatMap encN
theorem encs_app(a b:List Int):encs (a++b)=encs a++encs b:=List.flatMap_append ..
theorem encs_one(c:Int):encs [c]=encN c:=by simp[encs]
theorem enc_head{c:Int}(hw:wholeB c=true):(0≤c∧c<128∧encN c=[c.toNat])∨(128≤c∧c<2048∧∃a b:Nat,encN c=[a,b]∧192≤a∧a<224∧128≤b∧b≤191∧c=((a:Int)-192)*64+(b-128))∨
  (2048≤c∧c<65536∧∃a b d:Nat,encN c=[a,b,d]∧224≤a∧a<240∧128≤b∧b≤191∧128≤d∧d≤191∧c=(((a:Int)-224)*64+(b-128))*64+(d-128))∨
  (65536≤c∧c≤1114111∧∃a b d e:Nat,encN c=[a,b,d,e]∧240≤a∧a<248∧128≤b∧b≤191∧128≤d∧d≤191∧128≤e∧e≤191∧c=((((a:Int)-240)*64+(b-128))*64+(d-128))*64+(e-128)):=by
 obtain⟨h0,h1,_⟩:=whole_of hw;unfold encN encC;split
 ·exact .inl ⟨h0,by omega,rfl⟩
 ·split
  ·exact .inr (.inl ⟨by omega,by omega,_,_,rfl,by omega,by omega,by omega,by omega,by omega⟩)
  ·split
   ·exact .inr (.inr (.inl ⟨by omega,by omega,_,_,_,rfl,by omega,by omega,by omega,by omega,by omega,by omega,by omega⟩))
   ·exact .inr (.inr (.inr ⟨by omega,by omega,_,_,_,_,rfl,by omega,by omega,by omega,by omega,by omega,by omega,by omega,by omega,by omega⟩))
theorem enc_one{a:Nat}(h:a<128):encN (a:Int)=[a]:=by
 unfold encN encC;rw[if_pos (by omega)];rfl
theorem enc_two{a b:Nat}(h1:192≤a)(h2:a<224)(h3:128≤b)(h4:b≤191)(h5:128≤((a:Int)-192)*64+(b-128)):encN (((a:Int)-192)*64+(b-128))=[a,b]:=by
 unfold encN encC;rw[if_neg (by omega),if_pos (by omega)];simp only[List.map_cons,List.map_nil,List.cons.injEq,and_true];omega
theorem enc_three{a b d:Nat}(h1:224≤a)(h2:a<240)(h3:128≤b)(h4:b≤191)(h5:128≤d)(h6:d≤191)(h7:2048≤(((a:Int)-224)*64+(b-128))*64+(d-128)):encN ((((a:Int)-224)*64+(b-128))*64+(d-128))=[a,b,d]:=by
 unfold encN encC;rw[if_neg (by omega),if_neg (by omega),if_pos (by omega)];simp only[List.map_cons,List.map_nil,List.cons.injEq,and_true];omega
theorem enc_four{a b d e:Nat}(h1:240≤a)(h2:a<248)(h3:128≤b)(h4:b≤191)(h5:128≤d)(h6:d≤191)(h7:128≤e)(h8:e≤191)(h9:65536≤((((a:Int)-240)*64+(b-128))*64+(d-128))*64+(e-128)):encN (((((a:Int)-240)*64+(b-128))*64+(d-128))*64+(e-128))=[a,b,d,e]:=by
 unfold encN encC;rw[if_neg (by omega),if_neg (by omega),if_neg (by omega)];simp only[List.map_cons,List.map_nil,List.cons.injEq,and_true];omega
theorem encN_ne{c:Int}:encN c≠[]:=fun e=>by
 have h1:=(encC_len c).1;have h2:=congrArg List.length e;unfold encN at h2;rw[List.length_map,List.length_nil]at h2;omega
theorem enc_pre{c c':Int}(hw:wholeB c=true)(hw':wholeB c'=true){r r':List Nat}(h:encN c++r=encN c'++r'):c=c'∧r=r':=by
 rcases enc_head hw with⟨_,_,e⟩|⟨_,_,a,b,e,_,_,_,_,hc⟩|⟨_,_,a,b,d,e,_,_,_,_,_,_,hc⟩|⟨_,_,a,b,d,f,e,_,_,_,_,_,_,_,_,hc⟩<;>
  rcases enc_head hw' with⟨_,_,e'⟩|⟨_,_,a',b',e',_,_,_,_,hc'⟩|⟨_,_,a',b',d',e',_,_,_,_,_,_,hc'⟩|⟨_,_,a',b',d',f',e',_,_,_,_,_,_,_,_,hc'⟩<;>
  rw[e,e']at h<;>simp only[List.cons_append,List.nil_append,List.cons.injEq]at h<;>
  first
   |omega
   |(obtain⟨rfl,rfl,rfl,rfl,h⟩:=h;exact⟨by omega,h⟩)
   |(obtain⟨rfl,rfl,rfl,h⟩:=h;exact⟨by omega,h⟩)
   |(obtain⟨rfl,rfl,h⟩:=h;exact⟨by omega,h⟩)
   |(obtain⟨h0,h⟩:=h;exact⟨by omega,h⟩)
theorem encs_pre:∀{l1 l:List Int}{r:List Nat},(∀c∈l1,wholeB c=true)→(∀c∈l,wholeB c=true)→encs l1++r=encs l→∃l2,l=l1++l2∧r=encs l2
 |[],l,r,_,_,h=>⟨l,rfl,h⟩
 |
  c::l1,[],r,_,_,h=>by
  exfalso
  have h1:encN c++(encs l1++r)=[]:=by rw[←List.append_assoc];exact h
  exact encN_ne (List.append_eq_nil_iff.1 h1).1
 |
  c::l1,c'::l,r,h1,h2,h=>by
  have h3:encN c++(encs l1++r)=encN c'++encs l:=by rw[←List.append_assoc];exact h
  obtain⟨rfl,h4⟩:=enc_pre (h1 c (List.mem_cons_self ..)) (h2 c' (List.mem_cons_self ..)) h3;obtain⟨l2,rfl,h5⟩:=encs_pre (fun x hx=>h1 x (List.mem_cons_of_mem _ hx)) (fun x hx=>h2 x (List.mem_cons_of_mem _ hx)) h4;exact⟨l2,rfl,h5⟩
theorem encs_inj{l l':List Int}(h1:∀c∈l,wholeB c=true)(h2:∀c∈l',wholeB c=true)(h:encs l=encs l'):l=l':=by
 obtain⟨l2,e,h3⟩:=encs_pre (r:=[]) h1 h2 (by rw[List.append_nil];exact h);cases l2 with
 |nil=>rw[e,List.append_nil]
 |
  cons c l2=>
  exfalso
  have h4:encN c++encs l2=[]:=h3.symm;exact encN_ne (List.append_eq_nil_iff.1 h4).1
def Dec(s:List Nat)(l:List Int):Prop:=(∀c∈l,wholeB c=true)∧s=encs l
theorem Dec.inj{s:List Nat}{l l':List Int}(h:Dec s l)(h':Dec s l'):l=l':=encs_inj h.1 h'.1 (h.2.symm.trans h'.2)
theorem Dec.nil:Dec [] []:=⟨fun c h=>absurd h List.not_mem_nil,rfl⟩
def Fst1(s:List Nat)(c:Int):Prop:=wholeB c=true∧∃r,s=encN c++r
theorem Dec.more{s1 r:List Nat}{l1:List Int}{c:Int}(h:Dec s1 l1)(hw:wholeB c=true):Dec (s1++encN c) (l1++[c]):=by
 refine⟨fun x hx=>?_,by rw[encs_app,encs_one,h.2]⟩;rcases List.mem_append.1 hx with hx|hx
 ·exact h.1 x hx
 ·rw[List.mem_singleton.1 hx];exact hw
theorem Dec.bad{s1 r:List Nat}{l1:List Int}(h:Dec s1 l1)(hr:r≠[])(hn:∀c,¬Fst1 r c)(l:List Int):¬Dec (s1++r) l:=fun h'=>by
 have h1:=h'.2;rw[h.2]at h1;obtain⟨l2,rfl,h2⟩:=encs_pre h.1 h'.1 h1;cases l2 with
 |nil=>exact hr h2
 |cons c l2=>exact hn c ⟨h'.1 c (by simp),encs l2,h2⟩
end
namespace Sp
def VOk(r:List (Int×Int)):Prop:=(r.length=1∧∀p,r[0]? =some p→p.2≤127)∨(r.length=2∧∀p,r[0]? =some p→192≤p.1∧p.2≤223)∨(r.length=3∧∀p,r[0]? =some p→224≤p.1∧p.2≤239)∨(r.length=4∧∀p,r[0]? =some p→240≤p.1)
theorem leaf_v{lo hi:Int}(h:lo≤hi)(hk:Cls lo hi):VOk (leafC lo hi):=by
 rcases leaf_case h hk with⟨a,b,e⟩|⟨a,b,e⟩|⟨a,b,e⟩|⟨a,b,e⟩<;>rw[e]
 ·exact .inl ⟨rfl,fun p hp=>by injection hp with hp;subst hp;simp only;omega⟩
 ·exact .inr (.inl ⟨rfl,fun p hp=>by injection hp with hp;subst hp;simp only;omega⟩)
 ·exact .inr (.inr (.inl ⟨rfl,fun p hp=>by injection hp with hp;subst hp;simp only;omega⟩))
 ·exact .inr (.inr (.inr ⟨rfl,fun p hp=>by injection hp with hp;subst hp;simp only;omega⟩))
theorem rows_v{lo hi:Int}(h:lo≤hi)(hk:Cls lo hi):∀r∈rowsP lo hi,VOk r:=by
 refine rows_ind (motive:=fun lo hi=>∀r∈rowsP lo hi,VOk r) ?_ ?_ lo hi h hk
 ·intro lo hi c h1 hk hc h2 h3 a b r hr
  rw[rowsP_cut h1 hc,List.mem_append]at hr;exact hr.elim (a r) (b r)
 ·intro lo hi h1 hk hc r hr
  rw[rowsP_leaf hc,List.mem_singleton]at hr;subst hr;exact leaf_v h1 hk
theorem part_v{lo hi x y:Int}(hc:∀a b,x≤a→b≤y→Cls a b):∀r∈part lo hi x y,VOk r:=by
 unfold part;split
 ·intro r hr
  exact rows_v ‹_› (hc _ _ (by omega) (by omega)) r hr
 ·intro r hr;cases hr
theorem all_parts0(lo hi:Int):allP lo hi=part (max lo 0) (min hi 1114111) 0 127++(part (max lo 0) (min hi 1114111) 128 2047++(part (max lo 0) (min hi 1114111) 2048 55295++(part (max lo 0) (min hi 1114111) 57344 65535++part (max lo 0) (min hi 1114111) 65536 1114111))):=by
 unfold allP upto;simp
theorem all_v(lo hi:Int):∀r∈allP lo hi,VOk r:=by
 intro r hr
 rw[all_parts0]at hr;simp only[List.mem_append]at hr;rcases hr with h|h|h|h|h
 ·exact part_v (fun a b h1 h2=>by unfold Cls;omega) r h
 ·exact part_v (fun a b h1 h2=>by unfold Cls;omega) r h
 ·exact part_v (fun a b h1 h2=>by unfold Cls;omega) r h
 ·exact part_v (fun a b h1 h2=>by unfold Cls;omega) r h
 ·exact part_v (fun a b h1 h2=>by unfold Cls;omega) r h
theorem all_one(c:Int):(allP c c).length≤1:=by
 have k:∀c:Int,rowsP c c=[leafC c c]:=fun c=>rowsP_leaf (by
  unfold cutC;simp)
 have p:∀x y:Int,(part (max c 0) (min c 1114111) x y).length=if x≤c∧c≤y∧0≤c∧c≤1114111 then 1 else 0:=fun x y=>by
  unfold part;split
  ·rename_i h
   rw[show max (max c 0) x=c by omega,show min (min c 1114111) y=c by omega,k,if_pos (by omega)];rfl
  ·rw[if_neg (by omega)];rfl
 rw[all_parts0];simp only[List.length_append,p];repeat' split
 all_goals omega
end Sp
section
open Sp
def szN(b:Nat):Nat:=if b<192 then 1 else if b<224 then 2 else if b<240 then 3 else 4
def Seg(u:List Nat):Prop:=∃b t,u=b::t∧(b::t).length=szN b
def Prt(u:List Nat):Prop:=∃b t,u=b::t∧(b::t).length<szN b
theorem vok_sz{r:List (Int×Int)}(h:VOk r){p:Int×Int}{b:Nat}(hp:r[0]? =some p)(h1:p.1≤(b:Int))(h2:(b:Int)≤p.2):r.length=szN b:=by
 unfold szN;rcases h with⟨e,k⟩|⟨e,k⟩|⟨e,k⟩|⟨e,k⟩<;>have:=k p hp<;>rw[e]
 ·rw[if_pos (by omega)]
 ·rw[if_neg (by omega),if_pos (by omega)]
 ·rw[if_neg (by omega),if_neg (by omega),if_pos (by omega)]
 ·rw[if_neg (by omega),if_neg (by omega),if_neg (by omega)]
theorem fit_seg{lo hi:Int}{r:List (Int×Int)}(hr:r∈allP lo hi){u:List Nat}(hf:fitN r u):Seg u:=by
 have hl:=fitN_len hf;cases r with
 |nil=>exact absurd rfl (all_ne lo hi _ hr)
 |
  cons p r=>
  cases u with
  |nil=>exact hf.elim
  |cons b t=>exact⟨b,t,rfl,by rw[←hl];exact vok_sz (all_v lo hi _ hr) (p:=p) rfl hf.1 hf.2.1⟩
theorem enc_seg{c:Int}(hw:wholeB c=true):Seg (encN c):=by
 rcases enc_head hw with⟨_,_,e⟩|⟨_,_,a,b,e,_⟩|⟨_,_,a,b,d,e,_⟩|⟨_,_,a,b,d,f,e,_⟩<;>rw[e]<;>refine⟨_,_,rfl,?_⟩<;>unfold szN
 ·rw[if_pos (by omega)];rfl
 ·rw[if_neg (by omega),if_pos (by omega)];rfl
 ·rw[if_neg (by omega),if_neg (by omega),if_pos (by omega)];rfl
 ·rw[if_neg (by omega),if_neg (by omega),if_neg (by omega)];rfl
theorem mid_prt{lo hi:Int}{u:List Nat}{y:Nat}:∀{rs':List (List (Int×Int))}{N:Nat},(∀r∈rs',r∈allP lo hi)→midsP N rs' u y→Prt u
 |[],_,_,h=>h.elim
 |
  r::rs',N,hs,h=>by
  rcases h with⟨h1,h2,_,h4⟩|h
  ·have hrm:=hs r (List.mem_cons_self ..);cases u with
   |nil=>simp at h1
   |
    cons b t=>
    cases r with
    |nil=>simp at h2
    |
     cons p r=>
     have h5:fitN (p::r.take t.length) (b::t):=h4;refine⟨b,t,rfl,?_⟩;rw[←vok_sz (all_v lo hi _ hrm) (p:=p) (b:=b) rfl h5.1 h5.2.1];exact h2
  ·exact mid_prt (fun r h=>hs r (List.mem_cons_of_mem _ h)) h
theorem seg_eq{u v a b:List Nat}(hu:Seg u)(hv:Seg v)(h:u++a=v++b):u=v∧a=b:=by
 obtain⟨x,t,rfl,h1⟩:=hu;obtain⟨y,s,rfl,h2⟩:=hv;have e:x=y:=by
  simp only[List.cons_append]at h;injection h
 subst e;exact List.append_inj h (h1.trans h2.symm)
theorem seg_prt{u a v:List Nat}(hu:Seg u)(hv:Prt v)(h:u++a=v):False:=by
 obtain⟨x,t,rfl,h1⟩:=hu;obtain⟨y,s,rfl,h2⟩:=hv;have e:x=y:=by
  simp only[List.cons_append]at h;injection h
 subst e;have:=congrArg List.length h;rw[List.length_append]at this;omega
theorem seg_ne{u:List Nat}(h:Seg u):u≠[]:=by
 obtain⟨b,t,rfl,_⟩:=h;simp
theorem prt_ne{u:List Nat}(h:Prt u):u≠[]:=by
 obtain⟨b,t,rfl,_⟩:=h;simp
abbrev Rowss:=List (List (List (Int×Int)))
def Sg:Rowss→List Nat→Prop
 |[],t=>t=[]
 |rs::rss,t=>∃u v,t=u++v∧(∃r∈rs,fitN r u)∧Sg rss v
def OkR(rss:Rowss):Prop:=∀rs∈rss,∃lo hi,rs=allP lo hi
theorem OkR.head{rs:List (List (Int×Int))}{rss:Rowss}(h:OkR (rs::rss)):∃lo hi,rs=allP lo hi:=h rs (List.mem_cons_self ..)
theorem OkR.tail{rs:List (List (Int×Int))}{rss:Rowss}(h:OkR (rs::rss)):OkR rss:=fun x hx=>h x (List.mem_cons_of_mem _ hx)
theorem OkR.seg{rs:List (List (Int×Int))}{rss:Rowss}(h:OkR (rs::rss)){u:List Nat}(hf:∃r∈rs,fitN r u):Seg u:=by
 obtain⟨lo,hi,rfl⟩:=h.head;obtain⟨r,hr,hf⟩:=hf;exact fit_seg hr hf
theorem at_one:∀{rss:Rowss},OkR rss→∀{k k':Nat}{a b u v:List Nat},k≤rss.length→k'≤rss.length→Sg (rss.take k) a→Sg (rss.take k') b→(u=[]∨Prt u)→(v=[]∨Prt v)→a++u=b++v→k=k'∧a=b∧u=v
 |
  [],_,k,k',a,b,u,v,hk,hk',ha,hb,_,_,h=>by
  rw[List.take_nil]at ha hb;have ha:a=[]:=ha;have hb:b=[]:=hb;subst ha hb;simp only[List.length_nil]at hk hk';exact⟨by omega,rfl,h⟩
 |
  rs::rss,hr,0,0,a,b,u,v,_,_,ha,hb,_,_,h=>by
  have ha:a=[]:=ha;have hb:b=[]:=hb;subst ha hb;exact⟨rfl,rfl,h⟩
 |
  rs::rss,hr,0,k'+1,a,b,u,v,_,_,ha,hb,hu,_,h=>by
  have ha:a=[]:=ha;subst ha;obtain⟨x,y,rfl,hx,_⟩:=hb;have hs:=hr.seg hx;rcases hu with rfl|hu
  ·exfalso
   rw[List.append_assoc]at h;exact seg_ne hs (List.append_eq_nil_iff.1 h.symm).1
  ·exfalso
   rw[List.append_assoc]at h;exact seg_prt hs hu h.symm
 |
  rs::rss,hr,k+1,0,a,b,u,v,_,_,ha,hb,_,hv,h=>by
  have hb:b=[]:=hb;subst hb;obtain⟨x,y,rfl,hx,_⟩:=ha;have hs:=hr.seg hx;rcases hv with rfl|hv
  ·exfalso
   rw[List.append_assoc]at h;exact seg_ne hs (List.append_eq_nil_iff.1 h).1
  ·exfalso
   rw[List.append_assoc]at h;exact seg_prt hs hv h
 |
  rs::rss,hr,k+1,k'+1,a,b,u,v,hk,hk',ha,hb,hu,hv,h=>by
  obtain⟨x,y,rfl,hx,hy⟩:=ha;obtain⟨x',y',rfl,hx',hy'⟩:=hb;rw[List.append_assoc,List.append_assoc]at h;obtain⟨rfl,h2⟩:=seg_eq (hr.seg hx) (hr.seg hx') h;obtain⟨rfl,rfl,rfl⟩:=at_one hr.tail (by simpa using hk) (by simpa using hk') hy hy' hu hv h2;exact⟨rfl,rfl,rfl⟩
theorem at_end:∀{rss:Rowss},OkR rss→∀{k:Nat}{a b u v:List Nat},k<rss.length→Sg (rss.take k) a→(u=[]∨Prt u)→Sg rss b→a++u=b++v→False
 |[],_,k,_,_,_,_,hk,_,_,_,_=>by simp at hk
 |
  rs::rss,hr,0,a,b,u,v,_,ha,hu,hb,h=>by
  have ha:a=[]:=ha;subst ha;obtain⟨x,y,rfl,hx,_⟩:=hb;have hs:=hr.seg hx;rw[List.append_assoc]at h;rcases hu with rfl|hu
  ·exact seg_ne hs (List.append_eq_nil_iff.1 h.symm).1
  ·exact seg_prt hs hu h.symm
 |
  rs::rss,hr,k+1,a,b,u,v,hk,ha,hu,hb,h=>by
  obtain⟨x,y,rfl,hx,hy⟩:=ha;obtain⟨x',y',rfl,hx',hy'⟩:=hb;rw[List.append_assoc,List.append_assoc]at h;obtain⟨rfl,h2⟩:=seg_eq (hr.seg hx) (hr.seg hx') h;exact at_end hr.tail (by simpa using hk) hy hu hy' h2
def rowsOf(q:List (Int×Int)):Rowss:=q.map fun p=>allP p.1 p.2
theorem rowsOf_ok(q:List (Int×Int)):OkR (rowsOf q):=fun rs h=>by
 obtain⟨p,_,rfl⟩:=List.mem_map.1 h;exact⟨_,_,rfl⟩
def fitQ:List (Int×Int)→List Int→Prop
 |[],_=>True
 |p::q,c::l=>p.1≤c∧c≤p.2∧fitQ q l
 |_,_=>False
theorem sg_all:∀(q:List (Int×Int)){l:List Int},(∀c∈l,wholeB c=true)→(Sg (rowsOf q) (encs l)↔l.length=q.length∧fitQ q l)
 |[],[],_=>⟨fun _=>⟨rfl,trivial⟩,fun _=>rfl⟩
 |
  [],c::l,hw=>by
  constructor
  ·intro h
   have h:encN c++encs l=[]:=h;exact absurd (List.append_eq_nil_iff.1 h).1 (seg_ne (enc_seg (hw c (List.mem_cons_self ..))))
  ·rintro⟨h,_⟩;simp at h
 |
  p::q,[],_=>by
  refine⟨?_,fun h=>h.2.elim⟩;rintro⟨x,y,h,hx,_⟩;exact absurd (List.append_eq_nil_iff.1 h.symm).1 (seg_ne ((rowsOf_ok (p::q)).seg hx))
 |
  p::q,c::l,hw=>by
  have hc:=hw c (List.mem_cons_self ..);have hl:=fun d hd=>hw d (List.mem_cons_of_mem c hd)
  have e:encs (c::l)=encN c++encs l:=rfl;have hf:(∃r∈allP p.1 p.2,fitN r (encN c))↔p.1≤c∧c≤p.2:=all_fits hc;have ih:=sg_all q hl;rw[e];constructor
  ·rintro⟨x,y,h,hx,hy⟩;obtain⟨rfl,rfl⟩:=seg_eq (enc_seg hc) ((rowsOf_ok (p::q)).seg hx) h;obtain⟨h1,h2⟩:=ih.1 hy;obtain⟨h3,h4⟩:=hf.1 hx;exact⟨by rw[List.length_cons,List.length_cons,h1],h3,h4,h2⟩
  ·rintro⟨h1,h2,h3,h4⟩;exact⟨encN c,encs l,rfl,hf.2 ⟨h2,h3⟩,ih.2 ⟨by simpa using h1,h4⟩⟩
end
end Go.Proofs.YtaociahafamncaaGreatDoor
