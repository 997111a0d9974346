/- Folded. -/
import Derived.Test.YtaociahafamncaaGreatDoorHW23
set_option maxRecDepth 100000
set_option maxHeartbeats 40000000
set_option linter.unusedVariables false
namespace Go.Proofs.YtaociahafamncaaGreatDoor
section
open Go.RowKit Go.Maps
def ons(L:List Bool):Nat:=(L.filter id).length
theorem ons_set{L:List Bool}{i:Nat}(h:L[i]? =some true):ons (L.set i false)+1=ons L:=by
 unfold ons;induction L generalizing i with
 |nil=>simp at h
 |
  cons b r ih=>
  cases i with
  |
   zero=>
   simp at h
   subst h;simp
  |
   succ i=>
   simp at h
   have:=ih h;simp only[List.set_cons_succ];cases b<;>simp<;>omega
end
section
open Go.RowKit Go.Maps
theorem wdead_k(w W0:World)(B:Nat)(hB:B≤w.heap.size)(A:Option Addr)(n c:Nat)(H:List Sh)(HS:Hid (StsIn w B A n c H))(d:List St)(HD:Hid (H.map (·.d)=d))(HG:Hid (Good d))(hlen:H.length=n)(hcm:n≤20000)(i:Nat)(hi:i<n)(x:Sh)(HX:Hid (H[i]? =some x))(m:Nat)(HM:Hid (x.d.2.length=m))
  (ob oc gk:Nat) (L:List Bool) (more:Bool) (HR0:Hid (SpR w W0 ob oc n L)) (HP0:Hid (DdP d L∧(more=false→DdTo d L i 0)∧2*ons L+(if more then 1 else 0)+1≤gk))
  (c0 c1 c2 c4 c7 c9 c10 c11 c12 c13 c14 c15 c16 c17 c18 c19 c20 c21 c22 c23 c24 c25 c26 c27 c28 c29 c30 c31 c32 c33 c34 c35 c36 c59 c60 u8 u40 u41 u42 u43 u44 u45 u46 u47 u48 u49 u50 u51 u52 u53 u54 u55 u56 u57 u58:Value) (Q0:Exit→Act→World→Prop) (hQ0:∀c (a a':Act) w,a.defers=a'.defers→Q0 (.panic c) a w→Q0 (.panic c) a' w)
  (hexit:∀(L:List Bool) (more:Bool) (W:World) (x39 u8 u40 u41 u42 u43 u44 u45 u46 u47 u48 u49 u50 u51 u52 u53 u54 u55 u56 u57 u58:Value),Hid (SpR w W ob oc n L)→Hid (DdP d L∧(more=false→DdTo d L (i+1) 0)∧2*ons L+(if more then 1 else 0)+1≤gk)→Q0 (.exit 6) ⟨List.toArray (c0::c1::c2::.slice (some ⟨ob,0,none⟩) n oc::c4::.bool more::.int .i64 (i:Int)::c7::u8::c9::c10::c11::c12::c13::c14::c15::c16::c17::c18::c19::c20::c21::c22::c23::c24::c25::c26::c27::c28::c29::c30::c31::c32::c33::c34::c35::c36::.slice x.A m x.c::.int .i64 (m:Int)::x39::u40::u41::u42::u43::u44::u45::u46::u47::u48::u49::u50::u51::u52::u53::u54::u55::u56::u57::u58::c59::c60::[]),[]⟩ W):
  Code.wp Tryz.prog (.loop (loopOf Tryz.f28 3)) Q0 ⟨List.toArray (c0::c1::c2::.slice (some ⟨ob,0,none⟩) n oc::c4::.bool more::.int .i64 (i:Int)::c7::u8::c9::c10::c11::c12::c13::c14::c15::c16::c17::c18::c19::c20::c21::c22::c23::c24::c25::c26::c27::c28::c29::c30::c31::c32::c33::c34::c35::c36::.slice x.A m x.c::.int .i64 (m:Int)::.int .i64 (0:Int)::u40::u41::u42::u43::u44::u45::u46::u47::u48::u49::u50::u51::u52::u53::u54::u55::u56::u57::u58::c59::c60::[]),[]⟩ W0:=by
 have HXM:=Lib.hid (List.mem_of_getElem? HX.out);have hmf:=(HS.out.ar x HXM.out).2;rw[HM.out]at hmf;obtain⟨hqc,hq20⟩:=hmf;have HXL:Hid (d[i]? =some x.d):=by show _=_;rw[←HD.out,List.getElem?_map,HX.out];rfl
 have hll:d.length=n:=by rw[←HD.out,List.length_map];exact hlen
 have HLL:=Lib.hid hll;clear hll;conv=>arg 2;arg 1;whnf
 go_loopw [5,39] (fun mv kv wr=>∃(k:Nat) (L:List Bool) (more:Bool),k≤m∧mv=.bool more∧kv=.int .i64 k∧Hid (SpR w wr ob oc n L)∧Hid (DdP d L∧(more=false→DdTo d L i k)∧2*ons L+(if more then 1 else 0)+1≤gk)) (fun _ kv _=>m-(intOf kv).toNat)
 case atStart=>exact⟨0,L,more,Nat.zero_le _,rfl,rfl,HR0,HP0⟩
 case round=>
  clear HR0 HP0;obtain⟨k,L,more,hk,rfl,rfl,HR,HP⟩:=hrel;have HW:=Lib.hid (HS.out.keep (HR.out.bel.mono hB) (Nat.le_refl _));have hbs:=HR.out.bel.size;have hLn:=HR.out.len;obtain⟨bi,hbi⟩:∃bi,L[i]? =some bi:=⟨L[i]'(by omega),List.getElem?_eq_getElem _⟩;have o0:=HR.out.get hbi;have hoc:=HR.out.cap;obtain⟨_,how,_⟩:=own_blk HR.out.own;have HBI:=Lib.hid hbi;have hi2:(i:Int)<(n:Int):=by omega
  clear hbi;by_cases hkm:k<m
  ·have hkm2:(k:Int)<(m:Int):=by omega
   have q0:decide ((k:Int)<(m:Int))=true:=decide_eq_true hkm2;have q01:decide (k<m)=true:=decide_eq_true hkm;obtain⟨fb,fo,hF,hfb,hfc⟩:=HW.out.arc HXM.out (by rw[HM.out];omega);obtain⟨⟨lo,hi',tt⟩,hz⟩:∃z,x.d.2[k]? =some z:=⟨x.d.2[k]'(by rw[HM.out];exact hkm),List.getElem?_eq_getElem _⟩;obtain⟨f0,f1,f2⟩:=hfc k _ hz;simp only at f0 f1 f2;have hzb:=HG.out.to_ x.d (List.mem_of_getElem? HXL.out) _ (List.mem_of_getElem? hz);rw[HLL.out]at hzb;simp only at hzb;obtain⟨t,rfl⟩:=Int.eq_ofNat_of_zero_le hzb.1;have ht:t<n:=by omega
   have ht2:(t:Int)<(n:Int):=by omega
   have hfw:fb<wr.heap.size:=by omega
   obtain⟨bt,hbt⟩:∃bi,L[t]? =some bi:=⟨L[t]'(by omega),List.getElem?_eq_getElem _⟩;have o1:=HR.out.get hbt;have HZ:=Lib.hid hz;have HBT:=Lib.hid hbt;have HF:=Lib.hid hF;rw[hF];have HRA:=Lib.hid (HR.out.keep (bnew (brefl wr) (.cells #[.int .i64 lo,.int .i64 hi',.int .i64 (t:Int)] 76)));clear hfc hz hbt hzb hF;cases bi
   ·have HPN:Hid (DdP d L∧(more=false→DdTo d L i (k+1))∧2*ons L+(if more then 1 else 0)+1≤gk):=⟨HP.out.1,fun h=>⟨(HP.out.2.1 h).1,fun s hs hb=>(by have h1:=HBI.out;rw[h1]at hb;cases hb)⟩,HP.out.2.2⟩;clear HP HR;go_wp2_with fail;go_roundw;case rel=>exact⟨k+1,L,more,by omega,rfl,by go_num,HRA,HPN⟩
    case measure=>simp[intOf];omega
   ·cases bt
    ·have HS1:=Lib.hid (HR.out.set i false);have hfz:=HS1.out.2.1;have HPN:Hid (DdP d (L.set i false)∧(true=false→DdTo d (L.set i false) i (k+1))∧2*ons (L.set i false)+(if true then 1 else 0)+1≤gk):=⟨HP.out.1.set HG.out HXL.out (List.mem_of_getElem? HZ.out) (by rw[show((lo,hi',(t:Int)):Arc3).2.2=(t:Int) from rfl,Int.toNat_natCast];exact HBT.out),(fun h=>by cases h),by
      have h1:=ons_set HBI.out;have h2:=HP.out.2.2;rw[if_pos rfl];omega⟩
     have HRN:=Lib.hid (HS1.out.1.keep (bnew (brefl _) (.cells #[.int .i64 lo,.int .i64 hi',.int .i64 (t:Int)] 76)));clear HS1 HR HP HRA;go_wp2_with fail;go_roundw;case rel=>exact⟨k+1,L.set i false,true,by omega,rfl,by go_num,HRN,HPN⟩
     case measure=>simp[intOf];omega
    ·have HPN:Hid (DdP d L∧(more=false→DdTo d L i (k+1))∧2*ons L+(if more then 1 else 0)+1≤gk):=⟨HP.out.1,fun h=>(HP.out.2.1 h).one HXL.out HZ.out (by rw[show((lo,hi',(t:Int)):Arc3).2.2=(t:Int) from rfl,Int.toNat_natCast];exact HBT.out),HP.out.2.2⟩;clear HP HR;go_wp2_with fail;go_roundw;case rel=>exact⟨k+1,L,more,by omega,rfl,by go_num,HRA,HPN⟩
     case measure=>simp[intOf];omega
  ·obtain rfl:k=m:=by omega
   have q0:decide ((k:Int)<(k:Int))=false:=decide_eq_false (by omega);have HPN:Hid (DdP d L∧(more=false→DdTo d L (i+1) 0)∧2*ons L+(if more then 1 else 0)+1≤gk):=⟨HP.out.1,fun h=>(HP.out.2.1 h).next fun s hs _=>(by
    have h1:=HXL.out;rw[hs]at h1;injection h1 with h1
    rw[h1,HM.out];exact Nat.le_refl _),HP.out.2.2⟩
   go_wp2_with fail;exact hexit L more wr _ _ _ _ _ _ _ _ _ _ _ _ _ _ _ _ _ _ _ _ _ HR HPN
end
section
theorem acc_live{σ:Type}(M:Au σ):∀(s:List Nat) (x:σ),(⟨M.fin,M.stepL⟩:Au σ).acc x s=M.acc x s
 |[],x=>rfl
 |
  c::r,x=>by
  rw[Au.acc,Au.acc];by_cases hc:c<256
  ·rw[if_pos hc,if_pos hc];show(match M.stepL x c with|some y=>_|none=>_)=_;unfold Au.stepL;cases hx:M.step x c with
   |none=>rfl
   |
    some y=>
    simp only
    by_cases hl:M.live y
    ·rw[if_pos hl];exact acc_live M r y
    ·rw[if_neg hl];simp only
     cases ha:M.acc y r with
     |false=>rfl
     |true=>exact absurd ⟨r,ha⟩ hl
  ·rw[if_neg hc,if_neg hc]
open Classical in
theorem LeastIs.leq{σ:Type}{M:Au σ}{x:σ}{out:List St}(h:LeastIs M x out):Leq (auOf out) 0 M x:=by
 rcases h with⟨hl,r,hr,f,hf,rfl⟩|⟨hl,rfl⟩
 ·intro s
  have hrefl:∀y,(leastW M r).eqv ((leastW M r).rep y) y=true:=fun y=>decide_eq_true (hr y)
  have hh:=run_head (leastW M r) x f;have:=out_leq (leastW M r) M.fin (met:=(leastW M r).run f 0 [x]) (fun z y hzy=>fun s=>by
   have hzy:Leq M z M y:=of_decide_eq_true hzy;exact(acc_live M s z).trans ((hzy s).trans (acc_live M s y).symm)) (fun y hy=>by
   obtain⟨j,hj⟩:=List.mem_iff_getElem?.1 hy;have h1:=(List.getElem?_eq_some_iff.1 hj).1;have h2:=List.getElem?_eq_none_iff.1 hf;exact Bfs.run_met _ hrefl x f j y (by omega) hj) s 0 x hh
  exact this.trans (acc_live M s x)
 ·intro s
  have:M.acc x s=false:=by
   cases ha:M.acc x s with
   |false=>rfl
   |true=>exact absurd ⟨s,ha⟩ hl
  rw[this];cases s with
  |nil=>rfl
  |
   cons c r=>
   rw[Au.acc];split
   ·rfl
   ·rfl
theorem LeastIs.ne{σ:Type}{M:Au σ}{x:σ}{out:List St}(h:LeastIs M x out):0<out.length:=by
 rcases h with⟨hl,r,hr,f,hf,rfl⟩|⟨hl,rfl⟩
 ·have hh:=(List.getElem?_eq_some_iff.1 (run_head (leastW M r) x f)).1;unfold leastOf Bfs.out;rw[List.length_map];exact hh
 ·exact Nat.zero_lt_one
theorem LeastIs.good{σ:Type}{M:Au σ}{x:σ}{out:List St}(h:LeastIs M x out)(hl:out.length≤20000):Good out:=by
 have hn:=h.ne;rcases h with⟨_,r,hr,f,hf,rfl⟩|⟨_,rfl⟩
 ·have hh:=(List.getElem?_eq_some_iff.1 (run_head (leastW M r) x f)).1;refine out_good _ _ (fun e=>?_) (by unfold leastOf Bfs.out at hl;rwa[List.length_map]at hl);rw[e]at hh;cases hh
 ·exact(good_iff _).1 (by decide)
end
section
def toG(d:List St)(L:List Bool)(i c:Nat):Option Nat:=match(auOf d).step i c with
 |some y=>if L[y]? =some true then none else some y
 |none=>none
def Gone(d:List St)(L:List Bool):Prop:=L.length=d.length∧∀i:Nat,i<d.length→(L[i]? =some true↔¬(auOf d).live i)
theorem toG_stepL{d:List St}(hg:Good d){L:List Bool}(h:Gone d L){i:Nat}(hi:i<d.length)(c:Nat):toG d L i c=(auOf d).stepL i c:=by
 unfold toG Au.stepL;cases hs:(auOf d).step i c with
 |none=>rfl
 |
  some y=>
  have hy:=hg.within i hi c y hs;simp only
  by_cases hl:(auOf d).live y
  ·rw[if_pos hl,if_neg fun e=>(h.2 y hy).1 e hl]
  ·rw[if_neg hl,if_pos ((h.2 y hy).2 hl)]
def cellF(F:List (List Bool))(i k:Nat):Option Bool:=(F[i]?).bind fun r=>r[k]?
def unl(d:List St)(L:List Bool)(F:List (List Bool))(i k c:Nat):Bool:=match toG d L i c,toG d L k c with
 |none,none=>false
 |some x,some y=>(cellF F x y).getD true
 |_,_=>true
def unlB(d:List St)(L:List Bool)(F:List (List Bool))(i k:Nat):Bool:=(List.range 256).any (unl d L F i k)
structure ApP(d:List St)(F:List (List Bool)):Prop where
 len:F.length=d.length
 row:∀r∈F,r.length=d.length
 sound:∀i k,cellF F i k=some true→∃t,(auOf d).acc i t≠(auOf d).acc k t
 base:∀i k,i<d.length→k<d.length→(auOf d).fin i≠(auOf d).fin k→cellF F i k=some true
theorem cell_some{d:List St}{F:List (List Bool)}(h:ApP d F){i k:Nat}(hi:i<d.length)(hk:k<d.length):∃b,cellF F i k=some b:=by
 unfold cellF;have h1:i<F.length:=by rw[h.len];exact hi
 rw[List.getElem?_eq_getElem h1];have h2:=h.row F[i] (List.getElem_mem h1);exact⟨F[i][k]'(by omega),List.getElem?_eq_getElem _⟩
theorem ApP.done{d:List St}(hg:Good d){L:List Bool}(hL:Gone d L){F:List (List Bool)}(h:ApP d F)(hc:∀i k,i<d.length→k<d.length→cellF F i k=some false→unlB d L F i k=false):∀(t:List Nat) (i k:Nat),i<d.length→k<d.length→cellF F i k=some false→(auOf d).acc i t=(auOf d).acc k t
 |
  [],i,k,hi,hk,hf=>by
  show(auOf d).fin i=(auOf d).fin k;by_cases e:(auOf d).fin i=(auOf d).fin k
  ·exact e
  ·have:=h.base i k hi hk e;rw[hf]at this;cases this
 |
  c::t,i,k,hi,hk,hf=>by
  rw[←acc_live (auOf d) (c::t) i,←acc_live (auOf d) (c::t) k,Au.acc,Au.acc];by_cases hc256:c<256
  ·rw[if_pos hc256,if_pos hc256];have hu:=hc i k hi hk hf;unfold unlB at hu;have hu:=List.any_eq_false.1 hu c (List.mem_range.2 hc256);unfold unl at hu;rw[toG_stepL hg hL hi,toG_stepL hg hL hk]at hu;have lt:∀(j y:Nat),j<d.length→(auOf d).stepL j c=some y→y<d.length:=fun j y hj hy=>by
    unfold Au.stepL at hy;split at hy
    ·rename_i z hz
     split at hy
     ·injection hy with hy
      rw[←hy];exact hg.within j hj c z hz
     ·cases hy
    ·cases hy
   rw[show(⟨(auOf d).fin,(auOf d).stepL⟩:Au Nat).step i c=(auOf d).stepL i c from rfl,show(⟨(auOf d).fin,(auOf d).stepL⟩:Au Nat).step k c=(auOf d).stepL k c from rfl];cases hx:(auOf d).stepL i c with
   |
    none=>
    cases hy:(auOf d).stepL k c with
    |none=>rfl
    |some y=>rw[hx,hy]at hu;exact absurd rfl hu
   |
    some x=>
    cases hy:(auOf d).stepL k c with
    |none=>rw[hx,hy]at hu;exact absurd rfl hu
    |
     some y=>
     rw[hx,hy]at hu;obtain⟨b,hb⟩:=cell_some h (lt i x hi hx) (lt k y hk hy);simp only[hb,Option.getD_some]at hu;have hb2:cellF F x y=some false:=by rw[hb];cases b with|false=>rfl|true=>exact absurd rfl hu
     have h3:=h.done hg hL hc t x y (lt i x hi hx) (lt k y hk hy) hb2;show(⟨(auOf d).fin,(auOf d).stepL⟩:Au Nat).acc x t=(⟨(auOf d).fin,(auOf d).stepL⟩:Au Nat).acc y t;rw[acc_live,acc_live];exact h3
  ·rw[if_neg hc256,if_neg hc256]
end
section
open Go.RowKit Go.Maps
theorem ddp_start{d:List St}:DdP d (d.map fun s=> !s.1):=by
 refine⟨List.length_map ..,fun i hi=>⟨[],?_⟩,fun i s hs hf=>?_⟩
 ·rw[List.getElem?_map]at hi;obtain⟨s,hs,hf⟩:=Option.map_eq_some_iff.1 hi;show((d[i]?).map (·.1)).getD false=true;rw[hs];show s.1=true;simpa using hf
 ·rw[List.getElem?_map,hs];show some (!s.1)=_;rw[hf];rfl
theorem ddp_gone{d:List St}{L:List Bool}(h:DdP d L)(hc:DdTo d L d.length 0):Gone d L:=by
 refine⟨h.len,fun i hi=>⟨fun h1 ⟨t,ht⟩=>?_,fun h1=>?_⟩⟩
 ·rw[h.done hc t i h1]at ht;cases ht
 ·obtain⟨b,hb⟩:∃b,L[i]? =some b:=⟨L[i]'(by rw[h.len];exact hi),List.getElem?_eq_getElem _⟩;cases b with
  |true=>exact hb
  |false=>exact absurd (h.live i hb) h1
end
section
open Go.RowKit Go.Maps
theorem wdead_any(w:World)(B:Nat)(hB:B≤w.heap.size)(A:Option Addr)(n c:Nat)(H:List Sh)(h:StsIn w B A n c H)(hg:Good (H.map (·.d))):
  Calls Tryz.prog 28 #[.slice A n c] w fun e w'=>∃ob oc L,e=.returned (.slice (some ⟨ob,0,none⟩) n oc)∧SpR w w' ob oc n L∧Gone (H.map (·.d)) L:=by
 have HS:=Lib.hid h;have hlen:=h.len;obtain⟨d,hd⟩:∃d,H.map (·.d)=d:=⟨_,rfl⟩;have HD:=Lib.hid hd;have hll:d.length=n:=by rw[←hd,List.length_map];exact hlen
 have HLL:=Lib.hid hll;have hnp:0<n:=by rw[←hll,←hd];exact List.length_pos_iff.2 hg.ne
 rw[hd]at hg⊢;have HG:=Lib.hid hg;have hcm:n≤20000:=by rw[←hll];exact hg.few
 have hmk:=make_bool n (by omega);have HR1:Hid (SpR w (w.alloc (.cells (madeCells #[.bool false] n) 4)) w.heap.size n n (List.replicate n false)):=⟨by
  have h1:=own_made w (.bool false) n (by omega) 4 rfl (Nat.le_refl w.heap.size);rw[List.map_replicate];exact h1,bnew (brefl w) _⟩
 clear h hg hd hll;go_enter Tryz.func28,Tryz.ntmps28
 go_wp2_with fail;generalize w.alloc (.cells (madeCells #[.bool false] n) 4)=w1 at*;obtain⟨ob,hob⟩:∃k,w.heap.size=k:=⟨_,rfl⟩;have HR2:Hid (SpR w w1 ob n n ((d.take 0).map (fun s=> !s.1)++List.replicate (n-0) false)):=by rw[←hob];exact HR1.out
 rw[hob];clear HR1 hmk hob;go_loopw [14] (fun iv wr=>∃i:Nat,i≤n∧iv=.int .i64 i∧Hid (SpR w wr ob n n ((d.take i).map (fun s=> !s.1)++List.replicate (n-i) false))) (fun iv _=>n-(intOf iv).toNat)
 case atStart=>exact⟨0,Nat.zero_le _,rfl,HR2⟩
 case round=>
  clear HR2;obtain⟨i,hi,rfl,HR⟩:=hrel;by_cases hin:i<n
  ·obtain⟨x,hx⟩:∃x,H[i]? =some x:=⟨H[i]'(by omega),List.getElem?_eq_getElem _⟩;obtain⟨b,off,rfl,hb,hcell⟩:=(HS.out.keep (HR.out.bel.mono hB) (Nat.le_refl _)).at_ (by omega);obtain⟨k0,_⟩:=hcell i x hx;have hbs:=HR.out.bel.size;have hbw:b<wr.heap.size:=by omega
   have hi2:(i:Int)<(n:Int):=by omega
   have hdx:d[i]? =some x.d:=by rw[←HD.out,List.getElem?_map,hx];rfl
   have htl:((d.take i).map (fun s=> !s.1)).length=i:=by rw[List.length_map,List.length_take,HLL.out];omega
   have o0:=HR.out.get (t:=i) (b:=false) (by
    rw[List.getElem?_append_right (by omega),htl,Nat.sub_self,List.getElem?_replicate,if_pos (by omega)])
   have HS1:=Lib.hid (HR.out.set i (!x.d.1));have hfz:=HS1.out.2.1;have how:=HS1.out.2.2;have HRN:Hid (SpR w (wr.setCell ⟨ob,i,none⟩ (.bool (!x.d.1))) ob n n ((d.take (i+1)).map (fun s=> !s.1)++List.replicate (n-(i+1)) false)):=by
    have h1:=HS1.out.1;have h2:((d.take i).map (fun s=> !s.1)++List.replicate (n-i) false).set i (!x.d.1)=(d.take (i+1)).map (fun s=> !s.1)++List.replicate (n-(i+1)) false:=by
     rw[List.set_append_right _ _ (by omega),htl,Nat.sub_self,List.take_add_one,hdx,show n-i=(n-(i+1))+1 by omega,List.replicate_succ];simp
    rw[h2]at h1;exact h1
   obtain⟨fx,hfx⟩:∃f,x.d.1=f:=⟨_,rfl⟩;rw[hfx]at k0 HRN;clear hcell hx hdx htl HS1 HR hfx;cases fx
   all_goals
    go_wp2_with fail;go_roundw;case rel=>exact⟨i+1,by omega,by go_num,HRN⟩
    case measure=>simp[intOf];omega
  ·obtain rfl:i=n:=by omega
   have HR1:Hid (SpR w wr ob i i (d.map fun s=> !s.1)):=by
    have h1:=HR.out;rw[←HLL.out,Nat.sub_self,List.take_length,List.replicate_zero,List.append_nil]at h1;rw[←HLL.out];exact h1
   have HP1:Hid (DdP d (d.map fun s=> !s.1)∧(true=false→DdTo d (d.map fun s=> !s.1) d.length 0)):=⟨ddp_start,fun h=>by cases h⟩;clear HR;generalize hL0:(d.map fun s=> !s.1)=L0 at HR1 HP1;clear hL0;go_wp2_with fail;go_loopg [5] (2*ons L0+1) (fun gk mv wr=>∃(L:List Bool) (more:Bool),mv=.bool more∧Hid (SpR w wr ob i i L)∧Hid (DdP d L∧(more=false→DdTo d L d.length 0))∧Hid (2*ons L+(if more then 1 else 0)≤gk))
   case atStart=>exact⟨L0,true,rfl,HR1,⟨HP1.out.1,fun h=>by cases h⟩,Nat.le_refl _⟩
   case round=>
    clear HR1 HP1;obtain⟨L,more,rfl,HR,HP,HK⟩:=hrel;cases more
    ·have HE:=Lib.hid (ddp_gone HP.out.1 (HP.out.2 rfl));clear HP HK;go_wp2_with fail;go_ret;exact⟨_,_,L,rfl,HR.out,HE.out⟩
    ·have HP2:Hid (DdP d L∧DdTo d L 0 0∧2*ons L+0+1≤gk):=⟨HP.out.1,.zero _ _,HK.out⟩;clear HP HK;go_wp2_with fail;go_loopw [5,30] (fun mv iv wr=>∃(q:Nat) (L:List Bool) (more:Bool),q≤i∧mv=.bool more∧iv=.int .i64 q∧Hid (SpR w wr ob i i L)∧Hid (DdP d L∧(more=false→DdTo d L q 0)∧2*ons L+(if more then 1 else 0)+1≤gk)) (fun _ iv _=>i-(intOf iv).toNat)
     case atStart=>exact⟨0,L,false,Nat.zero_le _,rfl,rfl,HR,Lib.hid ⟨HP2.out.1,fun _=>HP2.out.2.1,HP2.out.2.2⟩⟩
     case round=>
      clear HR HP2;obtain⟨q,L,more,hq,rfl,rfl,HR,HP⟩:=hrel;by_cases hqn:q<i
      ·obtain⟨x,hx⟩:∃x,H[q]? =some x:=⟨H[q]'(by omega),List.getElem?_eq_getElem _⟩;obtain⟨b,off,rfl,hb,hcell⟩:=(HS.out.keep (HR.out.bel.mono hB) (Nat.le_refl _)).at_ (by omega);obtain⟨_,k1⟩:=hcell q x hx;have hbs:=HR.out.bel.size;have hbw:b<wr.heap.size:=by omega
       have HX:=Lib.hid hx;obtain⟨m,hm⟩:∃m,x.d.2.length=m:=⟨_,rfl⟩;have HM:=Lib.hid hm;rw[hm]at k1;have hq2:(q:Int)<(i:Int):=by omega
       clear hx hcell hm;go_wp2_with fail;refine wdead_k w wr B hB _ i c H HS d HD HG hlen hcm q hqn x HX m HM ob i gk L more HR HP _ _ _ _ _ _ _ _ _ _ _ _ _ _ _ _ _ _ _ _ _ _ _ _ _ _ _ _ _ _ _ _ _ _ _ _ _ _ _ _ _ _ _ _ _ _ _ _ _ _ _ _ _ _ _ _ (fun c a a' w hd h=>by cases a;cases a';cases hd;exact h) ?_;intro L more W x39 u8 u40 u41 u42 u43 u44 u45 u46 u47 u48 u49 u50 u51 u52 u53 u54 u55 u56 u57 u58 HR HP
       go_wp2_with fail;go_roundw;case rel=>exact⟨q+1,L,more,by omega,rfl,by go_num,HR,HP⟩
       case measure=>simp[intOf];omega
      ·obtain rfl:q=i:=by omega
       have HPZ:Hid (DdP d L∧(more=false→DdTo d L d.length 0)):=⟨HP.out.1,by rw[HLL.out];exact HP.out.2.1⟩;have HKZ:Hid (2*ons L+(if more then 1 else 0)+1≤gk):=HP.out.2.2;clear HP;go_wp2_with fail;go_roundg (gk-1)
       case measure=>have:=HKZ.out;omega
       case rel=>exact⟨L,more,rfl,HR,HPZ,by have:=HKZ.out;show _≤_;omega⟩
end
section
open Go.RowKit Go.Maps
open F (Ent Nd Nh gath gath_s Fine byteAt DictAt waysC wayC allE entsC)
def takeE(l:List Ent)(d:List St):List Ent:=l.filter fun e=>takesB d e.1
theorem mt_all{ds:List Nd}(hf:Fine ds){d:List St}(hg:Good d){L:List Bool}(hG:Gone d L)(base:Int)(hn:ds≠[]):mtE ds (auOf d) (fun q=>L.getD q false) ds.length (ds.length-1) [] base 0=takeE (allE ds base) d:=by
 rw[mtE_gath hf (auOf d) (dead:=fun q=>L.getD q false) (fun q hq s=>by
  have hq2:L[q]? =some true:=by
   have h1:(L[q]?).getD false=true:=by rw[←List.getD_eq_getElem?_getD];exact hq
   cases h:L[q]? with
   |none=>rw[h]at h1;cases h1
   |some b=>rw[h]at h1;simp at h1;rw[h1]
  have hl:=(List.getElem?_eq_some_iff.1 hq2).1;have h3:=(hG.2 q (by rw[←hG.1];exact hl)).1 hq2;cases hb:(auOf d).acc q s with
  |false=>rfl
  |true=>exact absurd ⟨s,hb⟩ h3)]
 unfold takeE F.allE;rw[if_neg hn];refine List.filter_congr fun e _=>?_
 unfold takesB;rw[decide_eq_true ((good_iff d).2 hg),Bool.true_and];rfl
def MatchPost(w:World)(most:Nat)(L:List Ent):Ending→World→Prop:=fun e w'=>∃v,e=.returned (.tuple #[v,.bool (decide (most<L.length))])∧w'.ownsRow w.heap.size 29 2 v (L.take most).length (entsC (L.take most))∧Below w.heap.size w w'
theorem match_none{w w':World}{most:Nat}(hb:Below w.heap.size w w'):MatchPost w most [] (.returned (.tuple #[.slice none 0 0,.bool false])) w':=by
 unfold MatchPost;rw[List.take_nil];exact⟨_,by simp,⟨rfl,.inl ⟨rfl,rfl⟩⟩,hb⟩
theorem wmatch_nil(w:World)(v:Value)(z:Int):Calls Tryz.prog 14 #[.pointer none,v,.int .i64 z] w fun e w'=>e=.returned (.tuple #[.slice none 0 0,.bool false])∧Below w.heap.size w w':=by
 go_enter Tryz.func14,Tryz.ntmps14
 go_wp2_with fail;refine(F.root_nil _).mono ?_;rintro e w1 ⟨rfl,rfl⟩;go_wp2_with fail;go_ret2;exact⟨rfl,brefl _⟩
theorem wmatch_any(w:World)(p B n c:Nat)(A':Option Addr)(base cnt:Int)(hs:List Nh)(hd:DictAt w p B A' n c base cnt hs)(hf:Fine (hs.map (·.d)))(hwl:∀x∈hs,x.d.ways.length≤65536)(hn:n≤1125899906842624)(B2:Nat)(hB2:B2≤w.heap.size)(A:Option Addr)(na ca:Nat)(H:List Sh)(h:StsIn w B2 A na ca H)(z:Int)(hz: -9223372036854775808≤z∧z≤9223372036854775807)(hl:(allE (hs.map (·.d)) base).length≤1048576):
  Calls Tryz.prog 14 #[.pointer (some ⟨p,0,none⟩),.slice A na ca,.int .i64 z] w (MatchPost w (max z 0).toNat (takeE (allE (hs.map (·.d)) base) (H.map (·.d)))):=by
 have HR:=Lib.hid (F.root_any w p B n c A' base cnt hs hd);have HD:=Lib.hid hd;have HS:=Lib.hid h;have hlen:=hd.len;by_cases h0:n=0
 ·subst h0;have hLe:takeE (allE (hs.map (·.d)) base) (H.map (·.d))=[]:=by
   have:hs=[]:=List.eq_nil_of_length_eq_zero hlen;rw[this];rfl
  rw[if_pos rfl,if_pos rfl]at HR;rw[hLe];clear hd hf hwl h hl hlen;go_enter Tryz.func14,Tryz.ntmps14
  go_wp2_with fail;refine HR.out.mono ?_;rintro e w1 ⟨rfl,hb1⟩;have HB1:=Lib.hid hb1;clear hb1;go_wp2_with fail;go_ret2;exact match_none HB1.out
 rw[if_neg h0,if_neg h0]at HR;by_cases hck:checkE (H.map (·.d))=0
 ·have hg:=(good_iff _).1 hck;obtain⟨i,hi⟩:∃i:Nat,n=i+1:=⟨n-1,by omega⟩;have hne:hs.map (·.d)≠[]:=by
   intro e
   rw[List.map_eq_nil_iff]at e;rw[e]at hlen;exact h0 hlen.symm
  rw[show(n:Int)-1=(i:Int) by omega]at HR;obtain⟨mo,hmo⟩:∃m:Nat,max z 0=(m:Int):=⟨(max z 0).toNat,by omega⟩;rw[hmo,Int.toNat_natCast];have hmo2:mo≤9223372036854775807:=by omega
  obtain⟨R,hR⟩:∃R,takeE (allE (hs.map (·.d)) base) (H.map (·.d))=R:=⟨_,rfl⟩;rw[hR];go_enter Tryz.func14,Tryz.ntmps14
  go_wp2_with fail;refine HR.out.mono ?_;rintro e w1 ⟨rfl,hb1⟩;have HB1:=Lib.hid hb1;clear hb1;go_wp2_with fail;refine(dcheck_any w1 B2 (by have:=HB1.out.size;omega) A na ca H (HS.out.keep (HB1.out.mono hB2) (Nat.le_refl _))).mono ?_;rintro e w2 ⟨rfl,hb2⟩;rw[hck];have HB2:=Lib.hid (bcall HB1.out hb2);clear hb2;go_wp2_with fail;refine(wdead_any w2 B2 (by have:=HB2.out.size;omega) A na ca H (HS.out.keep (HB2.out.mono hB2) (Nat.le_refl _)) hg).mono ?_;rintro e w3 ⟨ob,oc,L,rfl,hsp,hgo⟩;have HB3:=Lib.hid (bcall HB2.out hsp.bel);have hob:=(own_blk hsp.own).2.1;have hLl:L.length=na:=hsp.len;have hna:(H.map (·.d)).length=na:=by rw[List.length_map];exact HS.out.len
  have hna0:0<na:=by rw[←hna];exact List.length_pos_iff.2 hg.ne
  obtain⟨mb,hmb⟩:∃k,w3.heap.size=k:=⟨_,rfl⟩;have hwmb:w.heap.size≤mb:=by rw[←hmb];exact HB3.out.size
  have hS3:StsIn w3 mb A na ca H:=HS.out.keep (HB3.out.mono hB2) (by omega);have hmat:MatAt (w3.alloc (.cells #[.pointer (some ⟨p,0,none⟩),.slice A na ca,.slice (some ⟨ob,0,none⟩) na oc,.int .i64 (mo:Int),.slice none 0 0,.bool false] 62)) mb p na ca A ob oc mo (.slice none 0 0) [] false:=⟨by rw[←hmb];exact heap_alloc_new w3 _,⟨rfl,.inl ⟨rfl,rfl⟩⟩⟩;have HAL:=Lib.hid (along_any w3 mb hmb p B n c A' base cnt hs (hd.keep HB3.out) hf hwl A na ca H hS3 _ (Lib.hid rfl) (Lib.hid hg) hna ob oc mo L hLl hsp.cap (by omega) (fun q b hb=>hsp.get hb) hmo2 (i+1) i (by omega) (by omega) (w3.alloc (.cells #[.pointer (some ⟨p,0,none⟩),.slice A na ca,.slice (some ⟨ob,0,none⟩) na oc,.int .i64 (mo:Int),.slice none 0 0,.bool false] 62)) _ [] false [] base 0 hmat (by have:=bnew (brefl w3) (.cells #[.pointer (some ⟨p,0,none⟩),.slice A na ca,.slice (some ⟨ob,0,none⟩) na oc,.int .i64 (mo:Int),.slice none 0 0,.bool false] 62);rw[hmb]at this;exact this) hna0 (by simp;omega) (by
   have e:=mt_all hf hg hgo base hne;rw[List.length_map,hlen,hi]at e;rw[Nat.add_sub_cancel]at e;rw[e];have:=List.length_filter_le (fun e=>takesB (H.map (·.d)) e.1) (allE (hs.map (·.d)) base);unfold takeE;simp
   omega))
  have hL:mtE (hs.map (·.d)) (auOf (H.map (·.d))) (fun q=>L.getD q false) (i+1) i [] base 0=takeE (allE (hs.map (·.d)) base) (H.map (·.d)):=by
   have e:=mt_all hf hg hgo base hne;rw[List.length_map,hlen,hi,Nat.add_sub_cancel]at e;exact e
  rw[hL]at HAL;have hrun:runM2 mo ([],false) (takeE (allE (hs.map (·.d)) base) (H.map (·.d)))=((takeE (allE (hs.map (·.d)) base) (H.map (·.d))).take mo,decide (mo<(takeE (allE (hs.map (·.d)) base) (H.map (·.d))).length)):=by
   have:=runM_take mo (takeE (allE (hs.map (·.d)) base) (H.map (·.d))) [] (Nat.zero_le _);rw[List.nil_append]at this;exact this
  rw[hrun]at HAL;rw[hR]at HAL;have HBM:Hid (Below w.heap.size w (w3.alloc (.cells #[.pointer (some ⟨p,0,none⟩),.slice A na ca,.slice (some ⟨ob,0,none⟩) na oc,.int .i64 (mo:Int),.slice none 0 0,.bool false] 62))):=bnew HB3.out _;have HMT:=Lib.hid hmat
  have HMB:=Lib.hid hwmb;clear hsp hgo hLl hna hna0 hS3 hmat hL hrun hR hd hf hwl h hl hlen hne hck hg HB1 HB2 HB3 HR HD HS hob hi hz hmo hmo2 hn hwmb h0;go_wp2_with fail;refine HAL.out.mono ?_;rintro e w5 ⟨rfl,v,hm5,hbut,_⟩;obtain⟨RT,hRT⟩:∃l,R.take mo=l:=⟨_,rfl⟩;have HRT:=Lib.hid hRT
  (try simp only at hm5)
  rw[hRT]at hm5;clear hRT;obtain⟨Av,cv,rfl,_⟩:=own_shape hm5.own;obtain⟨_,_,_,_,c4,c5⟩:=hm5.cells
  (try simp only at c4 c5)
  have HM5:=Lib.hid hm5;have HB5:=Lib.hid (HBM.out.trans (hbut.below HBM.out.size (fun b hb=>by
   have:=HMT.out.low hb;have:=HMB.out;omega)))
  have hmb5:=hm5.lt;clear hm5 hbut HAL;go_wp2_with fail;go_quiet (fail)
  go_wp2_with fail;go_ret2;refine⟨_,rfl,?_,below_drewN HB5.out nq⟩;rw[HRT.out];exact F.own_lower HM5.out.own (by have:=HMB.out;omega)
 ·have hcn:(checkE (H.map (·.d)) !=0)=true:=by simpa using hck
  have hLe:takeE (allE (hs.map (·.d)) base) (H.map (·.d))=[]:=by
   unfold takeE;refine List.filter_eq_nil_iff.2 fun e _=>?_
   unfold takesB;rw[decide_eq_false hck];simp
  rw[hLe];obtain⟨E,hE⟩:∃E,checkE (H.map (·.d))=E:=⟨_,rfl⟩;have HE:=Lib.hid hE;rw[hE]at hcn;clear hd hf hwl h hl hlen hE hck;obtain⟨i,hi⟩:∃i:Nat,n=i+1:=⟨n-1,by omega⟩;rw[show(n:Int)-1=(i:Int) by omega]at HR;go_enter Tryz.func14,Tryz.ntmps14
  go_wp2_with fail;refine HR.out.mono ?_;rintro e w1 ⟨rfl,hb1⟩;have HB1:=Lib.hid hb1;clear hb1 hi;go_wp2_with fail;refine(dcheck_any w1 B2 (by have:=HB1.out.size;omega) A na ca H (HS.out.keep (HB1.out.mono hB2) (Nat.le_refl _))).mono ?_;rintro e w2 ⟨rfl,hb2⟩;rw[HE.out];have HB2:=Lib.hid (bcall HB1.out hb2);clear hb2;go_wp2_with fail;go_ret2;exact match_none HB2.out
end
section
open Go.RowKit Go.Shelf
theorem el_u8:Elem Tryz.prog 108 5 1 1:=Elem.mk_ Tryz.underlying108 (z:=.int .u8 0) (by kernel_rfl) rfl (by omega)
theorem writeb_any(B b:Nat)(bs:List Value)(ch:Int)(w:World)(h:Lib.IsBuilder 113 5 B b bs w)(hlen:bs.length+1≤1407374883553)(hBw:B≤w.heap.size):
  Calls Tryz.prog 52 #[.pointer (some ⟨b,0,none⟩),.int .u8 ch] w fun e w'=>e=.returned .nilIface∧(Lib.IsBuilder 113 5 B b (bs++[.int .u8 ch]) w'∧Below B w w'∧OthersStand b w w'):=by
 go_enter Tryz.func52,Tryz.ntmps52
 go_wp2_with fail;refine(check_any B b bs _ h).mono ?_;rintro e w1 ⟨rfl,h1,hb1,ho1⟩;obtain⟨hB,v,hbk,hown,hne⟩:=h1;have c0:w1.cell? ⟨b,0,none⟩=some (.pointer (some ⟨b,0,none⟩)):=by rw[Lib.cell_of_heap hbk];rfl
 have c1:w1.cell? ⟨b,1,none⟩=some v:=by rw[Lib.cell_of_heap hbk];rfl
 have hlt:b<w1.heap.size:=by
  rcases Nat.lt_or_ge b w1.heap.size with h'|h'
  ·exact h'
  ·simp[Array.getElem?_eq_none h']at hbk
 have hbw1:B≤w1.heap.size:=Nat.le_trans hBw hb1.size;obtain⟨A1,cap1,rfl,_⟩:=own_shape hown;have hkeep:∀w2:World,w1.grownBy w2 (Value.slice A1 bs.length cap1).ownBlock→w2.heap[b]? =some (.cells #[.pointer (some ⟨b,0,none⟩),.slice A1 bs.length cap1] 113 (0,0)):=fun w2 hg=>by
  rw[hg.block b hlt (fun e=>hne e.symm)];exact hbk
 go_wp2_with (at_builtin;refine wpList_push w1 w1 _ rfl _ _ _ rfl el_u8 (.slice A1 bs.length cap1) bs.length bs rfl hown rfl (by simp) rfl (by simp[Value.oneCell']) (by unfold maxLen;omega) (by omega) hbw1 (Below.refl _ _) ?_;intro v' w2 hown' hb2' hgrow _;obtain⟨A2,cap2,rfl,_⟩:=own_shape hown';have hb2:=hkeep w2 hgrow;have d1:w2.cell? ⟨b,1,none⟩=some (.slice A1 bs.length cap1):=(Lib.cell_of_heap hb2 1).trans rfl;have f1:w2.frozen? ⟨b,1,none⟩=false:=Lib.frozen_of_heap hb2 1)
 go_ret;refine⟨rfl,.inr ?_,?_,?_⟩
 ·exact Lib.BuilderAt.put (T:=113) (e:=5) hB hb2 (bs':=bs++[.int .u8 ch]) (by simpa using hown') (by decide)
 ·exact(hb1.trans hb2').setCell (p:=⟨b,1,none⟩) hB _
 ·refine ho1.trans fun k cs t f h1 h2 h3=>?_
  rw[Below.heap_setCell _ _ _ _ h1,hgrow.block k (Array.getElem?_eq_some_iff.1 h3).1 ?_]
  ·exact h3
  ·intro e
   rcases hown.2 with⟨hv,_⟩|⟨g,cap',cur,hv,_,hg,_⟩
   ·injection hv with hv _ _
    subst hv;cases e
   ·injection hv with hv _ _
    subst hv;simp only[Value.ownBlock,Option.some.injEq]at e;subst e;rw[hg]at h3;injection h3 with h3
    injection h3 with _ h3 _
    exact h2 h3.symm
end
end Go.Proofs.YtaociahafamncaaGreatDoor
