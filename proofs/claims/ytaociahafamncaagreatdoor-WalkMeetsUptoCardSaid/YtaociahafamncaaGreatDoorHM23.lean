/- Folded. -/
import Derived.Test.YtaociahafamncaaGreatDoorHM22
set_option maxRecDepth 100000
set_option maxHeartbeats 40000000
set_option linter.unusedVariables false
namespace Go.Proofs.YtaociahafamncaaGreatDoor
section
open Go.RowKit Go.Maps
open F (Ent Nd Nh gath gath_s Fine byteAt DictAt waysC wayC entsC entC)
theorem zL9{ds:List Nd}{i:Nat}{d:Nd}(h:ds[i]? =some d)(M:Au Nat)(dead:Nat→Bool)(f:Nat)(t:List UInt8)(z:Int)(q:Nat)(hq:dead q=false):mtE ds M dead (f+1) i t z q=(if d.fin&&M.fin q then[(t,IntKind.i64.wrap (z+d.out))]else[])++mtW ds M dead f t z q d.ways:=zKc h M dead f t z q hq
theorem zsb{mb p n c:Nat}{A:Option Addr}{ob oc most:Nat}{W W':World}{v:Value}{E:List Ent}{more:Bool}(hm:MatAt W mb p n c A ob oc most v E more)(hb:Below W.heap.size W W'):zgf mb p n c A ob oc most W v (E,more) (.returned (.tuple #[])) W':=
 ⟨rfl,v,hm.keep hb,But.of hb,fun b hb=>.inl hb⟩
theorem z5d{mb p n c:Nat}{A:Option Addr}{ob oc most:Nat}{W W':World}{v:Value}{E:List Ent}(hm:MatAt W' mb p n c A ob oc most v E false)(hb:Below W.heap.size W W'):zgf mb p n c A ob oc most W v (E,true) (.returned (.tuple #[])) (W'.setCell ⟨mb,5,none⟩ (.bool true)):=by
 refine⟨rfl,v,⟨?_,F.own_set hm.own (Nat.lt_succ_self _)⟩,⟨hb.os,hb.tape,hb.output,by simpa using hb.size,fun k hk hn=>?_⟩,fun b hb=>.inl hb⟩
 ·have:=F.blk_set (j:=5) hm.blk (.bool true);simpa using this
 ·rw[Below.heap_setCell _ _ _ _ (by exact fun e=>hn (.inl e))];exact hb.block k hk
theorem zx6(Wm:World)(mb:Nat)(hmb:Wm.heap.size=mb)(p B n c:Nat)(A':Option Addr)(base cnt:Int)(hs:List Nh)(hd:DictAt Wm p B A' n c base cnt hs)(hf:Fine (hs.map (·.d)))(hwl:∀x∈hs,x.d.ways.length≤65536)
  (A:Option Addr) (na ca:Nat) (H:List Sh) (HS:Hid (StsIn Wm mb A na ca H)) (d:List St) (HD:Hid (H.map (·.d)=d)) (HG:Hid (Good d)) (hna:d.length=na) (ob oc most:Nat) (L:List Bool) (hLn:L.length=na) (hLc:na≤oc) (hob:ob<mb) (HDL:Hid (∀q b,L[q]? =some b→Wm.cell? ⟨ob,q,none⟩=some (.bool b))) (hmost:most≤9223372036854775807):
  ∀(f i:Nat),i<f→i<n→∀(W:World) (v:Value) (E:List Ent) (more:Bool) (t:List UInt8) (z:Int) (q:Nat),MatAt W mb p na ca A ob oc most v E more→Below mb Wm W→q<na→t.length+i≤1125899906842624→E.length+(mtE (hs.map (·.d)) (auOf d) (fun q=>L.getD q false) f i t z q).length≤1048576→
   Calls Tryz.prog 29 #[.pointer (some ⟨mb,0,none⟩),.agg #[.int .i64 (i:Int),.int .i64 z,.int .i64 (q:Int),.string ⟨t.toArray⟩]] W (zgf mb p na ca A ob oc most W v (zk5 most (E,more) (mtE (hs.map (·.d)) (auOf d) (fun q=>L.getD q false) f i t z q)))
 |0,i,hi,_,W,v,E,more,t,z,q,hm,hb,hq,ht,hl=>absurd hi (by omega)
 |
  f+1,i,hi,hin,W,v,E,more,t,z,q,hm,hb,hq,ht,hl=>by
  have IH0:=zx6 Wm mb hmb p B n c A' base cnt hs hd hf hwl A na ca H HS d HD HG hna ob oc most L hLn hLc hob HDL hmost f;have hlen:=hd.len;obtain⟨x,hx⟩:∃x,hs[i]? =some x:=⟨hs[i]'(by omega),List.getElem?_eq_getElem _⟩;have hxm:(hs.map (·.d))[i]? =some x.d:=by rw[List.getElem?_map,hx];rfl
  have hfi:=hf i x.d hxm;have hwx:=hwl x (List.mem_of_getElem? hx);have hmW:mb<W.heap.size:=hm.lt;obtain⟨ds,hds⟩:∃ds,hs.map (·.d)=ds:=⟨_,rfl⟩;rw[hds]at IH0 hl hxm⊢;obtain⟨dd,hdd⟩:∃dd,(fun q=>L.getD q false)=dd:=⟨_,rfl⟩;rw[hdd]at IH0 hl⊢;obtain⟨bq,hbq⟩:∃b,L[q]? =some b:=⟨L[q]'(by omega),List.getElem?_eq_getElem _⟩;have hddq:dd q=bq:=by rw[←hdd];show L.getD q false=bq;rw[List.getD_eq_getElem?_getD,hbq];rfl
  have HIH:=Lib.hid (fun(i':Nat) (hi':i'<i)=>IH0 i' (by omega) (by omega));have hb1:=bnew (za0 W) (.cells #[.int .i64 (i:Int),.int .i64 z,.int .i64 (q:Int),.string ⟨t.toArray⟩] 56);have hat1:=heap_alloc_new W (.cells #[.int .i64 (i:Int),.int .i64 z,.int .i64 (q:Int),.string ⟨t.toArray⟩] 56);have hm1:=hm.keep hb1;have hbm1:Below mb Wm (W.alloc (.cells #[.int .i64 (i:Int),.int .i64 z,.int .i64 (q:Int),.string ⟨t.toArray⟩] 56)):=hb.trans (hb1.mono (by omega));have hdl1:=(hbm1.cell (p:=⟨ob,q,none⟩) hob).trans (HDL.out q bq hbq);have HNODE:=Lib.hid (fun(W6:World) (hb:Below (W.alloc (.cells #[.int .i64 (i:Int),.int .i64 z,.int .i64 (q:Int),.string ⟨t.toArray⟩] 56)).heap.size (W.alloc (.cells #[.int .i64 (i:Int),.int .i64 z,.int .i64 (q:Int),.string ⟨t.toArray⟩] 56)) W6)=>F.gnode_any W6 p B n c A' base cnt hs (hd.keep (by rw[hmb];exact hbm1.trans (hb.mono (by have:=hb1.size;omega)))) i x hx hwx);have HM0:=Lib.hid hm;have HM1:=Lib.hid hm1;have HB0:=Lib.hid hb;have HB1:=Lib.hid hb1;have HBM1:=Lib.hid hbm1;have HAT1:=Lib.hid hat1;have HFI:=Lib.hid hfi;have HXM:=Lib.hid hxm;have hobw:ob<(W.alloc (.cells #[.int .i64 (i:Int),.int .i64 z,.int .i64 (q:Int),.string ⟨t.toArray⟩] 56)).heap.size:=by simp;omega
  obtain⟨c0,c1,c2,c3,c4,c5⟩:=hm1.cells;have HLL:=Lib.hid hl;have hqo:(q:Int)<(na:Int):=by omega
  clear IH0 hlen hx hfi hb1 hat1 hm1 hbm1 hds hdd hd hf hwl hm hb hl hxm hbq;go_enter Tryz.func29,Tryz.ntmps29
  by_cases hmore:more=true
  ·subst hmore;go_wp2_with fail;go_quiet (fail)
   go_wp2_with fail;go_end0
   exact zsb HM0.out (below_drewN HB1.out nq)
  ·obtain rfl:more=false:=by simpa using hmore
   cases bq with
   |
    true=>
    rw[z0i ds (auOf d) _ _ _ _ hddq,zo1];go_wp2_with fail;go_quiet (fail)
    go_wp2_with fail;go_end0
    exact zsb HM0.out (below_drewN HB1.out nq)
   |
    false=>
    have HXL:=HLL;rw[zL9 HXM.out (auOf d) _ _ _ _ _ hddq]at HXL⊢;clear HXM HLL;obtain⟨ws,hws⟩:∃ws,x.d.ways=ws:=⟨_,rfl⟩;obtain⟨fi,hfi2⟩:∃b,x.d.fin=b:=⟨_,rfl⟩;obtain⟨o,ho⟩:∃z,x.d.out=z:=⟨_,rfl⟩;obtain⟨m,hm⟩:∃m,ws.length=m:=⟨_,rfl⟩;have HWS:Hid (∀x_1∈x.d.ways,(0≤x_1.1∧x_1.1≤255)∧0≤x_1.2.2∧x_1.2.2<(i:Int)):=fun y hy=>⟨(HFI.out.2 y hy).1,(HFI.out.2 y hy).2.2⟩
    rw[hws,hfi2,ho]at HNODE HXL⊢;rw[hws]at HWS hwx;rw[hm]at HNODE hwx;have HM:=Lib.hid hm;obtain⟨fq,hfq⟩:∃b,(auOf d).fin q=b:=⟨_,rfl⟩;rw[hfq]at HXL⊢;obtain⟨Z,hZ⟩:∃Z,IntKind.i64.wrap (z+o)=Z:=⟨_,rfl⟩;rw[hZ]at HXL⊢;have HZZ:=Lib.hid hZ;obtain⟨pre,hpre⟩:∃pre,(if(fi&&fq)=true then[(t,Z)]else[])=pre:=⟨_,rfl⟩;rw[hpre]at HXL⊢;have HPRE:=Lib.hid hpre;have HFQ:=Lib.hid hfq;clear hws hfi2 ho hm hpre hfq HFI hmore;go_wp2_with fail;go_quiet (fail)
    go_wp2_with fail;have hq0:Below W.heap.size W ((W.alloc (.cells #[.int .i64 (i:Int),.int .i64 z,.int .i64 (q:Int),.string ⟨t.toArray⟩] 56)).drewN nq):=below_drewN HB1.out nq;have hat2:((W.alloc (.cells #[.int .i64 (i:Int),.int .i64 z,.int .i64 (q:Int),.string ⟨t.toArray⟩] 56)).drewN nq).heap[W.heap.size]? =some (.cells #[.int .i64 (i:Int),.int .i64 z,.int .i64 (q:Int),.string ⟨t.toArray⟩] 56 (0,0)):=HAT1.out;have hm2:MatAt ((W.alloc (.cells #[.int .i64 (i:Int),.int .i64 z,.int .i64 (q:Int),.string ⟨t.toArray⟩] 56)).drewN nq) mb p na ca A ob oc most v E false:=HM0.out.keep hq0;have hbm2:Below mb Wm ((W.alloc (.cells #[.int .i64 (i:Int),.int .i64 z,.int .i64 (q:Int),.string ⟨t.toArray⟩] 56)).drewN nq):=below_drewN HBM1.out nq;have hn2:∀W6,Below ((W.alloc (.cells #[.int .i64 (i:Int),.int .i64 z,.int .i64 (q:Int),.string ⟨t.toArray⟩] 56)).drewN nq).heap.size ((W.alloc (.cells #[.int .i64 (i:Int),.int .i64 z,.int .i64 (q:Int),.string ⟨t.toArray⟩] 56)).drewN nq) W6→_:=fun W6 hb=>HNODE.out W6 ((below_drewN (za0 _) nq).trans hb)
    clear HNODE HB1 HAT1 HM1 HBM1 c0 c1 c2 c3 c4 c5 hdl1 hobw;generalize(W.alloc (.cells #[.int .i64 (i:Int),.int .i64 z,.int .i64 (q:Int),.string ⟨t.toArray⟩] 56)).drewN nq=W1 at*;have HB1:=Lib.hid hq0;have HAT1:=Lib.hid hat2;have HM1:=Lib.hid hm2;have HBM1:=Lib.hid hbm2;have HNODE:=Lib.hid hn2;have HC1:Hid (W1.cell? ⟨mb,0,none⟩=some (.pointer (some ⟨p,0,none⟩))∧W1.cell? ⟨W.heap.size,0,none⟩=some (.int .i64 (i:Int))):=⟨cell_of_row W1 mb 0 _ _ (0,0) HM1.out.blk,cell_of_row W1 _ 0 _ _ (0,0) HAT1.out⟩;have HL1:Hid (mb<W1.heap.size∧W.heap.size<W1.heap.size):=⟨HM1.out.lt,(Array.getElem?_eq_some_iff.1 HAT1.out).1⟩;have HKP:=Lib.hid (fun(W':World) (hb:Below W1.heap.size W1 W')=>And.intro ((hb.cell (p:=⟨mb,0,none⟩) HL1.out.1).trans HC1.out.1) ((hb.cell (p:=⟨W.heap.size,0,none⟩) HL1.out.2).trans HC1.out.2));obtain⟨c0,a0⟩:=HC1.out;clear hq0 hat2 hm2 hbm2 hn2;go_region_held3 (fun w'=>w'.cell? ⟨mb,0,none⟩=some (.pointer (some ⟨p,0,none⟩))∧w'.cell? ⟨W.heap.size,0,none⟩=some (.int .i64 (i:Int)))
     (first
      |assumption
      |exact HC1.out
      |(refine HKP.out _ ?_;(repeat(first|exact za0 _|exact HB7.out|refine Below.drew ?_|refine bnew ?_ _|refine F.below_set ?_ (Nat.le_refl _) (Nat.le_refl _)));done))
     (first|(go_at_call 47;refine(HNODE.out _ (by repeat(first|exact za0 _|refine Below.drew ?_|refine bnew ?_ _))).mono ?_;rintro e W7 ⟨v,rfl,hown,hb7⟩;have HB7:=Lib.hid ((show Below W1.heap.size W1 _ by repeat(first|exact za0 _|refine Below.drew ?_|refine bnew ?_ _)).trans (hb7.mono (by first|exact Nat.le_refl _|(simp;done)|(simp;omega))));obtain⟨Aw,cw,rfl,hmc⟩:=za1 hown;have HOW7:=Lib.hid hown;(try(have hz7:W7.heap[W1.heap.size]? =some (.cells #[.bool false,.int .i64 0,.slice none 0 0] 88 (0,0)):=(hb7.block W1.heap.size (by simp)).trans (heap_alloc_new _ _);have HZ7:=Lib.hid hz7;have z0:=cell_of_row W7 _ 0 _ _ (0,0) hz7;have z1:=cell_of_row W7 _ 1 _ _ (0,0) hz7;have z2:=cell_of_row W7 _ 2 _ _ (0,0) hz7;have y0:=F.free_at hz7 0;have y1:=F.free_at hz7 1;have y2:=F.free_at hz7 2;simp at z0 z1 z2;clear hz7));clear hown))
    rotate_left
    have hn3:=F.blk_set (j:=2) (F.blk_set (j:=1) (F.blk_set (j:=0) HZ7.out (.bool fi)) (.int .i64 o)) (.slice Aw m cw);have hb3:Below W1.heap.size W1 (((W7.setCell ⟨W1.heap.size,0,none⟩ (.bool fi)).setCell ⟨W1.heap.size,1,none⟩ (.int .i64 o)).setCell ⟨W1.heap.size,2,none⟩ (.slice Aw m cw)):=F.below_set (F.below_set (F.below_set HB7.out (Nat.le_refl _) (Nat.le_refl _)) (Nat.le_refl _) (Nat.le_refl _)) (Nat.le_refl _) (Nat.le_refl _);have ho3:=F.own_lower (F.own_set (k:=W1.heap.size) (j:=2) (u:=.slice Aw m cw) (F.own_set (k:=W1.heap.size) (j:=1) (u:=.int .i64 o) (F.own_set (k:=W1.heap.size) (j:=0) (u:=.bool fi) HOW7.out (by simp)) (by simp)) (by simp)) (show W1.heap.size≤_ by simp);simp at hn3
    have HB3:=Lib.hid hb3;have HOW3:=Lib.hid ho3;obtain⟨nb,hnb⟩:∃k,W1.heap.size=k:=⟨_,rfl⟩;have HNB:Hid (W1.heap.size≤nb):=Nat.le_of_eq hnb;generalize((W7.setCell ⟨W1.heap.size,0,none⟩ (.bool fi)).setCell ⟨W1.heap.size,1,none⟩ (.int .i64 o)).setCell ⟨W1.heap.size,2,none⟩ (.slice Aw m cw)=W3 at*;rw[hnb]at hn3⊢;have HN3:=Lib.hid hn3;clear hn3 hb3 ho3 HZ7 HOW7 HB7 HKP z0 z1 z2 y0 y1 y2 HNODE hb7 c0 a0 hnb W7;rotate_left
    have hn3:=heap_alloc_new W7 (.cells #[.bool fi,.int .i64 o,.slice Aw m cw] 88);have HB3:=Lib.hid (bnew HB7.out (.cells #[.bool fi,.int .i64 o,.slice Aw m cw] 88));have HOW3:=Lib.hid (F.own_lower (za2 HOW7.out (bnew (za0 W7) (.cells #[.bool fi,.int .i64 o,.slice Aw m cw] 88))) (show W1.heap.size≤_ by first|exact Nat.le_refl _|(simp;done)));have HNB0:Hid (W1.heap.size≤W7.heap.size):=HB7.out.size;generalize W7.alloc (.cells #[.bool fi,.int .i64 o,.slice Aw m cw] 88)=W3 at*;obtain⟨nb,hnb⟩:∃k,W7.heap.size=k:=⟨_,rfl⟩;rw[hnb]at hn3 HNB0⊢;have HN3:=Lib.hid hn3;have HNB:=HNB0;clear hn3 HOW7 HB7 HKP HNODE hb7 c0 a0 hnb HNB0 W7;all_goals
     have HM3:=Lib.hid (HM1.out.keep HB3.out);have HB13:=Lib.hid (za9 HB1.out HB3.out);have HBM3:=Lib.hid (HBM1.out.trans (HB3.out.mono (by have:=HL1.out;omega)));have hat3:=(HB3.out.block _ HL1.out.2).trans HAT1.out;have HAT3:=Lib.hid hat3;have n0:=cell_of_row W3 _ 0 _ _ (0,0) HN3.out;have n1:=cell_of_row W3 _ 1 _ _ (0,0) HN3.out;have n2:=cell_of_row W3 _ 2 _ _ (0,0) HN3.out;have a1:=cell_of_row W3 _ 1 _ _ (0,0) hat3;have a2:=cell_of_row W3 _ 2 _ _ (0,0) hat3;have a3:=cell_of_row W3 _ 3 _ _ (0,0) hat3;simp at n0 n1 n2 a1 a2 a3
     obtain⟨c0,c1,c2,c3,c4,c5⟩:=HM3.out.cells;have HWC:Hid (0<m→∃g,Aw=some ⟨g,0,none⟩∧W.heap.size≤g∧g<W3.heap.size∧∀k y,ws[k]? =some y→W3.cell? ⟨g,k*3,none⟩=some (.int .i64 y.1)∧W3.cell? ⟨g,k*3+1,none⟩=some (.int .i64 y.2.1)∧W3.cell? ⟨g,k*3+2,none⟩=some (.int .i64 y.2.2)):=by
      intro h0
      obtain⟨g,h1,h2,h3,h4⟩:=zt0 HOW3.out h0;exact⟨g,h1,by have:=HL1.out;omega,h3,h4⟩
     have HV0:Hid (∀b,some b=v.ownBlock→mb≤b∧b<W.heap.size):=fun b hb=>by have:=HM0.out.own.lt b hb.symm;omega
     have hS3:=HS.out.keep HBM3.out (Nat.le_refl _);obtain⟨ab0,aoff,rfl,hab0,hac⟩:=hS3.at_ (by omega);have hHl:H.length=na:=by rw[←hna,←HD.out,List.length_map]
     obtain⟨xq,hxq⟩:∃y,H[q]? =some y:=⟨H[q]'(by omega),List.getElem?_eq_getElem _⟩;obtain⟨k0,_⟩:=hac q xq hxq;have hfin:xq.d.1=fq:=by
      have h1:=HFQ.out;have h2:d[q]? =some xq.d:=by rw[←HD.out,List.getElem?_map,hxq];rfl
      have h3:(auOf d).fin q=((d[q]?).map (·.1)).getD false:=rfl;rw[h3,h2]at h1;exact h1
     rw[hfin]at k0;have hab3:ab0<W3.heap.size:=by have:=HM3.out.lt;omega
     clear hat3 HM1 HBM1 HAT1 HB1 hS3 hac hHl hxq hfin HOW3;obtain⟨Av,cv,rfl,hEc⟩:=za1 HM3.out.own;have hE63:E.length≤1048576:=by have:=HXL.out;omega
     have hcas:(∃b,fi=b∧b=false)∨(fi=true∧∃b,fq=b∧b=false)∨(fi=true∧fq=true):=by
      cases fi<;>cases fq<;>simp
     rcases hcas with⟨_,rfl,rfl⟩|⟨rfl,_,rfl,rfl⟩|⟨rfl,rfl⟩
     ·skip
      have HP:Hid (pre=[]):=HPRE.out.symm;go_wp2_with fail;go_quiet (fail)
      have HMID:Hid (MidM mb p na ca (some ⟨ab0,aoff,none⟩) ob oc most W (.slice Av E.length cv) W3.heap.size (E,false) pre E false (W3.drewN nq) (.slice Av E.length cv)):=⟨by rw[HP.out,zo1],HM3.out.keep (below_drewN (za0 _) nq),But.of (below_drewN HB13.out nq),fun b hb=>.inl hb⟩;have HK:Hid (W3.heap.size≤(W3.drewN nq).heap.size∧∀b,W.heap.size≤b→b<W3.heap.size→(W3.drewN nq).heap[b]? =W3.heap[b]?):=⟨Nat.le_refl _,fun _ _ _=>rfl⟩;go_wp2_with fail;refine zm8 Wm W W3 (W3.drewN nq) mb p na ca ob oc most i m cw W.heap.size _ H HS d HD HG hna ds dd f t z q hq ht HB0 hmW (by omega) HIH _ HV0 (Nat.le_refl _) (Nat.lt_of_lt_of_le HL1.out.2 HB3.out.size) HAT3 Aw ws HM hmc hwx HWC HWS (E,false) pre E false (.slice Av E.length cv) HMID HK HXL _ _ _ _ _ _ _ _ _ _ _ _ _ _ _ _ _ _ _ _ _ _ _ _ _ _ _ _ _ _ _ _ _ _ _ _ _ _ _ _ _ _ _ _ _ _ _ _ _ _ _ _ _ _ _ _ _ _ _ _ _ _ _ _ _ _ _ _ _ _ _ _ _ _ _ _ _ _ _ _ _ _ _ _ _ _ _ _ _ _ _ _ _ _ _ _ _ _ _ _ _ _ _ _ _ _ _ _ _ _ _ ?_ ?_
      ·intro c a a' w hd h
       cases a;cases a';cases hd;exact h
      ·intro F2 more2 v2 W' x79 u7 u8 u80 u81 u82 u83 u84 u85 u86 u87 u88 u89 u90 u91 u92 u93 u94 u95 u96 u97 u98 u99 u100 u101 u102 u103 u104 u105 u106 u107 u108 u109 u110 u111 u112 u113 u114 HM2
       go_wp2_with fail;go_end0
       exact HM2.out.done (Nat.le_of_lt (Nat.lt_of_lt_of_le HL1.out.2 HB3.out.size))
     ·skip
      have HP:Hid (pre=[]):=HPRE.out.symm;go_wp2_with fail;go_quiet (fail)
      have HMID:Hid (MidM mb p na ca (some ⟨ab0,aoff,none⟩) ob oc most W (.slice Av E.length cv) W3.heap.size (E,false) pre E false (W3.drewN nq) (.slice Av E.length cv)):=⟨by rw[HP.out,zo1],HM3.out.keep (below_drewN (za0 _) nq),But.of (below_drewN HB13.out nq),fun b hb=>.inl hb⟩;have HK:Hid (W3.heap.size≤(W3.drewN nq).heap.size∧∀b,W.heap.size≤b→b<W3.heap.size→(W3.drewN nq).heap[b]? =W3.heap[b]?):=⟨Nat.le_refl _,fun _ _ _=>rfl⟩;go_wp2_with fail;refine zm8 Wm W W3 (W3.drewN nq) mb p na ca ob oc most i m cw W.heap.size _ H HS d HD HG hna ds dd f t z q hq ht HB0 hmW (by omega) HIH _ HV0 (Nat.le_refl _) (Nat.lt_of_lt_of_le HL1.out.2 HB3.out.size) HAT3 Aw ws HM hmc hwx HWC HWS (E,false) pre E false (.slice Av E.length cv) HMID HK HXL _ _ _ _ _ _ _ _ _ _ _ _ _ _ _ _ _ _ _ _ _ _ _ _ _ _ _ _ _ _ _ _ _ _ _ _ _ _ _ _ _ _ _ _ _ _ _ _ _ _ _ _ _ _ _ _ _ _ _ _ _ _ _ _ _ _ _ _ _ _ _ _ _ _ _ _ _ _ _ _ _ _ _ _ _ _ _ _ _ _ _ _ _ _ _ _ _ _ _ _ _ _ _ _ _ _ _ _ _ _ _ ?_ ?_
      ·intro c a a' w hd h
       cases a;cases a';cases hd;exact h
      ·intro F2 more2 v2 W' x79 u7 u8 u80 u81 u82 u83 u84 u85 u86 u87 u88 u89 u90 u91 u92 u93 u94 u95 u96 u97 u98 u99 u100 u101 u102 u103 u104 u105 u106 u107 u108 u109 u110 u111 u112 u113 u114 HM2
       go_wp2_with fail;go_end0
       exact HM2.out.done (Nat.le_of_lt (Nat.lt_of_lt_of_le HL1.out.2 HB3.out.size))
     ·have HP:Hid (pre=[(t,Z)]):=HPRE.out.symm;go_wp2_with fail;go_quiet (fail)
      revert nq
      intro k1
      go_wp2_with fail;have y5:=F.free_at HM3.out.blk 5;have hmb3:=HM3.out.lt;by_cases hfull:E.length=most
      ·have q1:(E.length==most)=true:=by rw[beq_iff_eq];exact hfull
       have q2:((E.length:Int)==(most:Int))=true:=by rw[beq_iff_eq];omega
       have hR:Hid (zk5 most (E,false) (pre++mtW ds (auOf d) dd f t z q ws)=(E,true)):=by
        show _=_;rw[HP.out];show runM most E ((t,Z)::_)=_;rw[runM,if_pos hfull]
       clear hfull;go_quiet (fail)
       go_wp2_with fail;go_end0
       rw[hR.out];exact z5d (HM3.out.keep (below_drewN (za0 _) _)) (below_drewN HB13.out _)
      ·have q1:(E.length==most)=false:=by rw[beq_eq_false_iff_ne];exact hfull
       have q2:((E.length:Int)==(most:Int))=false:=by rw[beq_eq_false_iff_ne];omega
       have HR1:Hid (zk5 most (E,false) pre=(E++[(t,Z)],false)):=by
        show _=_;rw[HP.out];show runM most E [(t,Z)]=_;rw[runM,if_neg hfull];rfl
       clear hfull;go_quiet (fail)
       revert nq
       intro k2
       go_wp2_with fail;have hm4:=HM3.out.keep (below_drewN (below_drewN (za0 W3) k1) k2);have hb4:=below_drewN (below_drewN HB13.out k1) k2;have hk4:W3.heap.size≤((W3.drewN k1).drewN k2).heap.size∧∀b,W.heap.size≤b→b<W3.heap.size→((W3.drewN k1).drewN k2).heap[b]? =W3.heap[b]? :=⟨Nat.le_refl _,fun _ _ _=>rfl⟩;clear y5 c0 c1 c2 c3 c4 c5 n0 n1 n2 a1 a2 a3 k0 q1 q2;generalize(W3.drewN k1).drewN k2=W4 at*;have HM4:=Lib.hid hm4;have HB4:=Lib.hid hb4;have HK4:=Lib.hid hk4;have hn4:=(hk4.2 nb (by have:=HNB.out;have:=HL1.out;omega) (Array.getElem?_eq_some_iff.1 HN3.out).1).trans HN3.out;have ha4:=(hk4.2 W.heap.size (Nat.le_refl _) (Array.getElem?_eq_some_iff.1 HAT3.out).1).trans HAT3.out;have n1:=cell_of_row W4 _ 1 _ _ (0,0) hn4;have n2:=cell_of_row W4 _ 2 _ _ (0,0) hn4;have a1:=cell_of_row W4 _ 1 _ _ (0,0) ha4;have a3:=cell_of_row W4 _ 3 _ _ (0,0) ha4;have r4:=cell_of_row W4 mb 4 _ _ (0,0) hm4.blk;simp at n1 n2 a1 a3 r4
       have HN4:=Lib.hid hn4;have hob:=HV0.out;have hvb:∀b,W.heap.size≤b→b≠mb∧some b≠(Value.slice Av E.length cv).ownBlock:=fun b hb=>⟨by omega,fun e=>by have:=hob b e;omega⟩
       have hnb4:=hvb nb (by have:=HNB.out;have:=HL1.out;omega);have hab4:=hvb W.heap.size (Nat.le_refl _);have HVB:=Lib.hid hvb;clear hm4 hb4 hk4 hn4 ha4 hob hvb r4;refine zF4 W4 mb p na ca ob oc most W.heap.size nb _ _ E HM4 hE63 hab4 hnb4 t z o a1 a3 n1 _ _ _ _ _ _ _ _ _ _ _ _ _ _ _ _ _ _ _ _ _ _ _ _ _ _ _ _ _ _ _ _ _ _ _ _ _ _ _ _ _ _ _ _ _ _ _ _ _ _ _ _ _ _ _ _ _ _ _ _ _ _ _ _ _ _ _ _ _ _ _ _ _ _ _ _ _ _ _ _ _ _ _ _ _ _ _ _ _ _ _ _ _ _ _ _ _ _ _ _ _ _ _ _ _ _ _ _ _ _ _ _ _ ?_ ?_
       ·intro c a a' w hd h
        cases a;cases a';cases hd;exact h
       rw[HZZ.out];intro v' W' u59 u60 u61 u62 u63 u64 u65 u66 u67 u68 u69 u70 u71 u72 u73 u74 u75 HMN HBUT HSUB
       have hn5:=HBUT.out.at_ HN4.out (fun h=>h.elim hnb4.1 hnb4.2);have n2:=cell_of_row W' _ 2 _ _ (0,0) hn5;simp at n2
       have HMID:Hid (MidM mb p na ca (some ⟨ab0,aoff,none⟩) ob oc most W (.slice Av E.length cv) W3.heap.size (E,false) pre (E++[(t,Z)]) false W' v'):=⟨HR1.out,HMN.out,(But.of HB4.out).trans HBUT.out fun _ hi=>.inl hi,fun b hb=>(HSUB.out b hb).elim .inl fun h=>.inr (Nat.le_trans HK4.out.1 h)⟩;have HK:Hid (W3.heap.size≤W'.heap.size∧∀b,W.heap.size≤b→b<W3.heap.size→W'.heap[b]? =W3.heap[b]?):=⟨Nat.le_trans HK4.out.1 HBUT.out.size,fun b h1 h2=>by
        have h3:=HVB.out b h1;have h4:=HK4.out.1;rw[HBUT.out.block b (by omega) (fun h=>h.elim h3.1 h3.2)];exact HK4.out.2 b h1 h2⟩
       clear hn5 a1 a3 n1;go_wp2_with fail;refine zm8 Wm W W3 W' mb p na ca ob oc most i m cw W.heap.size _ H HS d HD HG hna ds dd f t z q hq ht HB0 hmW (by omega) HIH _ HV0 (Nat.le_refl _) (Nat.lt_of_lt_of_le HL1.out.2 HB3.out.size) HAT3 Aw ws HM hmc hwx HWC HWS (E,false) pre (E++[(t,Z)]) false v' HMID HK HXL _ _ _ _ _ _ _ _ _ _ _ _ _ _ _ _ _ _ _ _ _ _ _ _ _ _ _ _ _ _ _ _ _ _ _ _ _ _ _ _ _ _ _ _ _ _ _ _ _ _ _ _ _ _ _ _ _ _ _ _ _ _ _ _ _ _ _ _ _ _ _ _ _ _ _ _ _ _ _ _ _ _ _ _ _ _ _ _ _ _ _ _ _ _ _ _ _ _ _ _ _ _ _ _ _ _ _ _ _ _ _ ?_ ?_
       ·intro c a a' w hd h
        cases a;cases a';cases hd;exact h
       ·intro F2 more2 v2 W' x79 u7 u8 u80 u81 u82 u83 u84 u85 u86 u87 u88 u89 u90 u91 u92 u93 u94 u95 u96 u97 u98 u99 u100 u101 u102 u103 u104 u105 u106 u107 u108 u109 u110 u111 u112 u113 u114 HM2
        go_wp2_with fail;go_end0
        exact HM2.out.done (Nat.le_of_lt (Nat.lt_of_lt_of_le HL1.out.2 HB3.out.size))
end
section
structure DdP(d:List St)(L:List Bool):Prop where
 len:L.length=d.length
 live:∀i:Nat,L[i]? =some false→(auOf d).live i
 fin:∀(i:Nat) s,d[i]? =some s→s.1=true→L[i]? =some false
def DdTo(d:List St)(L:List Bool)(i k:Nat):Prop:=(∀(y:Nat) s,y<i→L[y]? =some true→d[y]? =some s→∀a∈s.2,L[a.2.2.toNat]? =some true)∧∀s,d[i]? =some s→L[i]? =some true→∀a∈s.2.take k,L[a.2.2.toNat]? =some true
theorem DdTo.zero(d:List St)(L:List Bool):DdTo d L 0 0:=⟨fun y s h=>absurd h (by omega),fun s _ _ t ht=>by simp at ht⟩
theorem DdTo.next{d:List St}{L:List Bool}{i k:Nat}(h:DdTo d L i k)(he:∀s,d[i]? =some s→L[i]? =some true→s.2.length≤k):DdTo d L (i+1) 0:=by
 refine⟨fun y s hy hb hs t ht=>?_,fun s _ _ t ht=>by simp at ht⟩;by_cases e:y<i
 ·exact h.1 y s e hb hs t ht
 ·obtain rfl:y=i:=by omega
  exact h.2 s hs hb t (by rw[List.take_of_length_le (he s hs hb)];exact ht)
theorem DdTo.one{d:List St}{L:List Bool}{i k:Nat}{s:St}{a:Arc3}(h:DdTo d L i k)(hs:d[i]? =some s)(ha:s.2[k]? =some a)(hb:L[a.2.2.toNat]? =some true):DdTo d L i (k+1):=by
 refine⟨h.1,fun s' hs' hi u hu=>?_⟩;rw[hs]at hs';injection hs' with hs'
 subst hs';rw[List.take_add_one,ha]at hu;rcases List.mem_append.1 hu with hu|hu
 ·exact h.2 s hs hi u hu
 ·simp at hu
  rw[hu];exact hb
theorem DdP.set{d:List St}{L:List Bool}(hg:Good d)(h:DdP d L){i:Nat}{s:St}{a:Arc3}(hs:d[i]? =some s)(ha:a∈s.2)(hb:L[a.2.2.toNat]? =some false):DdP d (L.set i false):=by
 have hl:=(List.getElem?_eq_some_iff.1 hs).1;have hlive:(auOf d).live i:=by
  obtain⟨t,ht⟩:=h.live _ hb;have hm:=List.mem_of_getElem? hs;have hab:=(hg.asc s hm).ok a ha;have hto:=hg.to_ s hm a ha;refine⟨a.1.toNat::t,?_⟩;rw[Au.acc,if_pos (by omega)];have hst:(auOf d).step i a.1.toNat=some a.2.2.toNat:=by
   show(d[i]?).bind _=_;rw[hs];show(lookA s.2 (a.1.toNat:Int)).map Int.toNat=_;have hlk:lookA s.2 (a.1.toNat:Int)=some a.2.2:=by
    have:=(hg.asc s hm);rw[show((a.1.toNat:Nat):Int)=a.1 by omega];unfold lookA;obtain⟨l1,l2,e⟩:=List.append_of_mem ha;rw[e,List.find?_append];have hn:l1.find? (fun b=>decide (b.1≤a.1∧a.1≤b.2.1))=none:=by
     rw[List.find?_eq_none];intro b hb'
     have hlt:=this.lt;rw[e,List.pairwise_append]at hlt;have:=hlt.2.2 b hb' a (List.mem_cons_self ..);simp
     omega
    rw[hn];simp[hab.2.1]
   rw[hlk];rfl
  rw[hst];exact ht
 refine⟨by rw[List.length_set];exact h.len,fun y hy=>?_,fun y s' hy hf=>?_⟩
 ·rw[List.getElem?_set]at hy;split at hy
  ·rename_i e
   subst e;exact hlive
  ·exact h.live y hy
 ·rw[List.getElem?_set];split
  ·rename_i e
   subst e;rw[if_pos (by rw[h.len];exact hl)]
  ·exact h.fin y s' hy hf
theorem DdP.done{d:List St}{L:List Bool}(h:DdP d L)(hc:DdTo d L d.length 0):∀(t:List Nat) (i:Nat),L[i]? =some true→(auOf d).acc i t=false
 |
  [],i,hi=>by
  show((d[i]?).map (·.1)).getD false=false;cases hs:d[i]? with
  |none=>rfl
  |
   some s=>
   cases hf:s.1 with
   |false=>show s.1=false;exact hf
   |
    true=>
    have:=h.fin i s hs hf;rw[hi]at this;cases this
 |
  c::t,i,hi=>by
  rw[Au.acc];by_cases hc256:c<256
  ·rw[if_pos hc256];have hst:(auOf d).step i c=(d[i]?).bind fun s=>(lookA s.2 c).map Int.toNat:=rfl
   rw[hst];cases hs:d[i]? with
   |none=>rfl
   |
    some s=>
    simp only[Option.bind_some];cases hl:lookA s.2 c with
    |none=>rfl
    |
     some z=>
     unfold lookA at hl;obtain⟨a,ha,rfl⟩:=Option.map_eq_some_iff.1 hl;have hm:=List.mem_of_find?_eq_some ha;exact h.done hc t _ (hc.1 i s ((List.getElem?_eq_some_iff.1 hs).1) hi hs a hm)
  ·rw[if_neg hc256]
end
section
open Go.RowKit Go.Maps
def ons(L:List Bool):Nat:=(L.filter id).length
theorem zI0{L:List Bool}{i:Nat}(h:L[i]? =some true):ons (L.set i false)+1=ons L:=by
 unfold ons;induction L generalizing i with
 |nil=>simp at h
 |
  cons b r ih=>
  cases i with
  |
   zero=>
   simp at h
   subst h;simp
  |
   succ i=>
   simp at h
   have:=ih h;simp only[List.set_cons_succ];cases b<;>simp<;>omega
end
section
open Go.RowKit Go.Maps
theorem zGh(w W0:World)(B:Nat)(hB:B≤w.heap.size)(A:Option Addr)(n c:Nat)(H:List Sh)(HS:Hid (StsIn w B A n c H))(d:List St)(HD:Hid (H.map (·.d)=d))(HG:Hid (Good d))(hlen:H.length=n)(hcm:n≤20000)(i:Nat)(hi:i<n)(x:Sh)(HX:Hid (H[i]? =some x))(m:Nat)(HM:Hid (x.d.2.length=m))
  (ob oc gk:Nat) (L:List Bool) (more:Bool) (HR0:Hid (SpR w W0 ob oc n L)) (HP0:Hid (DdP d L∧(more=false→DdTo d L i 0)∧2*ons L+(if more then 1 else 0)+1≤gk))
  (c0 c1 c2 c4 c7 c9 c10 c11 c12 c13 c14 c15 c16 c17 c18 c19 c20 c21 c22 c23 c24 c25 c26 c27 c28 c29 c30 c31 c32 c33 c34 c35 c36 c59 c60 u8 u40 u41 u42 u43 u44 u45 u46 u47 u48 u49 u50 u51 u52 u53 u54 u55 u56 u57 u58:Value) (Q0:Exit→Act→World→Prop) (hQ0:∀c (a a':Act) w,a.defers=a'.defers→Q0 (.panic c) a w→Q0 (.panic c) a' w)
  (hexit:∀(L:List Bool) (more:Bool) (W:World) (x39 u8 u40 u41 u42 u43 u44 u45 u46 u47 u48 u49 u50 u51 u52 u53 u54 u55 u56 u57 u58:Value),Hid (SpR w W ob oc n L)→Hid (DdP d L∧(more=false→DdTo d L (i+1) 0)∧2*ons L+(if more then 1 else 0)+1≤gk)→Q0 (.exit 6) ⟨List.toArray (c0::c1::c2::.slice (some ⟨ob,0,none⟩) n oc::c4::.bool more::.int .i64 (i:Int)::c7::u8::c9::c10::c11::c12::c13::c14::c15::c16::c17::c18::c19::c20::c21::c22::c23::c24::c25::c26::c27::c28::c29::c30::c31::c32::c33::c34::c35::c36::.slice x.A m x.c::.int .i64 (m:Int)::x39::u40::u41::u42::u43::u44::u45::u46::u47::u48::u49::u50::u51::u52::u53::u54::u55::u56::u57::u58::c59::c60::[]),[]⟩ W):
  Code.wp Tryz.prog (.loop (zoc Tryz.f28 3)) Q0 ⟨List.toArray (c0::c1::c2::.slice (some ⟨ob,0,none⟩) n oc::c4::.bool more::.int .i64 (i:Int)::c7::u8::c9::c10::c11::c12::c13::c14::c15::c16::c17::c18::c19::c20::c21::c22::c23::c24::c25::c26::c27::c28::c29::c30::c31::c32::c33::c34::c35::c36::.slice x.A m x.c::.int .i64 (m:Int)::.int .i64 (0:Int)::u40::u41::u42::u43::u44::u45::u46::u47::u48::u49::u50::u51::u52::u53::u54::u55::u56::u57::u58::c59::c60::[]),[]⟩ W0:=by
 have HXM:=Lib.hid (List.mem_of_getElem? HX.out);have hmf:=(HS.out.ar x HXM.out).2;rw[HM.out]at hmf;obtain⟨hqc,hq20⟩:=hmf;have HXL:Hid (d[i]? =some x.d):=by show _=_;rw[←HD.out,List.getElem?_map,HX.out];rfl
 have hll:d.length=n:=by rw[←HD.out,List.length_map];exact hlen
 have HLL:=Lib.hid hll;clear hll;conv=>arg 2;arg 1;whnf
 go_loopw [5,39] (fun mv kv wr=>∃(k:Nat) (L:List Bool) (more:Bool),k≤m∧mv=.bool more∧kv=.int .i64 k∧Hid (SpR w wr ob oc n L)∧Hid (DdP d L∧(more=false→DdTo d L i k)∧2*ons L+(if more then 1 else 0)+1≤gk)) (fun _ kv _=>m-(intOf kv).toNat)
 case atStart=>exact⟨0,L,more,Nat.zero_le _,rfl,rfl,HR0,HP0⟩
 case round=>
  clear HR0 HP0;obtain⟨k,L,more,hk,rfl,rfl,HR,HP⟩:=hrel;have HW:=Lib.hid (HS.out.keep (HR.out.bel.mono hB) (Nat.le_refl _));have hbs:=HR.out.bel.size;have hLn:=HR.out.len;obtain⟨bi,hbi⟩:∃bi,L[i]? =some bi:=⟨L[i]'(by omega),List.getElem?_eq_getElem _⟩;have o0:=HR.out.get hbi;have hoc:=HR.out.cap;obtain⟨_,how,_⟩:=zb3 HR.out.own;have HBI:=Lib.hid hbi;have hi2:(i:Int)<(n:Int):=by omega
  clear hbi;by_cases hkm:k<m
  ·have hkm2:(k:Int)<(m:Int):=by omega
   have q0:decide ((k:Int)<(m:Int))=true:=decide_eq_true hkm2;have q01:decide (k<m)=true:=decide_eq_true hkm;obtain⟨fb,fo,hF,hfb,hfc⟩:=HW.out.arc HXM.out (by rw[HM.out];omega);obtain⟨⟨lo,hi',tt⟩,hz⟩:∃z,x.d.2[k]? =some z:=⟨x.d.2[k]'(by rw[HM.out];exact hkm),List.getElem?_eq_getElem _⟩;obtain⟨f0,f1,f2⟩:=hfc k _ hz;simp only at f0 f1 f2;have hzb:=HG.out.to_ x.d (List.mem_of_getElem? HXL.out) _ (List.mem_of_getElem? hz);rw[HLL.out]at hzb;simp only at hzb;obtain⟨t,rfl⟩:=Int.eq_ofNat_of_zero_le hzb.1;have ht:t<n:=by omega
   have ht2:(t:Int)<(n:Int):=by omega
   have hfw:fb<wr.heap.size:=by omega
   obtain⟨bt,hbt⟩:∃bi,L[t]? =some bi:=⟨L[t]'(by omega),List.getElem?_eq_getElem _⟩;have o1:=HR.out.get hbt;have HZ:=Lib.hid hz;have HBT:=Lib.hid hbt;have HF:=Lib.hid hF;rw[hF];have HRA:=Lib.hid (HR.out.keep (bnew (za0 wr) (.cells #[.int .i64 lo,.int .i64 hi',.int .i64 (t:Int)] 76)));clear hfc hz hbt hzb hF;cases bi
   ·have HPN:Hid (DdP d L∧(more=false→DdTo d L i (k+1))∧2*ons L+(if more then 1 else 0)+1≤gk):=⟨HP.out.1,fun h=>⟨(HP.out.2.1 h).1,fun s hs hb=>(by have h1:=HBI.out;rw[h1]at hb;cases hb)⟩,HP.out.2.2⟩;clear HP HR;go_wp2_with fail;go_roundw;case rel=>exact⟨k+1,L,more,by omega,rfl,by go_num,HRA,HPN⟩
    case measure=>simp[intOf];omega
   ·cases bt
    ·have HS1:=Lib.hid (HR.out.set i false);have hfz:=HS1.out.2.1;have HPN:Hid (DdP d (L.set i false)∧(true=false→DdTo d (L.set i false) i (k+1))∧2*ons (L.set i false)+(if true then 1 else 0)+1≤gk):=⟨HP.out.1.set HG.out HXL.out (List.mem_of_getElem? HZ.out) (by rw[show((lo,hi',(t:Int)):Arc3).2.2=(t:Int) from rfl,Int.toNat_natCast];exact HBT.out),(fun h=>by cases h),by
      have h1:=zI0 HBI.out;have h2:=HP.out.2.2;rw[if_pos rfl];omega⟩
     have HRN:=Lib.hid (HS1.out.1.keep (bnew (za0 _) (.cells #[.int .i64 lo,.int .i64 hi',.int .i64 (t:Int)] 76)));clear HS1 HR HP HRA;go_wp2_with fail;go_roundw;case rel=>exact⟨k+1,L.set i false,true,by omega,rfl,by go_num,HRN,HPN⟩
     case measure=>simp[intOf];omega
    ·have HPN:Hid (DdP d L∧(more=false→DdTo d L i (k+1))∧2*ons L+(if more then 1 else 0)+1≤gk):=⟨HP.out.1,fun h=>(HP.out.2.1 h).one HXL.out HZ.out (by rw[show((lo,hi',(t:Int)):Arc3).2.2=(t:Int) from rfl,Int.toNat_natCast];exact HBT.out),HP.out.2.2⟩;clear HP HR;go_wp2_with fail;go_roundw;case rel=>exact⟨k+1,L,more,by omega,rfl,by go_num,HRA,HPN⟩
     case measure=>simp[intOf];omega
  ·obtain rfl:k=m:=by omega
   have q0:decide ((k:Int)<(k:Int))=false:=decide_eq_false (by omega);have HPN:Hid (DdP d L∧(more=false→DdTo d L (i+1) 0)∧2*ons L+(if more then 1 else 0)+1≤gk):=⟨HP.out.1,fun h=>(HP.out.2.1 h).next fun s hs _=>(by
    have h1:=HXL.out;rw[hs]at h1;injection h1 with h1
    rw[h1,HM.out];exact Nat.le_refl _),HP.out.2.2⟩
   go_wp2_with fail;exact hexit L more wr _ _ _ _ _ _ _ _ _ _ _ _ _ _ _ _ _ _ _ _ _ HR HPN
end
section
theorem zed{σ:Type}(M:Au σ):∀(s:List Nat) (x:σ),(⟨M.fin,M.stepL⟩:Au σ).acc x s=M.acc x s
 |[],x=>rfl
 |
  c::r,x=>by
  rw[Au.acc,Au.acc];by_cases hc:c<256
  ·rw[if_pos hc,if_pos hc];show(match M.stepL x c with|some y=>_|none=>_)=_;unfold Au.stepL;cases hx:M.step x c with
   |none=>rfl
   |
    some y=>
    simp only
    by_cases hl:M.live y
    ·rw[if_pos hl];exact zed M r y
    ·rw[if_neg hl];simp only
     cases ha:M.acc y r with
     |false=>rfl
     |true=>exact absurd ⟨r,ha⟩ hl
  ·rw[if_neg hc,if_neg hc]
open Classical in
theorem zcg.leq{σ:Type}{M:Au σ}{x:σ}{out:List St}(h:zcg M x out):Leq (auOf out) 0 M x:=by
 rcases h with⟨hl,r,hr,f,hf,rfl⟩|⟨hl,rfl⟩
 ·intro s
  have hrefl:∀y,(zb6 M r).eqv ((zb6 M r).rep y) y=true:=fun y=>decide_eq_true (hr y)
  have hh:=zeb (zb6 M r) x f;have:=ztk (zb6 M r) M.fin (met:=(zb6 M r).run f 0 [x]) (fun z y hzy=>fun s=>by
   have hzy:Leq M z M y:=of_decide_eq_true hzy;exact(zed M s z).trans ((hzy s).trans (zed M s y).symm)) (fun y hy=>by
   obtain⟨j,hj⟩:=List.mem_iff_getElem?.1 hy;have h1:=(List.getElem?_eq_some_iff.1 hj).1;have h2:=List.getElem?_eq_none_iff.1 hf;exact Bfs.run_met _ hrefl x f j y (by omega) hj) s 0 x hh
  exact this.trans (zed M s x)
 ·intro s
  have:M.acc x s=false:=by
   cases ha:M.acc x s with
   |false=>rfl
   |true=>exact absurd ⟨s,ha⟩ hl
  rw[this];cases s with
  |nil=>rfl
  |
   cons c r=>
   rw[Au.acc];split
   ·rfl
   ·rfl
theorem zcg.ne{σ:Type}{M:Au σ}{x:σ}{out:List St}(h:zcg M x out):0<out.length:=by
 rcases h with⟨hl,r,hr,f,hf,rfl⟩|⟨hl,rfl⟩
 ·have hh:=(List.getElem?_eq_some_iff.1 (zeb (zb6 M r) x f)).1;unfold leastOf Bfs.out;rw[List.length_map];exact hh
 ·exact Nat.zero_lt_one
theorem zcg.good{σ:Type}{M:Au σ}{x:σ}{out:List St}(h:zcg M x out)(hl:out.length≤20000):Good out:=by
 have hn:=h.ne;rcases h with⟨_,r,hr,f,hf,rfl⟩|⟨_,rfl⟩
 ·have hh:=(List.getElem?_eq_some_iff.1 (zeb (zb6 M r) x f)).1;refine zu0 _ _ (fun e=>?_) (by unfold leastOf Bfs.out at hl;rwa[List.length_map]at hl);rw[e]at hh;cases hh
 ·exact(ze1 _).1 (by decide)
end
section
def toG(d:List St)(L:List Bool)(i c:Nat):Option Nat:=match(auOf d).step i c with
 |some y=>if L[y]? =some true then none else some y
 |none=>none
def Gone(d:List St)(L:List Bool):Prop:=L.length=d.length∧∀i:Nat,i<d.length→(L[i]? =some true↔¬(auOf d).live i)
theorem zjh{d:List St}(hg:Good d){L:List Bool}(h:Gone d L){i:Nat}(hi:i<d.length)(c:Nat):toG d L i c=(auOf d).stepL i c:=by
 unfold toG Au.stepL;cases hs:(auOf d).step i c with
 |none=>rfl
 |
  some y=>
  have hy:=hg.within i hi c y hs;simp only
  by_cases hl:(auOf d).live y
  ·rw[if_pos hl,if_neg fun e=>(h.2 y hy).1 e hl]
  ·rw[if_neg hl,if_pos ((h.2 y hy).2 hl)]
def zi3(F:List (List Bool))(i k:Nat):Option Bool:=(F[i]?).bind fun r=>r[k]?
def unl(d:List St)(L:List Bool)(F:List (List Bool))(i k c:Nat):Bool:=match toG d L i c,toG d L k c with
 |none,none=>false
 |some x,some y=>(zi3 F x y).getD true
 |_,_=>true
def unlB(d:List St)(L:List Bool)(F:List (List Bool))(i k:Nat):Bool:=(List.range 256).any (unl d L F i k)
structure ApP(d:List St)(F:List (List Bool)):Prop where
 len:F.length=d.length
 row:∀r∈F,r.length=d.length
 sound:∀i k,zi3 F i k=some true→∃t,(auOf d).acc i t≠(auOf d).acc k t
 base:∀i k,i<d.length→k<d.length→(auOf d).fin i≠(auOf d).fin k→zi3 F i k=some true
theorem zx2{d:List St}{F:List (List Bool)}(h:ApP d F){i k:Nat}(hi:i<d.length)(hk:k<d.length):∃b,zi3 F i k=some b:=by
 unfold zi3;have h1:i<F.length:=by rw[h.len];exact hi
 rw[List.getElem?_eq_getElem h1];have h2:=h.row F[i] (List.getElem_mem h1);exact⟨F[i][k]'(by omega),List.getElem?_eq_getElem _⟩
theorem z2b{F:List (List Bool)}{i k x y:Nat}{r:List Bool}(hr:F[i]? =some r)(hk:k<r.length):zi3 (F.set i (r.set k true)) x y=if x=i∧y=k then some true else zi3 F x y:=by
 unfold zi3;have hi:=(List.getElem?_eq_some_iff.1 hr).1;rw[List.getElem?_set];by_cases e:i=x
 ·subst e;rw[if_pos rfl,if_pos hi,hr];show(r.set k true)[y]? =if _ then _ else r[y]?
  rw[List.getElem?_set];by_cases e2:k=y
  ·subst e2;rw[if_pos rfl,if_pos hk,if_pos ⟨rfl,rfl⟩]
  ·rw[if_neg e2,if_neg fun h=>e2 h.2.symm]
 ·rw[if_neg e,if_neg fun h=>e h.1.symm]
theorem z63{d:List St}(hg:Good d){L:List Bool}(hL:Gone d L){F:List (List Bool)}(h:ApP d F){i k:Nat}(hi:i<d.length)(hk:k<d.length)(hu:unlB d L F i k=true):∃t,(auOf d).acc i t≠(auOf d).acc k t:=by
 unfold unlB at hu;obtain⟨c,hc,hu⟩:=List.any_eq_true.1 hu;have hc:=List.mem_range.1 hc;unfold unl at hu;rw[zjh hg hL hi,zjh hg hL hk]at hu;have key:∀(j:Nat) (t:List Nat),(auOf d).acc j (c::t)=match(auOf d).stepL j c with|some y=>(auOf d).acc y t|none=>false:=fun j t=>by
  rw[←zed (auOf d) (c::t) j,Au.acc,if_pos hc];rw[show(⟨(auOf d).fin,(auOf d).stepL⟩:Au Nat).step j c=(auOf d).stepL j c from rfl];cases (auOf d).stepL j c with
  |none=>rfl
  |some y=>exact zed (auOf d) t y
 have live:∀(j y:Nat),(auOf d).stepL j c=some y→(auOf d).live y:=fun j y hy=>by
  unfold Au.stepL at hy;split at hy
  ·split at hy
   ·rename_i hl
    injection hy with hy
    rw[←hy];exact hl
   ·cases hy
  ·cases hy
 have lt:∀(j y:Nat),j<d.length→(auOf d).stepL j c=some y→y<d.length:=fun j y hj hy=>by
  unfold Au.stepL at hy;split at hy
  ·rename_i z hz
   split at hy
   ·injection hy with hy
    rw[←hy];exact hg.within j hj c z hz
   ·cases hy
  ·cases hy
 cases hx:(auOf d).stepL i c with
 |
  none=>
  cases hy:(auOf d).stepL k c with
  |none=>rw[hx,hy]at hu;cases hu
  |
   some y=>
   obtain⟨t,ht⟩:=live k y hy;refine⟨c::t,?_⟩;rw[key,key,hx,hy];simp[ht]
 |
  some x=>
  cases hy:(auOf d).stepL k c with
  |
   none=>
   obtain⟨t,ht⟩:=live i x hx;refine⟨c::t,?_⟩;rw[key,key,hx,hy];simp[ht]
  |
   some y=>
   rw[hx,hy]at hu;obtain⟨b,hb⟩:=zx2 h (lt i x hi hx) (lt k y hk hy);simp only[hb,Option.getD_some]at hu;subst hu;obtain⟨t,ht⟩:=h.sound x y hb;refine⟨c::t,?_⟩;rw[key,key,hx,hy];exact ht
theorem ApP.done{d:List St}(hg:Good d){L:List Bool}(hL:Gone d L){F:List (List Bool)}(h:ApP d F)(hc:∀i k,i<d.length→k<d.length→zi3 F i k=some false→unlB d L F i k=false):∀(t:List Nat) (i k:Nat),i<d.length→k<d.length→zi3 F i k=some false→(auOf d).acc i t=(auOf d).acc k t
 |
  [],i,k,hi,hk,hf=>by
  show(auOf d).fin i=(auOf d).fin k;by_cases e:(auOf d).fin i=(auOf d).fin k
  ·exact e
  ·have:=h.base i k hi hk e;rw[hf]at this;cases this
 |
  c::t,i,k,hi,hk,hf=>by
  rw[←zed (auOf d) (c::t) i,←zed (auOf d) (c::t) k,Au.acc,Au.acc];by_cases hc256:c<256
  ·rw[if_pos hc256,if_pos hc256];have hu:=hc i k hi hk hf;unfold unlB at hu;have hu:=List.any_eq_false.1 hu c (List.mem_range.2 hc256);unfold unl at hu;rw[zjh hg hL hi,zjh hg hL hk]at hu;have lt:∀(j y:Nat),j<d.length→(auOf d).stepL j c=some y→y<d.length:=fun j y hj hy=>by
    unfold Au.stepL at hy;split at hy
    ·rename_i z hz
     split at hy
     ·injection hy with hy
      rw[←hy];exact hg.within j hj c z hz
     ·cases hy
    ·cases hy
   rw[show(⟨(auOf d).fin,(auOf d).stepL⟩:Au Nat).step i c=(auOf d).stepL i c from rfl,show(⟨(auOf d).fin,(auOf d).stepL⟩:Au Nat).step k c=(auOf d).stepL k c from rfl];cases hx:(auOf d).stepL i c with
   |
    none=>
    cases hy:(auOf d).stepL k c with
    |none=>rfl
    |some y=>rw[hx,hy]at hu;exact absurd rfl hu
   |
    some x=>
    cases hy:(auOf d).stepL k c with
    |none=>rw[hx,hy]at hu;exact absurd rfl hu
    |
     some y=>
     rw[hx,hy]at hu;obtain⟨b,hb⟩:=zx2 h (lt i x hi hx) (lt k y hk hy);simp only[hb,Option.getD_some]at hu;have hb2:zi3 F x y=some false:=by rw[hb];cases b with|false=>rfl|true=>exact absurd rfl hu
     have h3:=h.done hg hL hc t x y (lt i x hi hx) (lt k y hk hy) hb2;show(⟨(auOf d).fin,(auOf d).stepL⟩:Au Nat).acc x t=(⟨(auOf d).fin,(auOf d).stepL⟩:Au Nat).acc y t;rw[zed,zed];exact h3
  ·rw[if_neg hc256,if_neg hc256]
end
section
open Go.RowKit Go.Maps
theorem z9i{d:List St}:DdP d (d.map fun s=> !s.1):=by
 refine⟨List.length_map ..,fun i hi=>⟨[],?_⟩,fun i s hs hf=>?_⟩
 ·rw[List.getElem?_map]at hi;obtain⟨s,hs,hf⟩:=Option.map_eq_some_iff.1 hi;show((d[i]?).map (·.1)).getD false=true;rw[hs];show s.1=true;simpa using hf
 ·rw[List.getElem?_map,hs];show some (!s.1)=_;rw[hf];rfl
theorem zEa{d:List St}{L:List Bool}(h:DdP d L)(hc:DdTo d L d.length 0):Gone d L:=by
 refine⟨h.len,fun i hi=>⟨fun h1 ⟨t,ht⟩=>?_,fun h1=>?_⟩⟩
 ·rw[h.done hc t i h1]at ht;cases ht
 ·obtain⟨b,hb⟩:∃b,L[i]? =some b:=⟨L[i]'(by rw[h.len];exact hi),List.getElem?_eq_getElem _⟩;cases b with
  |true=>exact hb
  |false=>exact absurd (h.live i hb) h1
end
end Go.Proofs.YtaociahafamncaaGreatDoor
