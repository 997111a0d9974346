/- Folded. -/
import Derived.Laws.Rows
import Derived.Test.YtaociahafamncaaGreatDoorHM11
set_option maxRecDepth 100000
set_option maxHeartbeats 40000000
namespace Go.Proofs.YtaociahafamncaaGreatDoor
namespace F
open Go.RowKit Go.Maps
def zL5(w:World)(b:Nat)(R:Int×Nd×Int×Int×List UInt8):Ending→World→Prop:=fun e w'=>w.grownBy w' (some b)∧
 (
  (R.1=0∧∃A' c',e=.returned (.tuple #[.agg #[.bool R.2.1.fin,.int .i64 R.2.1.out,.slice A' R.2.1.ways.length c'],.int .i64 R.2.2.1,.int .i64 R.2.2.2.1,.int .i64 0])∧zek w' b R.2.2.2.2∧w'.ownsRow w.heap.size 107 3 (.slice A' R.2.1.ways.length c') R.2.1.ways.length (waysC R.2.1.ways))∨
  (R.1≠0∧∃x y A' m' c',e=.returned (.tuple #[.agg #[.bool x,.int .i64 y,.slice A' m' c'],.int .i64 0,.int .i64 0,.int .i64 R.1])))
theorem zCc(w:World)(p b base n c:Nat)(A As Ad:Option Addr)(ks kd:Nat)(sizes deep:List Int)(t:List UInt8)(h:RdAt w p b base A n c (.slice As n ks) (.slice Ad n kd) sizes deep t)(ht:t.length≤1125899906842624)(hn:n≤1125899906842624)
  (hs:∀x∈sizes,0≤x∧x≤65536) (hd:∀x∈deep,0≤x∧x≤64):
  Calls Tryz.prog 41 #[.pointer (some ⟨p,0,none⟩),.pointer (some ⟨b,0,none⟩),.slice As n ks,.slice Ad n kd] w (zL5 w b (zca n sizes deep t)):=by
 obtain⟨R,hR⟩:∃R,zca n sizes deep t=R:=⟨_,rfl⟩;rw[hR];have HR:=Lib.hid hR;have HH:=Lib.hid h;have hbw:b<w.heap.size:=(Array.getElem?_eq_some_iff.1 h.cur).1;have HC1:=Lib.hid (fun(W:World) (u:List UInt8) (hc:zek W b u) (hu:u.length≤1125899906842624)=>count_any W b u hc hu);have HS:=Lib.hid hs;have HD:=Lib.hid hd;clear hR h hs hd;have HW0:=Lib.hid (bnew (za0 w) (.cells #[.bool false,.int .i64 0,.slice none 0 0] 88));have HA0:=Lib.hid (HH.out.below HW0.out);have HN0:Hid (NwAt (w.alloc (.cells #[.bool false,.int .i64 0,.slice none 0 0] 88)) w.heap.size false 0 none 0 0 []):=⟨heap_alloc_new w _,⟨rfl,.inl ⟨rfl,rfl⟩⟩,rfl⟩;go_enter Tryz.func41,Tryz.ntmps41
 go_wp2_with fail;refine(HC1.out _ t HA0.out.cur ht).mono ?_;rintro e w1 ⟨rfl,hc1,hg1⟩;have HA1:=Lib.hid (CG.call ⟨HA0.out.cur,below_grown HW0.out (some b),hbw⟩ hc1 hg1);have HN1:=Lib.hid (HN0.out.grown hg1 hbw);have he1:=zcd t;have hl1:=zck t;clear hc1 hg1 HW0 HA0 HN0;obtain⟨v1,hv1⟩:∃v,(za3 t).1=v:=⟨_,rfl⟩;obtain⟨e1,hee1⟩:∃v,(za3 t).2.1=v:=⟨_,rfl⟩;obtain⟨t1,ht1⟩:∃v,(za3 t).2.2=v:=⟨_,rfl⟩;rw[hv1,hee1]at he1;rw[ht1]at hl1 HA1;rw[hv1,hee1];obtain⟨k0,k1,k2⟩:=HN1.out.cells;obtain⟨f0,f1,f2⟩:=HN1.out.free;by_cases hb1:e1=0
 ·subst hb1;have hp1:=he1 rfl;obtain⟨hp10,hp11⟩:=hp1;by_cases hb2:513<v1
  ·have hR2:Hid (R=(3,⟨false,0,[]⟩,0,0,[])):=by show _=_;rw[←HR.out,z05 hee1 (by rw[hv1];exact hb2)]
   have q2:decide (256<v1.tdiv 2)=true:=by
    rw[Int.tdiv_eq_ediv_of_nonneg hp10];simp
    omega
   have q3:decide (256<v1/2)=true:=by simp;omega
   clear he1 hl1 HC1;go_wp2_with fail;rw[zo0 HN1.out.blk];refine bodyPost_ret (zb5 rfl _ _ _ _ rfl (zd1 HN1.out.blk rfl)) rfl ?_;refine⟨HA1.out.gr,.inr ⟨by rw[hR2.out];simp,_,_,_,_,_,by rw[hR2.out];rfl⟩⟩
  ·have q2:decide (256<v1/2)=false:=by simp;omega
   obtain⟨K,hK⟩:∃K:Nat,v1/2=(K:Int):=⟨(v1/2).toNat,by omega⟩;have hK256:K≤256:=by omega
   have HFIN:v1%2=1→(za3 t1).2.1=0→Hid (zk9 true (za3 t1).1 (rdW n sizes deep K [] 1 0 (za3 t1).2.2)=R):=by
    intro ho h0
    show _=_;rw[←HR.out,ztg hee1 (by rw[hv1];omega) (by rw[hv1];exact ho) (by rw[ht1];exact h0),ht1,hv1,hK,Int.toNat_natCast]
   have HNOF:¬v1%2=1→Hid (zk9 false 0 (rdW n sizes deep K [] 0 0 t1)=R):=by
    intro ho
    show _=_;rw[←HR.out,ztf hee1 (by rw[hv1];omega) (by rw[hv1];exact ho),ht1,hv1,hK,Int.toNat_natCast]
   have HERR:v1%2=1→(za3 t1).2.1≠0→R=((za3 t1).2.1,⟨false,0,[]⟩,0,0,[]):=by
    intro ho h0
    rw[←HR.out,z04 hee1 (by rw[hv1];omega) (by rw[hv1];exact ho) (by rw[ht1];exact h0),ht1]
   have HFIN:=Lib.hid HFIN;have HNOF:=Lib.hid HNOF;have HERR:=Lib.hid HERR;clear he1 HR hv1 hee1 ht1;by_cases hodd:v1%2=1
   have q3:(v1%2==1)=true:=by simpa using hodd
   go_wp2_with fail;have HA2:=Lib.hid (HA1.out.set (Nat.le_refl _) 0 (.bool true));have HN2:=Lib.hid (HN1.out.setFin true);generalize w1.setCell ⟨w.heap.size,0,none⟩ (.bool true)=w2 at*;refine(HC1.out _ t1 HA2.out.cur (by omega)).mono ?_;rintro e w3 ⟨rfl,hc3,hg3⟩;have HA3:=Lib.hid (HA2.out.call hc3 hg3);have HN3:=Lib.hid (HN2.out.grown hg3 hbw);have he3:=zcd t1;have hl3:=zck t1;have HFIN2:=Lib.hid (HFIN.out hodd);have HERR2:=Lib.hid (HERR.out hodd);clear hc3 hg3 HA2 HN2 HA1 HN1 k0 k1 k2 f0 f1 f2 HFIN HERR HNOF;clear HFIN HERR HNOF;generalize(za3 t1).1=v3 at*;generalize(za3 t1).2.1=e3 at*;generalize(za3 t1).2.2=t3 at*;obtain⟨f0,f1,f2⟩:=HN3.out.free;have HA4:=Lib.hid (HA3.out.set (Nat.le_refl _) 1 (.int .i64 v3));have HN4:=Lib.hid (HN3.out.setOut v3);obtain⟨k0,k1,k2⟩:=HN3.out.cells;by_cases hb3:e3=0
   rotate_left
   ·have q4:(e3 !=0)=true:=by simpa using hb3
    have hR2:=Lib.hid (HERR2.out hb3);clear HERR2 HFIN2 he3;go_wp2_with fail;rw[zo0 HN4.out.blk];refine bodyPost_ret (zb5 rfl _ _ _ _ rfl (zd1 HN4.out.blk rfl)) rfl ?_;refine⟨HA4.out.gr,.inr ⟨by rw[hR2.out];exact hb3,_,_,_,_,_,by rw[hR2.out];rfl⟩⟩
   rotate_left
   subst hb3;have HR3:=Lib.hid (HFIN2.out rfl).out;have hp3:=he3 rfl;clear HERR2 HFIN2 he3;go_wp2_with fail;generalize w3.setCell ⟨w.heap.size,1,none⟩ (.int .i64 v3)=W0 at*;obtain⟨fin0,hfin0⟩:∃f,f=true:=⟨_,rfl⟩;have HPF:Hid (zbd v3):=hp3;have hl3:t3.length≤1125899906842624:=by omega
   have hrow0:=fin0;rw[←hfin0]at HN4 HR3;clear HA3 HN3 k0 k1 k2 f0 f1 f2 hl1 q3 q2 hodd hp3 hfin0 hrow0;rotate_left
   have q3:(v1%2==1)=false:=by simpa using hodd
   have HR3:=Lib.hid (HNOF.out hodd).out;have HA4:=Lib.hid (HA1.out.set (Nat.le_refl _) 0 (.bool false));have HN4:=Lib.hid (HN1.out.setFin false);clear HFIN HERR HNOF;clear HFIN HERR HNOF;go_wp2_with fail;try simp only[q3]
   generalize w1.setCell ⟨w.heap.size,0,none⟩ (.bool false)=W0 at*;obtain⟨fin0,hfin0⟩:∃f,f=false:=⟨_,rfl⟩;obtain⟨v3,hv3⟩:∃f:Int,f=0:=⟨_,rfl⟩;have HPF:Hid (zbd v3):=by rw[hv3];exact⟨by omega,by omega⟩
   obtain⟨t3,ht3⟩:∃f,f=t1:=⟨_,rfl⟩;have hl3:t3.length≤1125899906842624:=by rw[ht3];omega
   have HR3:Hid (zk9 fin0 v3 (rdW n sizes deep K [] 0 0 t3)=R):=by rw[hfin0,hv3,ht3];exact HR3
   rw[←hfin0,←hv3]at HN4;rw[←ht3]at HA4;clear HA1 HN1 k0 k1 k2 f0 f1 f2 hl1 q3 q2 hodd hfin0 hv3 ht3;rotate_left
   all_goals
    try rw[hK]
    try generalize(v1%2==1)=bq at*
    try generalize v1%2=rq at*
    try generalize decide (256<((K:Nat):Int))=bk at*
    clear hK;go_loopw [9,10,46] (fun sv dv kv wr=>∃(j:Nat) (ws:Ways) (A':Option Addr) (c':Nat) (s d:Int) (u:List UInt8),j≤K∧kv=.int .i64 j∧sv=.int .i64 s∧dv=.int .i64 d∧(0≤s∧s≤65536*j+1∧0≤d∧d≤65)∧u.length≤1125899906842624∧Hid (CG w wr b u)∧Hid (NwAt wr w.heap.size fin0 v3 A' j c' ws)∧Hid (zk9 fin0 v3 (rdW n sizes deep (K-j) ws s d u)=R)) (fun _ _ kv _=>K-(intOf kv).toNat)
    case atStart=>first|exact⟨0,[],none,0,1,0,t3,Nat.zero_le _,rfl,rfl,rfl,⟨by omega,by omega,by omega,by omega⟩,hl3,HA4,HN4,HR3⟩|exact⟨0,[],none,0,0,0,t3,Nat.zero_le _,rfl,rfl,rfl,⟨by omega,by omega,by omega,by omega⟩,hl3,HA4,HN4,HR3⟩
    case round=>
     obtain⟨j,ws,A',c',s,d,u,hj,rfl,rfl,rfl,⟨hs0,hs1,hd0,hd1⟩,hul,HC,HN,HQ⟩:=hrel;clear HA4 HN4 HR3;by_cases hjK:j<K
     ·obtain⟨RR,hRR⟩:∃RR,rdN 3 [] u=RR:=⟨_,rfl⟩;have HRR:=Lib.hid hRR;have hnv:=Lib.hid (bnew (za0 wr) (.cells #[.int .i64 0,.int .i64 0,.int .i64 0] 126));have HC2:=Lib.hid (HC.out.below (hnv.out.mono HC.out.gr.size));have HN2:=Lib.hid (HN.out.below hnv.out);have HV2:Hid ((wr.alloc (.cells #[.int .i64 0,.int .i64 0,.int .i64 0] 126)).heap[wr.heap.size]? =some (.cells #[.int .i64 0,.int .i64 0,.int .i64 0] 126 (0,0))):=heap_alloc_new wr _;have hwr:=HC.out.gr.size;have hVN:wr.heap.size≠w.heap.size:=by have:=HN.out.lt;omega
      clear hRR hnv HC HN;go_wp2_with fail;generalize wr.alloc (.cells #[.int .i64 0,.int .i64 0,.int .i64 0] 126)=W1 at*;generalize wr.heap.size=V at*;go_loopw [9,10,48] (fun sv dv iv wq=>sv=.int .i64 s∧dv=.int .i64 d∧∃(z a0 a1 a2:Int) (u':List UInt8),iv=.int .i64 z∧u'.length≤1125899906842624∧Hid (wq.heap[V]? =some (.cells #[.int .i64 a0,.int .i64 a1,.int .i64 a2] 126 (0,0)))∧Hid (CG w wq b u')∧Hid (NwAt wq w.heap.size fin0 v3 A' j c' ws)∧
       ((z=0∧Hid (rdN 3 [] u'=RR))∨(z=1∧Hid (zbd a0∧rdN 2 [a0] u'=RR))∨(z=2∧Hid (zbd a0∧zbd a1∧rdN 1 [a0,a1] u'=RR))∨(z=3∧Hid (zbd a0∧zbd a1∧zbd a2∧RR=(0,[a0,a1,a2],u'))))) (fun _ _ iv _=>(3-intOf iv).toNat)
      case atStart=>exact⟨rfl,rfl,0,0,0,0,u,rfl,hul,HV2,HC2,HN2,.inl ⟨rfl,HRR⟩⟩
      case round=>
       obtain⟨rfl,rfl,z,a0,a1,a2,u',rfl,hul',HV,HCq,HNq,hz⟩:=hrel;clear HC2 HN2 HV2;rcases hz with⟨rfl,HZ⟩|⟨rfl,HZ⟩|⟨rfl,HZ⟩|⟨rfl,HZ⟩
       ·have HNX:Hid ((za3 u').2.1=0→Hid (zbd (za3 u').1∧rdN 2 [(za3 u').1] (za3 u').2.2=RR)):=fun h0=>⟨zcd u' h0,by rw[←HZ.out,zvb [] 2 h0];rfl⟩
        have HEX:Hid ((za3 u').2.1≠0→∃r,RR=((za3 u').2.1,r)):=fun h0=>⟨_,by rw[←HZ.out,zth [] 2 h0]⟩
        go_wp2_with fail;refine(HC1.out _ u' HCq.out.cur hul').mono ?_;rintro e w5 ⟨rfl,hc5,hg5⟩;have HC5:=Lib.hid (HCq.out.call hc5 hg5);have HN5:=Lib.hid (HNq.out.grown hg5 hbw);have HV5:=Lib.hid ((hg5.block V (Array.getElem?_eq_some_iff.1 HV.out).1 (by simp;omega)).trans HV.out);have hl5:=zck u';clear hc5 hg5 HCq HNq HV HZ;generalize(za3 u').1=x at*;generalize(za3 u').2.1=ee at*;generalize(za3 u').2.2=t5 at*;have kv0:=cell_of_row _ V 0 _ _ (0,0) HV5.out;simp at kv0
        have fv:w5.frozen? ⟨V,0,none⟩=false:=by simp[World.frozen?,HV5.out]
        have HC6:=Lib.hid (HC5.out.set (N:=V) hwr 0 (.int .i64 x));have HN6:=Lib.hid (HN5.out.setAt (V:=V) (i:=0) (v:=.int .i64 x) hVN HV5.out);have HV6:Hid ((w5.setCell ⟨V,0,none⟩ (.int .i64 x)).heap[V]? =some (.cells #[.int .i64 x,.int .i64 a1,.int .i64 a2] 126 (0,0))):=by
         show _=_;simp[World.setCell,Array.getElem?_modify,HV5.out]
        have hl6:t5.length≤1125899906842624:=by omega
        obtain⟨k0,k1,k2⟩:=HN5.out.cells;obtain⟨f0,f1,f2⟩:=HN5.out.free;by_cases h5:ee=0
        ·subst h5;clear HEX HC5 HN5 HV5 k0 k1 k2 f0 f1 f2 hl5;go_wp2_with fail;go_roundw;case rel=>exact⟨rfl,rfl,_,x,a1,a2,t5,rfl,hl6,HV6,HC6,HN6,.inr (.inl ⟨rfl,HNX.out (by trivial)⟩)⟩
         case measure=>simp[intOf]
        ·have q9:(ee !=0)=true:=by simpa using h5
         obtain⟨r,hr⟩:=HEX.out h5;have hR2:Hid (R=(ee,⟨false,0,[]⟩,0,0,[])):=by
          show _=_;rw[←HQ.out,show K-j=(K-j-1)+1 by omega,zte (acc:=r.1) (u:=r.2) (by rw[HRR.out,hr]) h5,zk8 h5]
         clear HEX HNX HQ HRR hr;go_wp2_with fail;rw[zo0 HN6.out.blk];refine bodyPost_ret (zb5 rfl _ _ _ _ rfl (zd1 HN6.out.blk rfl)) rfl ?_;refine⟨HC6.out.gr,.inr ⟨by rw[hR2.out];exact h5,_,_,_,_,_,by rw[hR2.out];rfl⟩⟩
       ·have HNX:Hid ((za3 u').2.1=0→Hid (zbd a0∧zbd (za3 u').1∧rdN 1 [a0,(za3 u').1] (za3 u').2.2=RR)):=fun h0=>⟨HZ.out.1,zcd u' h0,by rw[←HZ.out.2,zvb [a0] 1 h0];rfl⟩
        have HEX:Hid ((za3 u').2.1≠0→∃r,RR=((za3 u').2.1,r)):=fun h0=>⟨_,by rw[←HZ.out.2,zth [a0] 1 h0]⟩
        go_wp2_with fail;refine(HC1.out _ u' HCq.out.cur hul').mono ?_;rintro e w5 ⟨rfl,hc5,hg5⟩;have HC5:=Lib.hid (HCq.out.call hc5 hg5);have HN5:=Lib.hid (HNq.out.grown hg5 hbw);have HV5:=Lib.hid ((hg5.block V (Array.getElem?_eq_some_iff.1 HV.out).1 (by simp;omega)).trans HV.out);have hl5:=zck u';clear hc5 hg5 HCq HNq HV HZ;generalize(za3 u').1=x at*;generalize(za3 u').2.1=ee at*;generalize(za3 u').2.2=t5 at*;have kv1:=cell_of_row _ V 1 _ _ (0,0) HV5.out;simp at kv1
        have fv:w5.frozen? ⟨V,1,none⟩=false:=by simp[World.frozen?,HV5.out]
        have HC6:=Lib.hid (HC5.out.set (N:=V) hwr 1 (.int .i64 x));have HN6:=Lib.hid (HN5.out.setAt (V:=V) (i:=1) (v:=.int .i64 x) hVN HV5.out);have HV6:Hid ((w5.setCell ⟨V,1,none⟩ (.int .i64 x)).heap[V]? =some (.cells #[.int .i64 a0,.int .i64 x,.int .i64 a2] 126 (0,0))):=by
         show _=_;simp[World.setCell,Array.getElem?_modify,HV5.out]
        have hl6:t5.length≤1125899906842624:=by omega
        obtain⟨k0,k1,k2⟩:=HN5.out.cells;obtain⟨f0,f1,f2⟩:=HN5.out.free;by_cases h5:ee=0
        ·subst h5;clear HEX HC5 HN5 HV5 k0 k1 k2 f0 f1 f2 hl5;go_wp2_with fail;go_roundw;case rel=>exact⟨rfl,rfl,_,a0,x,a2,t5,rfl,hl6,HV6,HC6,HN6,.inr (.inr (.inl ⟨rfl,HNX.out (by trivial)⟩))⟩
         case measure=>simp[intOf]
        ·have q9:(ee !=0)=true:=by simpa using h5
         obtain⟨r,hr⟩:=HEX.out h5;have hR2:Hid (R=(ee,⟨false,0,[]⟩,0,0,[])):=by
          show _=_;rw[←HQ.out,show K-j=(K-j-1)+1 by omega,zte (acc:=r.1) (u:=r.2) (by rw[HRR.out,hr]) h5,zk8 h5]
         clear HEX HNX HQ HRR hr;go_wp2_with fail;rw[zo0 HN6.out.blk];refine bodyPost_ret (zb5 rfl _ _ _ _ rfl (zd1 HN6.out.blk rfl)) rfl ?_;refine⟨HC6.out.gr,.inr ⟨by rw[hR2.out];exact h5,_,_,_,_,_,by rw[hR2.out];rfl⟩⟩
       ·have HNX:Hid ((za3 u').2.1=0→Hid (zbd a0∧zbd a1∧zbd (za3 u').1∧RR=(0,[a0,a1,(za3 u').1],(za3 u').2.2))):=fun h0=>⟨HZ.out.1,HZ.out.2.1,zcd u' h0,by rw[←HZ.out.2.2,zvb [a0,a1] 0 h0];rfl⟩
        have HEX:Hid ((za3 u').2.1≠0→∃r,RR=((za3 u').2.1,r)):=fun h0=>⟨_,by rw[←HZ.out.2.2,zth [a0,a1] 0 h0]⟩
        go_wp2_with fail;refine(HC1.out _ u' HCq.out.cur hul').mono ?_;rintro e w5 ⟨rfl,hc5,hg5⟩;have HC5:=Lib.hid (HCq.out.call hc5 hg5);have HN5:=Lib.hid (HNq.out.grown hg5 hbw);have HV5:=Lib.hid ((hg5.block V (Array.getElem?_eq_some_iff.1 HV.out).1 (by simp;omega)).trans HV.out);have hl5:=zck u';clear hc5 hg5 HCq HNq HV HZ;generalize(za3 u').1=x at*;generalize(za3 u').2.1=ee at*;generalize(za3 u').2.2=t5 at*;have kv2:=cell_of_row _ V 2 _ _ (0,0) HV5.out;simp at kv2
        have fv:w5.frozen? ⟨V,2,none⟩=false:=by simp[World.frozen?,HV5.out]
        have HC6:=Lib.hid (HC5.out.set (N:=V) hwr 2 (.int .i64 x));have HN6:=Lib.hid (HN5.out.setAt (V:=V) (i:=2) (v:=.int .i64 x) hVN HV5.out);have HV6:Hid ((w5.setCell ⟨V,2,none⟩ (.int .i64 x)).heap[V]? =some (.cells #[.int .i64 a0,.int .i64 a1,.int .i64 x] 126 (0,0))):=by
         show _=_;simp[World.setCell,Array.getElem?_modify,HV5.out]
        have hl6:t5.length≤1125899906842624:=by omega
        obtain⟨k0,k1,k2⟩:=HN5.out.cells;obtain⟨f0,f1,f2⟩:=HN5.out.free;by_cases h5:ee=0
        ·subst h5;clear HEX HC5 HN5 HV5 k0 k1 k2 f0 f1 f2 hl5;go_wp2_with fail;go_roundw;case rel=>exact⟨rfl,rfl,_,a0,a1,x,t5,rfl,hl6,HV6,HC6,HN6,.inr (.inr (.inr ⟨rfl,HNX.out (by trivial)⟩))⟩
         case measure=>simp[intOf]
        ·have q9:(ee !=0)=true:=by simpa using h5
         obtain⟨r,hr⟩:=HEX.out h5;have hR2:Hid (R=(ee,⟨false,0,[]⟩,0,0,[])):=by
          show _=_;rw[←HQ.out,show K-j=(K-j-1)+1 by omega,zte (acc:=r.1) (u:=r.2) (by rw[HRR.out,hr]) h5,zk8 h5]
         clear HEX HNX HQ HRR hr;go_wp2_with fail;rw[zo0 HN6.out.blk];refine bodyPost_ret (zb5 rfl _ _ _ _ rfl (zd1 HN6.out.blk rfl)) rfl ?_;refine⟨HC6.out.gr,.inr ⟨by rw[hR2.out];exact h5,_,_,_,_,_,by rw[hR2.out];rfl⟩⟩
       ·obtain⟨hz0,hz1,hz2,hzR⟩:=HZ.out;have kv0:=cell_of_row _ V 0 _ _ (0,0) HV.out;have kv1:=cell_of_row _ V 1 _ _ (0,0) HV.out;have kv2:=cell_of_row _ V 2 _ _ (0,0) HV.out;simp at kv0 kv1 kv2
        have kp:=(HCq.out.rd HH.out).cell;obtain⟨k0,k1,k2⟩:=HNq.out.cells;obtain⟨f0,f1,f2⟩:=HNq.out.free;have hKj:K-j=(K-j-1)+1:=by omega
        have HRB:Hid ((255<a0∨(n:Int)≤a2)→R=(3,⟨false,0,[]⟩,0,0,[])):=fun hb=>by
         rw[←HQ.out,hKj,z7d (by rw[HRR.out,hzR]) hb,zk8 (by omega)]
        by_cases g1:255<a0
        ·have hR2:=Lib.hid (HRB.out (.inl g1));have q1:decide (255<a0)=true:=by simpa using g1
         clear HRB HZ HQ HRR hzR hz0 hz1 hz2 hKj;go_wp2_with fail;go_quiet (fail)
         go_wp2_with fail;have HND:=HNq.out.below (below_drewN (za0 _) nq);rw[zo0 HND.blk];refine bodyPost_ret (zb5 rfl _ _ _ _ rfl (zd1 HND.blk rfl)) rfl ?_;refine⟨(HCq.out.below (below_drewN (Below.refl _ _) nq)).gr,.inr ⟨by rw[hR2.out];simp,_,_,_,_,_,by rw[hR2.out];rfl⟩⟩
        by_cases g2:(n:Int)≤a2
        ·have hR2:=Lib.hid (HRB.out (.inr g2));have q1:decide (255<a0)=false:=by simp;omega
         have q2:decide ((n:Int)≤a2)=true:=by simpa using g2
         clear HRB HZ HQ HRR hzR hz0 hz1 hz2 hKj;go_wp2_with fail;go_quiet (fail)
         go_wp2_with fail;have HND:=HNq.out.below (below_drewN (za0 _) nq);rw[zo0 HND.blk];refine bodyPost_ret (zb5 rfl _ _ _ _ rfl (zd1 HND.blk rfl)) rfl ?_;refine⟨(HCq.out.below (below_drewN (Below.refl _ _) nq)).gr,.inr ⟨by rw[hR2.out];simp,_,_,_,_,_,by rw[hR2.out];rfl⟩⟩
        obtain⟨q,rfl⟩:=Int.eq_ofNat_of_zero_le hz2.1;have hqn:q<n:=by omega
        have hrd:=HCq.out.rd HH.out;obtain⟨gs,hAs,hgs0,hgs1⟩:=zah hrd.sz (by omega);obtain⟨gd,hAd,hgd0,hgd1⟩:=zah hrd.dp (by omega);subst hAs hAd;have hsl:sizes.length=n:=by have:=hrd.sz.1;simpa using this
        have hdl:deep.length=n:=by have:=hrd.dp.1;simpa using this
        obtain⟨x,hx⟩:∃x,sizes[q]? =some x:=⟨sizes[q]'(by omega),List.getElem?_eq_getElem _⟩;obtain⟨y,hy⟩:∃y,deep[q]? =some y:=⟨deep[q]'(by omega),List.getElem?_eq_getElem _⟩;have hxs:sizes.getD q 0=x:=by rw[List.getD_eq_getElem?_getD,hx];rfl
        have hyd:deep.getD q 0=y:=by rw[List.getD_eq_getElem?_getD,hy];rfl
        obtain⟨hx0,hx1⟩:=HS.out x (List.mem_of_getElem? hx);obtain⟨hy0,hy1⟩:=HD.out y (List.mem_of_getElem? hy);have HQ2:Hid (zk9 fin0 v3 (rdW n sizes deep (K-(j+1)) (ws++[(a0,a1,(q:Int))]) (s+x) (if 0<x then max d (y+1)else d) u')=R):=by
         show _=_;rw[←HQ.out,hKj,z7c (by rw[HRR.out,hzR]) (by omega) hqn,hxs,hyd];rfl
        have HCELL:Hid (∀(W:World),CG w W b u'→W.cell? ⟨gs,q,none⟩=some (.int .i64 x)∧W.cell? ⟨gd,q,none⟩=some (.int .i64 y)):=fun W hc=>by
         have hr:=hc.rd HH.out;have c1:=hr.sz.cells (g:=gs) rfl q (.int .i64 x) (by rw[List.getElem?_map,hx];rfl);have c2:=hr.dp.cells (g:=gd) rfl q (.int .i64 y) (by rw[List.getElem?_map,hy];rfl);rw[Addr.add_lit,Nat.zero_add]at c1 c2;exact⟨c1,c2⟩
        obtain⟨SS,hSS⟩:∃SS,s+x=SS:=⟨_,rfl⟩;have hw1:IntKind.i64.wrap (s+x)=SS:=by rw[hSS];exact IntWalk.i64_in _ (by omega)
        have hw2:IntKind.i64.wrap (y+1)=y+1:=IntWalk.i64_in _ (by omega);rw[hSS]at HQ2;have q1:decide (255<a0)=false:=by simp;omega
        have q2:decide ((n:Int)≤(q:Int))=false:=by simp;omega
        have q3:decide (n≤q)=false:=by simp;omega
        have hgsN:gs≠w.heap.size:=fun e=>by
         have h1:=HNq.out.blk;rcases za5 hrd.sz h1 (by decide)with h|h
         ·cases h
         ·exact h (by rw[e];rfl)
        have hgdN:gd≠w.heap.size:=fun e=>by
         have h1:=HNq.out.blk;rcases za5 hrd.dp h1 (by decide)with h|h
         ·cases h
         ·exact h (by rw[e];rfl)
        have HSB:Hid (0≤SS∧SS≤65536*((j+1:Nat):Int)+1):=⟨by omega,by omega⟩;clear HRB HZ HQ HRR hzR hKj hrd hx hy hxs hyd hsl hdl;go_wp2_with fail;go_quiet (fail)
        have HCd:=Lib.hid (HCq.out.below (below_drewN (Below.refl _ _) nq));have HNd:=Lib.hid (HNq.out.below (below_drewN (za0 _) nq));have HVd:Hid ((wr.drewN nq).heap[V]? =some (.cells #[.int .i64 a0,.int .i64 a1,.int .i64 (q:Int)] 126 (0,0))):=HV.out;clear HCq HNq HV kv0 kv1 kv2 kp k0 k1 k2 f0 f1 f2;generalize wr.drewN nq=Wd at*;have kv0:=cell_of_row _ V 0 _ _ (0,0) HVd.out;have kv1:=cell_of_row _ V 1 _ _ (0,0) HVd.out;have kv2:=cell_of_row _ V 2 _ _ (0,0) HVd.out;simp at kv0 kv1 kv2
        obtain⟨k0,k1,k2⟩:=HNd.out.cells;have HNE:Hid (some V≠(Value.slice A' j c').ownBlock):=fun e=>by
         rcases za5 HNd.out.own HVd.out (by decide)with h|h
         ·rw[h]at e;cases e
         ·exact h e.symm
        have HNE2:Hid (some w.heap.size≠(Value.slice A' j c').ownBlock):=fun e=>by
         have:=(HNd.out.own.lt _ e.symm).1;omega
        have hjl:j+1≤4294967296:=by omega
        have hWN:w.heap.size<Wd.heap.size:=HNd.out.lt;have HSTEP:Hid (∀(w1:World) (A1:Option Addr) (c1:Nat),w1.ownsRow (w.heap.size+1) 107 3 (.slice A1 (j+1) c1) (j+1) (waysC ws++[.int .i64 a0,.int .i64 a1,.int .i64 (q:Int)])→Wd.grownBy w1 (Value.slice A' j c').ownBlock→
          (w1.cell? ⟨V,2,none⟩=some (.int .i64 (q:Int))∧w1.cell? ⟨w.heap.size,2,none⟩=some (.slice A' j c')∧w1.frozen? ⟨w.heap.size,2,none⟩=false∧w1.cell? ⟨gs,q,none⟩=some (.int .i64 x)∧w1.cell? ⟨gd,q,none⟩=some (.int .i64 y))∧
          Hid (CG w (w1.setCell ⟨w.heap.size,2,none⟩ (.slice A1 (j+1) c1)) b u'∧NwAt (w1.setCell ⟨w.heap.size,2,none⟩ (.slice A1 (j+1) c1)) w.heap.size fin0 v3 A1 (j+1) c1 (ws++[(a0,a1,(q:Int))]))):=fun w1 A1 c1 ho hg=>by
         have hVlt:=(Array.getElem?_eq_some_iff.1 HVd.out).1;have b1:=(hg.block V hVlt HNE.out).trans HVd.out;have b2:=(hg.block _ HNd.out.lt HNE2.out).trans HNd.out.blk;have hcw1:CG w w1 b u':=HCd.out.below ((Below.refl _ Wd).grown hg (by omega) (fun k hk=>by have:=(HNd.out.own.lt k hk).1;omega));have hcell:=HCELL.out w1 hcw1;exact⟨⟨cell_of_row _ V 2 _ _ (0,0) b1,cell_of_row _ _ 2 _ _ (0,0) b2,by simp[World.frozen?,b2],hcell.1,hcell.2⟩,HCd.out.below (HNd.out.pushBelow hg (Nat.le_refl _)),HNd.out.push hg ho⟩
        by_cases hpos:0<x
        ·have q5:decide (0<x)=true:=by simpa using hpos
         rw[if_pos hpos]at HQ2;go_wp2_with (at_builtin;refine zab Wd _ _ rfl _ _ _ rfl z24 _ _ _ rfl HNd.out.own rfl (by simp) rfl (by simp[Value.oneCell']) (by unfold maxLen;omega) (by omega) (by omega) (Below.refl _ _) ?_;intro v1' w1 hown1 hb1 hg1 _;obtain⟨A1,c1,rfl,_⟩:=za1 hown1;obtain⟨⟨kw2,kn2,fn2,kgs,kgd⟩,HST⟩:=HSTEP.out w1 A1 c1 hown1 hg1)
         obtain⟨HC6,HN6⟩:=HST.out;have HC6:=Lib.hid HC6;have HN6:=Lib.hid HN6;go_roundw;case rel=>exact⟨j+1,_,A1,c1,SS,_,u',by omega,by go_num,rfl,rfl,⟨HSB.out.1,HSB.out.2,by omega,by omega⟩,hul',HC6,HN6,HQ2⟩
         case measure=>simp[intOf];omega
        ·have q5:decide (0<x)=false:=by simpa using hpos
         rw[if_neg hpos]at HQ2;go_wp2_with (at_builtin;refine zab Wd _ _ rfl _ _ _ rfl z24 _ _ _ rfl HNd.out.own rfl (by simp) rfl (by simp[Value.oneCell']) (by unfold maxLen;omega) (by omega) (by omega) (Below.refl _ _) ?_;intro v1' w1 hown1 hb1 hg1 _;obtain⟨A1,c1,rfl,_⟩:=za1 hown1;obtain⟨⟨kw2,kn2,fn2,kgs,kgd⟩,HST⟩:=HSTEP.out w1 A1 c1 hown1 hg1)
         obtain⟨HC6,HN6⟩:=HST.out;have HC6:=Lib.hid HC6;have HN6:=Lib.hid HN6;go_roundw;case rel=>exact⟨j+1,_,A1,c1,SS,d,u',by omega,by go_num,rfl,rfl,⟨HSB.out.1,HSB.out.2,by omega,by omega⟩,hul',HC6,HN6,HQ2⟩
         case measure=>simp[intOf];omega
     ·obtain rfl:j=K:=by omega
      rw[Nat.sub_self]at HQ;have hrw:rdW n sizes deep 0 ws s d u=(0,ws,s,d,u):=rfl;rw[hrw]at HQ;obtain⟨k0,k1,k2⟩:=HN.out.cells;obtain⟨f0,f1,f2⟩:=HN.out.free;have hge:w.heap.size≤wr.heap.size:=HC.out.gr.size;clear hrw;by_cases g1:65536<s
      ·have hR2:Hid (R=(3,⟨false,0,[]⟩,0,0,[])):=by show _=_;rw[←HQ.out,zvc (.inl g1)]
       have q1:decide (65536<s)=true:=by simpa using g1
       clear HQ;go_wp2_with fail;rw[zo0 HN.out.blk];refine bodyPost_ret (zb5 rfl _ _ _ _ rfl (zd1 HN.out.blk rfl)) rfl ?_;refine⟨HC.out.gr,.inr ⟨by rw[hR2.out];simp,_,_,_,_,_,by rw[hR2.out];rfl⟩⟩
      ·have q1:decide (65536<s)=false:=by simpa using g1
       by_cases g2:64<d
       ·have hR2:Hid (R=(3,⟨false,0,[]⟩,0,0,[])):=by show _=_;rw[←HQ.out,zvc (.inr g2)]
        have q2:decide (64<d)=true:=by simpa using g2
        clear HQ;go_wp2_with fail;rw[zo0 HN.out.blk];refine bodyPost_ret (zb5 rfl _ _ _ _ rfl (zd1 HN.out.blk rfl)) rfl ?_;refine⟨HC.out.gr,.inr ⟨by rw[hR2.out];simp,_,_,_,_,_,by rw[hR2.out];rfl⟩⟩
       ·have hR2:Hid (R=(0,⟨fin0,v3,ws⟩,s,d,u)):=by show _=_;rw[←HQ.out,zti (fun e=>e.elim g1 g2)]
        have q2:decide (64<d)=false:=by simpa using g2
        clear HQ;go_wp2_with fail;rw[zo0 HN.out.blk];refine bodyPost_ret (zb5 rfl _ _ _ _ rfl (zd1 HN.out.blk rfl)) rfl ?_;refine⟨HC.out.gr,.inl ⟨by rw[hR2.out],A',c',?_,?_,?_⟩⟩
        ·rw[hR2,HN.out.len];rfl
        ·rw[hR2.out];exact HC.out.cur
        ·rw[hR2.out];show World.ownsRow _ _ _ _ _ ws.length _;rw[HN.out.len];exact z0b HN.out.own (Nat.le_succ _)
 ·have q1:(e1 !=0)=true:=by simpa using hb1
  have hR2:Hid (R=(e1,⟨false,0,[]⟩,0,0,[])):=by show _=_;rw[←HR.out,z06 (by rw[hee1];exact hb1),hee1]
  clear he1 hl1 HC1;go_wp2_with fail;rw[zo0 HN1.out.blk];refine bodyPost_ret (zb5 rfl _ _ _ _ rfl (zd1 HN1.out.blk rfl)) rfl ?_;refine⟨HA1.out.gr,.inr ⟨by rw[hR2.out];exact hb1,_,_,_,_,_,by rw[hR2.out];rfl⟩⟩
end F
namespace F
open Go.RowKit Go.Maps
structure OpAt(W:World)(b p B0:Nat)(A:Option Addr)(n c:Nat)(base:Int)(hs:List Nh)(As:Option Addr)(ns ks:Nat)(Ad:Option Addr)(nd kd:Nat)(sizes deep:List Int)(u:List UInt8):Prop where
 cur:zek W b u
 dict:DictAt W p B0 A n c base 0 hs
 sz:W.ownsRow B0 3 1 (.slice As ns ks) ns (sizes.map (.int .i64))
 dp:W.ownsRow B0 3 1 (.slice Ad nd kd) nd (deep.map (.int .i64))
 ap:(Value.slice As ns ks).ownBlock=none∨(Value.slice As ns ks).ownBlock≠(Value.slice Ad nd kd).ownBlock
 lb:b<p
 lp:p<B0
section
variable {W W' W2:World}{b p B0:Nat}{A:Option Addr}{n c:Nat}{base:Int}{hs:List Nh}{As:Option Addr}{ns ks:Nat}{Ad:Option Addr}{nd kd:Nat}{sizes deep:List Int}{u u':List UInt8}
theorem OpAt.rd(h:OpAt W b p B0 A n c base hs As n ks Ad n kd sizes deep u):RdAt W p b B0 A n c (.slice As n ks) (.slice Ad n kd) sizes deep u:=
 ⟨h.cur,⟨_,_,h.dict.blk⟩,h.sz,h.dp,Nat.lt_trans h.lb h.lp⟩
theorem zj9{e s m k:Nat}{v:Value}{xs:List Value}(h:W.ownsRow B0 e s v m xs)(hk:k<B0):v.ownBlock=none∨v.ownBlock≠some k:=.inr fun e=>by
 have:=(h.lt k e).1;omega
theorem DictAt.grown{q:Nat}{cnt:Int}(h:DictAt W p B0 A n c base cnt hs)(hg:W.grownBy W' (some q))(hq:q<B0)(hp:p≠q):DictAt W' p B0 A n c base cnt hs:=
 ⟨(hg.block p (Array.getElem?_eq_some_iff.1 h.blk).1 (by simpa using hp)).trans h.blk,h.len,h.nod.kept hg (zj9 h.nod hq),fun x hx=>(h.way x hx).kept hg (zj9 (h.way x hx) hq)⟩
theorem OpAt.read(h:OpAt W b p B0 A n c base hs As ns ks Ad nd kd sizes deep u)(hg:W.grownBy W' (some b))(hc:zek W' b u'):OpAt W' b p B0 A n c base hs As ns ks Ad nd kd sizes deep u':=by
 have h1:=h.lb;have h2:=h.lp;exact⟨hc,h.dict.grown hg (by omega) (by omega),h.sz.kept hg (zj9 h.sz (by omega)),h.dp.kept hg (zj9 h.dp (by omega)),h.ap,h.lb,h.lp⟩
theorem OpAt.below(h:OpAt W b p B0 A n c base hs As ns ks Ad nd kd sizes deep u)(hb:Below W.heap.size W W'):OpAt W' b p B0 A n c base hs As ns ks Ad nd kd sizes deep u:=
 ⟨zi0 h.cur hb,h.dict.keep hb,za2 h.sz hb,za2 h.dp hb,h.ap,h.lb,h.lp⟩
theorem zl5{row:Option Nat}(h:zek W b u)(hg:W.grownBy W' row)(hr:row≠some b):zek W' b u:=
 (hg.block b (Array.getElem?_eq_some_iff.1 h).1 (Ne.symm hr)).trans h
theorem OpAt.node{A':Option Addr}{c' g cap:Nat}{d:Nd}(h:OpAt W b p B0 A n c base hs As ns ks Ad nd kd sizes deep u)(hw:W.ownsRow B0 107 3 (.slice A' d.ways.length c') d.ways.length (waysC d.ways))(hg:W.grownBy W2 (Value.slice A n c).ownBlock)
  (ho:W2.ownsRow B0 88 3 (.slice (some ⟨g,0,none⟩) (n+1) cap) (n+1) (hs.flatMap Nh.hdr++[.bool d.fin,.int .i64 d.out,.slice A' d.ways.length c'])):
  OpAt (W2.setCell ⟨p,0,none⟩ (.slice (some ⟨g,0,none⟩) (n+1) cap)) b p B0 (some ⟨g,0,none⟩) (n+1) cap base (hs++[⟨d,A',c'⟩]) As ns ks Ad nd kd sizes deep u:=by
 have h1:=h.lb;have h2:=h.lp;have hno:=h.dict.nod;have hrow:∀k,k<B0→(Value.slice A n c).ownBlock≠some k:=fun k hk e=>by
  have:=(hno.lt k e).1;omega
 have b1:=(hg.block p (Array.getElem?_eq_some_iff.1 h.dict.blk).1 (Ne.symm (hrow p h2))).trans h.dict.blk;have hset:∀{e s m:Nat}{v:Value}{xs:List Value},W2.ownsRow B0 e s v m xs→(W2.setCell ⟨p,0,none⟩ (.slice (some ⟨g,0,none⟩) (n+1) cap)).ownsRow B0 e s v m xs:=fun hx=>hx.kept (za7 _ _ _) (zj9 hx h2)
 refine⟨?_,⟨?_,by rw[List.length_append,h.dict.len];rfl,?_,?_⟩,hset (h.sz.kept hg (za4 hno h.sz (by decide))),hset (h.dp.kept hg (za4 hno h.dp (by decide))),h.ap,h.lb,h.lp⟩
 ·exact zl5 (zl5 h.cur hg (hrow b (by omega))) (za7 _ _ _) (by simp;omega)
 ·simp[World.setCell,Array.getElem?_modify,b1]
 ·rw[List.flatMap_append];have e:List.flatMap Nh.hdr [⟨d,A',c'⟩]=[.bool d.fin,.int .i64 d.out,.slice A' d.ways.length c']:=by simp[Nh.hdr,Nh.row]
  rw[e];exact hset ho
 ·intro x hx
  rcases List.mem_append.1 hx with hx|hx
  ·exact hset ((h.dict.way x hx).kept hg (za4 hno (h.dict.way x hx) (by decide)))
  ·rw[List.mem_singleton.1 hx];exact hset (hw.kept hg (za4 hno hw (by decide)))
theorem zG1{x y:Option Nat}{k:Nat}(h:x=y∨∃g,x=some g∧k≤g){z:Option Nat}(hz:y=none∨y≠z)(hk:∀g,z=some g→g<k):x=none∨x≠z:=by
 rcases h with h|⟨g,h,hg⟩
 ·rw[h];exact hz
 ·refine .inr fun e=>?_
  rw[h]at e;have:=hk g e.symm;omega
theorem OpAt.pushS{A1:Option Addr}{c1:Nat}{x:Int}(h:OpAt W b p B0 A n c base hs As ns ks Ad nd kd sizes deep u)(hg:W.grownBy W2 (Value.slice As ns ks).ownBlock)(ho:W2.ownsRow B0 3 1 (.slice A1 (ns+1) c1) (ns+1) (sizes.map (.int .i64)++[.int .i64 x]))
  (hm:(Value.slice A1 (ns+1) c1).ownBlock=(Value.slice As ns ks).ownBlock∨∃g,(Value.slice A1 (ns+1) c1).ownBlock=some g∧W.heap.size≤g):OpAt W2 b p B0 A n c base hs A1 (ns+1) c1 Ad nd kd (sizes++[x]) deep u:=by
 have h1:=h.lb;have h2:=h.lp;have hrow:∀k,k<B0→(Value.slice As ns ks).ownBlock≠some k:=fun k hk e=>by
  have:=(h.sz.lt k e).1;omega
 have hdp:(Value.slice Ad nd kd).ownBlock=none∨(Value.slice Ad nd kd).ownBlock≠(Value.slice As ns ks).ownBlock:=by
  rcases h.ap with e|e
  ·rw[e];exact zj8 _
  ·exact .inr (Ne.symm e)
 refine⟨zl5 h.cur hg (hrow b (by omega)),⟨(hg.block p (Array.getElem?_eq_some_iff.1 h.dict.blk).1 (Ne.symm (hrow p h2))).trans h.dict.blk,h.dict.len,h.dict.nod.kept hg (za4 h.sz h.dict.nod (by decide)),fun y hy=>(h.dict.way y hy).kept hg (za4 h.sz (h.dict.way y hy) (by decide))⟩,by rw[List.map_append];exact ho,h.dp.kept hg hdp,?_,h.lb,h.lp⟩;exact zG1 hm h.ap fun g e=>(h.dp.lt g e).2
theorem OpAt.pushD{A1:Option Addr}{c1:Nat}{x:Int}(h:OpAt W b p B0 A n c base hs As ns ks Ad nd kd sizes deep u)(hg:W.grownBy W2 (Value.slice Ad nd kd).ownBlock)(ho:W2.ownsRow B0 3 1 (.slice A1 (nd+1) c1) (nd+1) (deep.map (.int .i64)++[.int .i64 x]))
  (hm:(Value.slice A1 (nd+1) c1).ownBlock=(Value.slice Ad nd kd).ownBlock∨∃g,(Value.slice A1 (nd+1) c1).ownBlock=some g∧W.heap.size≤g):OpAt W2 b p B0 A n c base hs As ns ks A1 (nd+1) c1 sizes (deep++[x]) u:=by
 have h1:=h.lb;have h2:=h.lp;have hrow:∀k,k<B0→(Value.slice Ad nd kd).ownBlock≠some k:=fun k hk e=>by
  have:=(h.dp.lt k e).1;omega
 have hdp:(Value.slice Ad nd kd).ownBlock=none∨(Value.slice Ad nd kd).ownBlock≠(Value.slice As ns ks).ownBlock:=by
  rcases h.ap with e|e
  ·rw[e];exact zj8 _
  ·exact .inr (Ne.symm e)
 refine⟨zl5 h.cur hg (hrow b (by omega)),⟨(hg.block p (Array.getElem?_eq_some_iff.1 h.dict.blk).1 (Ne.symm (hrow p h2))).trans h.dict.blk,h.dict.len,h.dict.nod.kept hg (za4 h.dp h.dict.nod (by decide)),fun y hy=>(h.dict.way y hy).kept hg (za4 h.dp (h.dict.way y hy) (by decide))⟩,h.sz.kept hg h.ap,by rw[List.map_append];exact ho,?_,h.lb,h.lp⟩;rcases zG1 hm hdp (fun g e=>(h.sz.lt g e).2)with e|e
 ·rw[e];exact zj8 _
 ·exact .inr (Ne.symm e)
theorem OpAt.free(h:OpAt W b p B0 A n c base hs As ns ks Ad nd kd sizes deep u)(i:Nat):W.frozen? ⟨p,i,none⟩=false:=by
 simp[World.frozen?,h.dict.blk]
theorem DictAt.setCnt{cnt:Int}(h:DictAt W p B0 A n c base cnt hs)(hp:p<B0)(z:Int):DictAt (W.setCell ⟨p,2,none⟩ (.int .i64 z)) p B0 A n c base z hs:=by
 refine⟨?_,h.len,h.nod.kept (za7 _ _ _) (zj9 h.nod hp),fun x hx=>(h.way x hx).kept (za7 _ _ _) (zj9 (h.way x hx) hp)⟩;simp[World.setCell,Array.getElem?_modify,h.blk]
theorem OpAt.start(W:World){b base0:Nat}(base:Int)(hc:zek W b u)(hb:W.heap.size=base0):
  OpAt (W.alloc (.cells #[.slice none 0 0,.int .i64 base,.int .i64 0] 95)) b base0 (base0+1) none 0 0 base [] none 0 0 none 0 0 [] [] u:=by
 have hlt:=(Array.getElem?_eq_some_iff.1 hc).1;subst hb;exact⟨zi0 hc (bnew (za0 W) _),⟨heap_alloc_new W _,rfl,⟨rfl,.inl ⟨rfl,rfl⟩⟩,by simp⟩,⟨rfl,.inl ⟨rfl,rfl⟩⟩,⟨rfl,.inl ⟨rfl,rfl⟩⟩,.inl rfl,hlt,Nat.lt_succ_self _⟩
end
def zFa(w:World)(R:Int×List Nd×Int×Int):Ending→World→Prop:=fun e w'=>Below w.heap.size w w'∧
 (
  (R.1=0∧∃(p B n c:Nat) (A:Option Addr) (hs:List Nh),e=.returned (.tuple #[.pointer (some ⟨p,0,none⟩),.int .i64 0])∧DictAt w' p B A n c R.2.2.1 R.2.2.2 hs∧hs.map (·.d)=R.2.1∧w.heap.size≤p∧p<B)∨
  (R.1≠0∧e=.returned (.tuple #[.pointer none,.int .i64 R.1])))
end F
end Go.Proofs.YtaociahafamncaaGreatDoor
