/- Folded. -/
import Derived.Test.YtaociahafamncaaGreatDoorHW40
set_option maxRecDepth 100000
set_option maxHeartbeats 40000000
set_option linter.unusedVariables false
namespace Go.Proofs.YtaociahafamncaaGreatDoor
section
open Go.RowKit
theorem rstep_any(w:World)(B:Nat)(hB:B≤w.heap.size)(A:Option Addr)(n c:Nat)(H:List Sh)(h:StsIn w B A n c H)(z ch:Int):
  Calls Tryz.prog 49 #[.slice A n c,.int .i64 z,.int .i64 ch] w fun e w'=>e=.returned (.int .i64 (stepI (H.map (·.d)) z ch))∧Below w.heap.size w w':=by
 have HS:=Lib.hid h;have hlen:=h.len;have hcm:=h.cm;by_cases hz:z<0
 ·have q1:decide (z<0)=true:=decide_eq_true hz;have HE:Hid (stepI (H.map (·.d)) z ch= -1):=if_pos (.inl hz);clear h hlen hz;go_enter Tryz.func49,Tryz.ntmps49
  go_wp2_with fail;go_ret;exact⟨by rw[HE.out];rfl,brefl w⟩
 by_cases hzn:(n:Int)≤z
 ·have q1:decide (z<0)=false:=decide_eq_false hz;have q2:decide (z≥(n:Int))=true:=decide_eq_true hzn;have HE:Hid (stepI (H.map (·.d)) z ch= -1):=if_pos (.inr (by rw[List.length_map,hlen];exact hzn));clear h hlen hz hzn;go_enter Tryz.func49,Tryz.ntmps49
  go_wp2_with fail;go_ret;exact⟨by rw[HE.out];rfl,brefl w⟩
 obtain⟨k,rfl⟩:=Int.eq_ofNat_of_zero_le (show 0≤z by omega);have hkn:k<n:=by omega
 obtain⟨x,hx⟩:∃x,H[k]? =some x:=⟨H[k]'(by omega),List.getElem?_eq_getElem _⟩;have HE:Hid (stepI (H.map (·.d)) (k:Nat) ch=(lookA x.d.2 ch).getD (-1)):=by
  show _=_;unfold stepI;rw[if_neg (by rw[List.length_map,hlen];omega),Int.toNat_natCast,List.getElem?_map,hx];rfl
 obtain⟨b,off,rfl,hb,hcell⟩:=h.at_ (by omega);have hxm:=List.mem_of_getElem? hx;obtain⟨m,hm⟩:∃m,x.d.2.length=m:=⟨_,rfl⟩;have hm47:=(h.ar x hxm).2.2;have hmc:=(h.ar x hxm).2.1;rw[hm]at hm47 hmc;have HM:=Lib.hid hm;have HXM:=Lib.hid hxm;have HX:=Lib.hid hx;have q1:decide ((k:Int)<0)=false:=decide_eq_false (by omega);have q2:decide ((k:Int)≥(n:Int))=false:=decide_eq_false (by omega);have q3:decide (k≥n)=false:=decide_eq_false (by omega);have i0:(0:Int)≤(k:Int):=by omega
 have i1:(k:Int)<(n:Int):=by omega
 clear h hx hcell hxm hm hz hzn;go_enter Tryz.func49,Tryz.ntmps49
 go_wp2_with fail;clear q1 q2 q3;go_loopw [7] (fun jv wj=>∃j:Nat,j≤m∧jv=.int .i64 j∧Hid (lookA x.d.2 ch=lookA (x.d.2.drop j) ch)∧Hid (Below w.heap.size w wj)) (fun jv _=>m-(intOf jv).toNat)
 case atStart=>exact⟨0,Nat.zero_le _,rfl,rfl,brefl w⟩
 case round=>
  obtain⟨j,hj,rfl,HO,HBJ⟩:=hrel;have HWJ:=Lib.hid (HS.out.keep (HBJ.out.mono hB) (Nat.le_refl _));obtain⟨b',off',hbb,_,hcell⟩:=HWJ.out.at_ (by omega);injection hbb with hbb
  injection hbb with hb1 hb2 _
  subst hb1 hb2;obtain⟨_,k1⟩:=hcell k x HX.out;rw[HM.out]at k1;clear hcell;by_cases hjm:j<m
  ·obtain⟨ab,aoff,hxA,hab,hac⟩:=HWJ.out.arc HXM.out (by rw[HM.out];omega);obtain⟨a,ha⟩:∃a,x.d.2[j]? =some a:=⟨x.d.2[j]'(by rw[HM.out];exact hjm),List.getElem?_eq_getElem _⟩;obtain⟨a0,a1,a2⟩:=hac j a ha;have habw:ab<wr.heap.size:=Nat.lt_of_lt_of_le hab (Nat.le_trans hB HBJ.out.size);have hdrop:x.d.2.drop j=a::x.d.2.drop (j+1):=by
    obtain⟨h1,h2⟩:=List.getElem?_eq_some_iff.1 ha;rw[List.drop_eq_getElem_cons h1,h2]
   rw[hdrop,lookA_cons]at HO;have HBN:=Lib.hid (bnew HBJ.out (.cells #[.int .i64 a.1,.int .i64 a.2.1,.int .i64 a.2.2] 76));rw[hxA]at k1;clear hac ha hdrop;obtain⟨lo,hi,tt⟩:=a;simp only at a0 a1 a2 HO HBN;by_cases c1:lo≤ch
   ·have p1:decide (lo≤ch)=true:=decide_eq_true c1;by_cases c2:ch≤hi
    ·have p2:decide (ch≤hi)=true:=decide_eq_true c2;have HE2:Hid (stepI (H.map (·.d)) (k:Nat) ch=tt):=by
      show _=_;rw[HE.out,HO.out,if_pos ⟨c1,c2⟩];rfl
     clear c1 c2;go_wp2_with fail;go_ret;exact⟨by rw[HE2.out];rfl,by first|exact HBN.out|exact HBJ.out⟩
    ·have p2:decide (ch≤hi)=false:=decide_eq_false c2;rw[if_neg (by omega)]at HO;clear c1 c2;go_wp2_with fail;go_roundw;case rel=>exact⟨j+1,by omega,by go_num,HO,by first|exact HBN|exact HBJ⟩
     case measure=>simp[intOf];omega
   ·have p1:decide (lo≤ch)=false:=decide_eq_false c1;rw[if_neg (by omega)]at HO;clear c1;go_wp2_with fail;go_roundw;case rel=>exact⟨j+1,by omega,by go_num,HO,by first|exact HBN|exact HBJ⟩
    case measure=>simp[intOf];omega
  ·obtain rfl:j=m:=by omega
   have HE2:Hid (stepI (H.map (·.d)) (k:Nat) ch= -1):=by
    show _=_;rw[HE.out,HO.out,List.drop_of_length_le (by rw[HM.out];exact Nat.le_refl _)];rfl
   go_wp2_with fail;go_ret;exact⟨by rw[HE2.out];rfl,HBJ.out⟩
theorem rcheck_any(w:World)(B:Nat)(hB:B≤w.heap.size)(A:Option Addr)(n c:Nat)(H:List Sh)(h:StsIn w B A n c H):
  Calls Tryz.prog 18 #[.slice A n c] w fun e w'=>e=.returned (.int .i64 (checkE (H.map (·.d))))∧Below w.heap.size w w':=by
 have HS:=Lib.hid h;have hlen:=h.len;have hcm:=h.cm;by_cases h0:n=0
 ·subst h0;have hH:H=[]:=List.eq_nil_of_length_eq_zero hlen;have HE:Hid (checkE (H.map (·.d))=1):=by rw[hH];rfl
  clear h hlen hH;go_enter Tryz.func18,Tryz.ntmps18
  go_wp2_with fail;go_ret;exact⟨by rw[HE.out];rfl,brefl w⟩
 have q0:((n:Int)==0)=false:=by simp;omega
 have q01:(n==0)=false:=by simp;omega
 by_cases hbig:20000<n
 ·have q1:decide ((n:Int)>20000)=true:=decide_eq_true (by omega);have q2:decide (n>20000)=true:=decide_eq_true (by omega);have HE:Hid (checkE (H.map (·.d))=8):=by
   show _=_;unfold checkE;rw[if_neg (by intro e;rw[List.map_eq_nil_iff]at e;rw[e]at hlen;exact h0 hlen.symm),List.length_map,hlen,if_pos hbig]
  clear h hlen hbig;go_enter Tryz.func18,Tryz.ntmps18
  go_wp2_with fail;go_ret;exact⟨by rw[HE.out];rfl,brefl w⟩
 have q1:decide ((n:Int)>20000)=false:=decide_eq_false (by omega);have q2:decide (n>20000)=false:=decide_eq_false (by omega);have HE:Hid (checkE (H.map (·.d))=if(H.map (·.d)).all (fun s=>okA n (-1) s.2)then 0 else 3):=by
  show _=_;unfold checkE;rw[if_neg (by intro e;rw[List.map_eq_nil_iff]at e;rw[e]at hlen;exact h0 hlen.symm),List.length_map,hlen,if_neg hbig]
 clear h hbig;go_enter Tryz.func18,Tryz.ntmps18
 go_wp2_with fail;clear q0 q01 q1 q2;go_loopw [3] (fun iv wr=>∃k:Nat,k≤n∧iv=.int .i64 k∧Hid (∀x∈H.take k,okA n (-1) x.d.2=true)∧Hid (Below w.heap.size w wr)) (fun iv _=>n-(intOf iv).toNat)
 case atStart=>exact⟨0,Nat.zero_le _,rfl,fun x hx=>by simp at hx,brefl w⟩
 case round=>
  obtain⟨k,hk,rfl,HK,HB⟩:=hrel;by_cases hlt:k<n
  ·obtain⟨x,hx⟩:∃x,H[k]? =some x:=⟨H[k]'(by omega),List.getElem?_eq_getElem _⟩;have hxm:=List.mem_of_getElem? hx;have hxar:=HS.out.ar x hxm;obtain⟨m,hm⟩:∃m,x.d.2.length=m:=⟨_,rfl⟩;have hm47:=hxar.2.2;have hmc:=hxar.2.1;rw[hm]at hm47 hmc;obtain⟨b,off,rfl,hb,_⟩:=HS.out.at_ (by omega);have HM:=Lib.hid hm;have HXM:=Lib.hid hxm;have HXK:=Lib.hid hx;have i0:(0:Int)≤(k:Int):=by omega
   have i1:(k:Int)<(n:Int):=by omega
   clear hx hxm hxar hm;have H0:Hid (okA n (-1) x.d.2=okA n (-1) (x.d.2.drop 0)∧((0=0∧(-1:Int)= -1)∨∃pa,x.d.2[0-1]? =some pa∧(-1:Int)=pa.2.1∧0<0)):=⟨rfl,.inl ⟨rfl,rfl⟩⟩;go_wp2_with fail;go_loopw [4] (fun jv wj=>∃(j:Nat) (last:Int),j≤m∧jv=.int .i64 j∧-1≤last∧Hid (okA n (-1) x.d.2=okA n last (x.d.2.drop j)∧((j=0∧last= -1)∨∃pa,x.d.2[j-1]? =some pa∧last=pa.2.1∧0<j))∧Hid (Below w.heap.size w wj)) (fun jv _=>m-(intOf jv).toNat)
   case atStart=>exact⟨0,-1,Nat.zero_le _,rfl,by omega,⟨rfl,.inl ⟨rfl,rfl⟩⟩,HB⟩
   case round=>
    clear H0;obtain⟨j,last,hj,rfl,hl1,HO,HBJ⟩:=hrel;have HWJ:=Lib.hid (HS.out.keep (HBJ.out.mono hB) (Nat.le_refl _));obtain⟨b',off',hbb,_,hcell⟩:=HWJ.out.at_ (by omega);injection hbb with hbb
    injection hbb with hb1 hb2 _
    subst hb1 hb2;obtain⟨_,k1⟩:=hcell k x HXK.out;rw[HM.out]at k1;have hbw:b<wr.heap.size:=Nat.lt_of_lt_of_le hb (Nat.le_trans hB HBJ.out.size);clear hcell;by_cases hjm:j<m
    ·obtain⟨ab,aoff,hxA,hab,hac⟩:=HWJ.out.arc HXM.out (by rw[HM.out];omega);obtain⟨a,ha⟩:∃a,x.d.2[j]? =some a:=⟨x.d.2[j]'(by rw[HM.out];exact hjm),List.getElem?_eq_getElem _⟩;obtain⟨a0,a1,a2⟩:=hac j a ha;have habw:ab<wr.heap.size:=Nat.lt_of_lt_of_le hab (Nat.le_trans hB HBJ.out.size);have hdrop:x.d.2.drop j=a::x.d.2.drop (j+1):=by
      obtain⟨h1,h2⟩:=List.getElem?_eq_some_iff.1 ha;rw[List.drop_eq_getElem_cons h1,h2]
     have hoo:=HO.out.1;rw[hdrop,okA]at hoo;have HOO:=Lib.hid hoo;have HBN:=Lib.hid (bnew HBJ.out (.cells #[.int .i64 a.1,.int .i64 a.2.1,.int .i64 a.2.2] 76));rw[hxA]at k1;have HA:=Lib.hid ha;have hpv:j=0∧last= -1∨0<j∧wr.cell? ⟨ab,aoff+(j-1)*3+1,none⟩=some (.int .i64 last):=by
      rcases HO.out.2 with h|⟨pa,h1,h2,h3⟩
      ·exact .inl h
      ·exact .inr ⟨h3,by rw[h2];exact(hac (j-1) pa h1).2.1⟩
     clear hac ha hdrop hoo HO;obtain⟨lo,hi,tt⟩:=a;simp only at a0 a1 a2 HOO HBN;have HBAD:Hid (¬(last<lo∧lo≤hi∧hi≤255∧0≤tt∧tt<(n:Int))→checkE (H.map (·.d))=3):=fun hbad=>by
      rw[HE.out,if_neg];rw[List.all_eq_true];intro h
      have:=h x.d (List.mem_map_of_mem HXM.out);rw[HOO.out,decide_eq_false hbad]at this;simp at this
     by_cases c1:lo<0
     ·have p1:decide (lo<0)=true:=decide_eq_true c1;have HB3:=Lib.hid (HBAD.out (by omega));clear hpv c1;go_wp2_with fail;go_region
      all_goals
       go_wp2_with fail;go_ret;exact⟨by rw[HB3.out];rfl,by first|exact HBN.out|exact Below.drew HBN.out⟩
     have p1:decide (lo<0)=false:=decide_eq_false c1;by_cases c2:255<hi
     ·have p2:decide (hi>255)=true:=decide_eq_true c2;have HB3:=Lib.hid (HBAD.out (by omega));clear hpv c1;go_wp2_with fail;go_region
      all_goals
       go_wp2_with fail;go_ret;exact⟨by rw[HB3.out];rfl,by first|exact HBN.out|exact Below.drew HBN.out⟩
     have p2:decide (hi>255)=false:=decide_eq_false c2;by_cases c3:hi<lo
     ·have p3:decide (lo>hi)=true:=decide_eq_true c3;have HB3:=Lib.hid (HBAD.out (by omega));clear hpv c1 c2;go_wp2_with fail;go_region
      all_goals
       go_wp2_with fail;go_ret;exact⟨by rw[HB3.out];rfl,by first|exact HBN.out|exact Below.drew HBN.out⟩
     have p3:decide (lo>hi)=false:=decide_eq_false c3;by_cases c4:tt<0
     ·have p4:decide (tt<0)=true:=decide_eq_true c4;have HB3:=Lib.hid (HBAD.out (by omega));clear hpv c1 c2 c3;go_wp2_with fail;go_region
      all_goals
       go_wp2_with fail;go_ret;exact⟨by rw[HB3.out];rfl,by first|exact HBN.out|exact Below.drew HBN.out⟩
     have p4:decide (tt<0)=false:=decide_eq_false c4;by_cases c5:(n:Int)≤tt
     ·have p5:decide (tt≥(n:Int))=true:=decide_eq_true c5;have HB3:=Lib.hid (HBAD.out (by omega));clear hpv c1 c2 c3 c4;go_wp2_with fail;go_region
      all_goals
       go_wp2_with fail;go_ret;exact⟨by rw[HB3.out];rfl,by first|exact HBN.out|exact Below.drew HBN.out⟩
     have p5:decide (tt≥(n:Int))=false:=decide_eq_false c5;have hrelN:last<lo→Hid (okA n (-1) x.d.2=okA n hi (x.d.2.drop (j+1))∧((j+1=0∧hi= -1)∨∃pa,x.d.2[j+1-1]? =some pa∧hi=pa.2.1∧0<j+1)):=fun hll=>by
      refine⟨?_,.inr ⟨(lo,hi,tt),HA.out,rfl,by omega⟩⟩;rw[HOO.out,decide_eq_true (by omega)];rfl
     rcases hpv with⟨hj0,hl0⟩|⟨hj0,kp⟩
     ·have HON:=hrelN (by omega);have hhi: -1≤hi:=by omega
      have p6:decide ((j:Int)>0)=false:=decide_eq_false (by omega);have p7:decide (j>0)=false:=decide_eq_false (by omega);clear c1 c2 c3 c4 c5 hrelN hl0 hj0;go_wp2_with fail;go_region
      all_goals
       go_wp2_with fail;go_roundw;case rel=>exact⟨j+1,hi,by omega,by go_num,hhi,HON,by first|exact HBN|exact Below.drew HBN.out⟩
       case measure=>simp[intOf];omega
     ·have p6:decide ((j:Int)>0)=true:=decide_eq_true (by omega);have p7:decide (j>0)=true:=decide_eq_true (by omega);obtain⟨jp,hjp⟩:∃p,j-1=p:=⟨_,rfl⟩;have hidx:(j:Int)-1=(jp:Int):=by omega
      rw[hjp]at kp;have i2:(0:Int)≤(jp:Int):=by omega
      have i3:(jp:Int)<(m:Int):=by omega
      by_cases c6:lo≤last
      ·have p8:decide (last≥lo)=true:=decide_eq_true c6;have HB3:=Lib.hid (HBAD.out (by omega));clear c1 c2 c3 c4 c5 hrelN hjp;go_wp2_with fail;go_region
       all_goals
        go_wp2_with fail;go_ret;exact⟨by rw[HB3.out];rfl,by first|exact HBN.out|exact Below.drew HBN.out⟩
      ·have p8:decide (last≥lo)=false:=decide_eq_false c6;have HON:=hrelN (by omega);have hhi: -1≤hi:=by omega
       clear c1 c2 c3 c4 c5 c6 hrelN hjp;go_wp2_with fail;go_region
       all_goals
        go_wp2_with fail;go_roundw;case rel=>exact⟨j+1,hi,by omega,by go_num,hhi,HON,by first|exact HBN|exact Below.drew HBN.out⟩
        case measure=>simp[intOf];omega
    ·obtain rfl:j=m:=by omega
     have hok:okA n (-1) x.d.2=true:=by
      rw[HO.out.1,List.drop_of_length_le (by rw[HM.out];exact Nat.le_refl _)];rfl
     have HKN:Hid (∀y∈H.take (k+1),okA n (-1) y.d.2=true):=fun y hy=>by
      rw[List.take_add_one,HXK.out]at hy;rcases List.mem_append.1 hy with hy|hy
      ·exact HK.out y hy
      ·rw[List.mem_singleton.1 hy];exact hok
     clear hok;go_wp2_with fail;go_roundw;case rel=>exact⟨k+1,by omega,by go_num,HKN,HBJ⟩
     case measure=>simp[intOf];omega
  ·obtain rfl:k=n:=by omega
   have hall:H.take k=H:=List.take_of_length_le (by omega);rw[hall]at HK;have HE2:Hid (checkE (H.map (·.d))=0):=by
    show _=_;rw[HE.out,if_pos];rw[List.all_eq_true];intro s hs
    obtain⟨x,hx,rfl⟩:=List.mem_map.1 hs;exact HK.out x hx
   go_wp2_with fail;go_ret;exact⟨by rw[HE2.out];rfl,HB.out⟩
theorem raccepts_any(w:World)(B:Nat)(hB:B≤w.heap.size)(A:Option Addr)(n c:Nat)(H:List Sh)(h:StsIn w B A n c H)(t:List UInt8)(ht:t.length≤1125899906842624):
  Calls Tryz.prog 30 #[.slice A n c,.string ⟨t.toArray⟩] w fun e w'=>e=.returned (.bool (takesB (H.map (·.d)) t))∧Below w.heap.size w w':=by
 have HS:=Lib.hid h;have hlen:=h.len;have hcm:=h.cm;have HC:=Lib.hid (rcheck_any w B hB A n c H h);by_cases hg:checkE (H.map (·.d))=0
 rotate_left
 ·have HE:Hid (takesB (H.map (·.d)) t=false):=by
   show _=_;unfold takesB;rw[decide_eq_false hg];rfl
  obtain⟨E,hE⟩:∃E,checkE (H.map (·.d))=E:=⟨_,rfl⟩;rw[hE]at HC hg;have q1:(E !=0)=true:=by simpa using hg
  clear h hlen hg hE;go_enter Tryz.func30,Tryz.ntmps30
  go_wp2_with fail;refine HC.out.mono ?_;rintro e w1 ⟨rfl,hb1⟩;go_wp2_with fail;go_ret;exact⟨by rw[HE.out];rfl,hb1⟩
 have HG:=Lib.hid ((good_iff _).1 hg);have HE:Hid (takesB (H.map (·.d)) t=(auOf (H.map (·.d))).acc 0 (bytesN t)):=by
  show _=_;unfold takesB;rw[decide_eq_true hg];rfl
 rw[hg]at HC;have hn0:0<n:=by
  have:=List.length_pos_iff.2 HG.out.ne;rw[List.length_map]at this;omega
 clear h hg;go_enter Tryz.func30,Tryz.ntmps30
 go_wp2_with fail;refine HC.out.mono ?_;rintro e w1 ⟨rfl,hb1⟩;have HB1:=Lib.hid hb1;clear hb1 HC;go_wp2_with fail;obtain⟨M,hM⟩:∃M,auOf (H.map (·.d))=M:=⟨_,rfl⟩;obtain⟨R,hR⟩:∃R,M.acc 0 (bytesN t)=R:=⟨_,rfl⟩;rw[hM,hR]at HE;have HM:=Lib.hid hM;have H0:Hid (((0:Int)= -1∧R=false)∨∃x:Nat,(0:Int)=x∧x<n∧R=M.acc x (bytesN (t.drop 0))):=.inr ⟨0,rfl,hn0,hR.symm⟩;clear hM hR;go_loopw [5,6] (fun zv iv wr=>∃(i:Nat) (z:Int),i≤t.length∧iv=.int .i64 i∧zv=.int .i64 z∧Hid ((z= -1∧R=false)∨∃x:Nat,z=x∧x<n∧R=M.acc x (bytesN (t.drop i)))∧Hid (Below w.heap.size w wr)) (fun _ iv _=>t.length-(intOf iv).toNat)
 case atStart=>exact⟨0,0,Nat.zero_le _,rfl,rfl,H0,HB1⟩
 case round=>
  clear H0 HB1;obtain⟨i,z,hi,rfl,rfl,HZ,HB⟩:=hrel;have HW:=Lib.hid (HS.out.keep (HB.out.mono hB) (Nat.le_refl _));rcases HZ.out with⟨rfl,hR⟩|⟨x,rfl,hxn,hR⟩
  ·by_cases hil:i<t.length
   ·have g1:decide ((i:Int)<(t.length:Int))=true:=decide_eq_true (by omega);have g2:decide (i<t.length)=true:=decide_eq_true hil;have hz:=byte_at t i (by show i<t.toArray.size;simpa using hil);obtain⟨b8,hb8⟩:∃b:Nat,(t.getD i 0).toNat=b:=⟨_,rfl⟩;have hb256:b8<256:=by rw[←hb8];exact(t.getD i 0).toNat_lt
    rw[hb8]at hz;have HSTEP:=Lib.hid (rstep_any wr B (Nat.le_trans hB HB.out.size) A n c H HW.out (-1) (b8:Nat));have hst:stepI (H.map (·.d)) (-1) (b8:Nat)= -1:=if_pos (.inl (by omega));rw[hst]at HSTEP;have hwc:IntKind.i64.wrap (b8:Int)=(b8:Int):=IntWalk.i64_in _ (by omega);have i0:(0:Int)≤(i:Int):=by omega
    have i1:(i:Int)<(t.length:Int):=by omega
    have HRF:Hid (R=false):=hR;clear hR hb8 hst;go_wp2_with fail;refine HSTEP.out.mono ?_;rintro e w2 ⟨rfl,hb2⟩;have HB2:=Lib.hid (bcall HB.out hb2);clear hb2;go_wp2_with fail;go_roundw;case rel=>exact⟨i+1,-1,by omega,by go_num,rfl,Lib.hid (.inl ⟨rfl,HRF.out⟩),HB2⟩
    case measure=>simp[intOf];omega
   ·have HE2:Hid (takesB (H.map (·.d)) t=false):=HE.out.trans hR;have g1:decide ((i:Int)<(t.length:Int))=false:=decide_eq_false (by omega);have g2:decide (i<t.length)=false:=decide_eq_false hil;clear hR;go_wp2_with fail;go_ret;exact⟨by rw[HE2.out];rfl,HB.out⟩
  ·by_cases hil:i<t.length
   ·have g1:decide ((i:Int)<(t.length:Int))=true:=decide_eq_true (by omega);have g2:decide (i<t.length)=true:=decide_eq_true hil;have hwc:∀b:Nat,b<256→IntKind.i64.wrap (b:Int)=(b:Int):=fun b hb=>IntWalk.i64_in _ (by omega)
    have hz:=byte_at t i (by show i<t.toArray.size;simpa using hil);obtain⟨b8,hb8⟩:∃b:Nat,(t.getD i 0).toNat=b:=⟨_,rfl⟩;have hb256:b8<256:=by rw[←hb8];exact(t.getD i 0).toNat_lt
    have hdrop:bytesN (t.drop i)=b8::bytesN (t.drop (i+1)):=by
     rw[List.drop_eq_getElem_cons hil,←hb8,List.getD_eq_getElem?_getD,List.getElem?_eq_getElem hil];rfl
    rw[hb8]at hz;have hst:=stepI_au HG.out (x:=x) (by rw[List.length_map,hlen];exact hxn) b8;rw[HM.out,List.length_map,hlen]at hst;rw[hdrop,Au.acc,if_pos hb256]at hR;have HSTEP:=Lib.hid (rstep_any wr B (Nat.le_trans hB HB.out.size) A n c H HW.out (x:Nat) (b8:Nat));have i0:(0:Int)≤(i:Int):=by omega
    have i1:(i:Int)<(t.length:Int):=by omega
    have HN:Hid ((stepI (H.map (·.d)) (x:Nat) (b8:Nat)= -1∧R=false)∨∃y:Nat,stepI (H.map (·.d)) (x:Nat) (b8:Nat)=y∧y<n∧R=M.acc y (bytesN (t.drop (i+1)))):=by
     rcases hst with⟨h1,h2⟩|⟨y,h1,h2,h3⟩
     ·rw[h2]at hR;exact .inl ⟨h1,hR⟩
     ·rw[h2]at hR;exact .inr ⟨y,h1,h3,hR⟩
    have hwc2:=hwc b8 hb256;clear hwc;generalize stepI (H.map (·.d)) (x:Nat) (b8:Nat)=z2 at*;clear hR hdrop hst hb8;go_wp2_with fail;refine HSTEP.out.mono ?_;rintro e w2 ⟨rfl,hb2⟩;have HB2:=Lib.hid (bcall HB.out hb2);clear hb2;go_wp2_with fail;go_roundw;case rel=>exact⟨i+1,z2,by omega,by go_num,rfl,HN,HB2⟩
    case measure=>simp[intOf];omega
   ·obtain rfl:i=t.length:=by omega
    obtain⟨b,off,rfl,hb,hcell⟩:=HW.out.at_ hn0;obtain⟨y,hy⟩:∃y,H[x]? =some y:=⟨H[x]'(by omega),List.getElem?_eq_getElem _⟩;obtain⟨k0,_⟩:=hcell x y hy;have hfin:R=y.d.1:=by
     rw[hR,List.drop_of_length_le (Nat.le_refl _)];show M.fin x=_;rw[←HM.out];show(((H.map (·.d))[x]?).map (·.1)).getD false=_;rw[List.getElem?_map,hy];rfl
    have HE2:Hid (takesB (H.map (·.d)) t=y.d.1):=HE.out.trans hfin;have g1:decide ((t.length:Int)<(t.length:Int))=false:=decide_eq_false (by omega);have g2:decide (t.length<t.length)=false:=decide_eq_false (by omega);have g3:decide ((x:Int)≥0)=true:=decide_eq_true (by omega);have g4:decide ((x:Int)<(n:Int))=true:=decide_eq_true (by omega);have g5:decide (x<n)=true:=decide_eq_true hxn;have i0:(0:Int)≤(x:Int):=by omega
    have i1:(x:Int)<(n:Int):=by omega
    clear hR hfin hcell hy;go_wp2_with fail;go_ret;exact⟨by rw[HE2.out];rfl,HB.out⟩
end
section
open Go.RowKit Go.Maps
open F (Ent entsC entC Ents)
theorem rmatch_any(w:World)(B:Nat)(hB:B≤w.heap.size)(A:Option Addr)(n c:Nat)(l:List Ent)(h:Ents w B A n c l)(hn:n≤1048576)(hlens:∀e∈l,e.1.length≤1125899906842624)(A2:Option Addr)(na ca:Nat)(H:List Sh)(h2:StsIn w B A2 na ca H)(mo:Nat)(hmo:mo≤9223372036854775807):
  Calls Tryz.prog 15 #[.slice A n c,.slice A2 na ca,.int .i64 (mo:Int)] w fun e w'=>∃v,e=.returned (.tuple #[v,.bool (decide (mo<(l.filter fun e=>takesB (H.map (·.d)) e.1).length))])∧w'.ownsRow w.heap.size 29 2 v ((l.filter fun e=>takesB (H.map (·.d)) e.1).take mo).length (entsC ((l.filter fun e=>takesB (H.map (·.d)) e.1).take mo))∧Below w.heap.size w w':=by
 have hlen:=h.len;have hcm:=h.cm;have HE:=Lib.hid h;have HS:=Lib.hid h2;have HL:=Lib.hid hlens;obtain⟨p,hp⟩:∃p:Ent→Bool,(fun e:Ent=>takesB (H.map (·.d)) e.1)=p:=⟨_,rfl⟩;have HP:=Lib.hid hp;rw[hp];clear h h2 hlens hp;go_enter Tryz.func15,Tryz.ntmps15
 go_wp2_with fail;go_loopw [8,9] (fun ov iv wr=>∃i:Nat,i≤n∧iv=.int .i64 (i:Int)∧((l.take i).filter p).length≤mo∧Hid (wr.ownsRow w.heap.size 29 2 ov ((l.take i).filter p).length (entsC ((l.take i).filter p)))∧Hid (Below w.heap.size w wr)) (fun _ iv _=>n-(intOf iv).toNat)
 case atStart=>exact⟨0,Nat.zero_le _,rfl,Nat.zero_le _,⟨rfl,.inl ⟨rfl,rfl⟩⟩,brefl w⟩
 case round=>
  obtain⟨i,hi,rfl,hle,HO,HB⟩:=hrel;by_cases hlt:i<n
  ·obtain⟨b,off,rfl,hb,hcell⟩:=(HE.out.keep (HB.out.mono hB) (Nat.le_refl _)).at_ (by omega);obtain⟨⟨et,ez⟩,he⟩:∃e,l[i]? =some e:=⟨l[i]'(by omega),List.getElem?_eq_getElem _⟩;obtain⟨d0,d1⟩:=hcell i _ he;have hel:=HL.out _ (List.mem_of_getElem? he);have hbw:b<wr.heap.size:=by have:=HB.out.size;omega
   have hi2:(i:Int)<(n:Int):=by omega
   obtain⟨Av,cv,rfl,hcv⟩:=own_shape HO.out;simp only at d0 d1 hel;have HFS:=Lib.hid (filter_snoc (p:=p) he);have hfl:((l.take i).filter p).length≤n:=Nat.le_trans (List.length_filter_le _ _) (by rw[List.length_take];omega);have HSP:Hid (l.filter p=(l.take (i+1)).filter p++(l.drop (i+1)).filter p):=by show _=_;rw[←List.filter_append,List.take_append_drop]
   have hpe:takesB (H.map (·.d)) et=p (et,ez):=by rw[←HP.out]
   have HAC:=Lib.hid (raccepts_any wr B (by have:=HB.out.size;omega) A2 na ca H (HS.out.keep (HB.out.mono hB) (Nat.le_refl _)) et hel);rw[hpe]at HAC;obtain⟨P,hP⟩:∃P,(l.take i).filter p=P:=⟨_,rfl⟩;rw[hP]at HFS HO hfl hcv hle;rw[hP];clear hP hpe he hcell;obtain⟨pb,hpb⟩:∃b,p (et,ez)=b:=⟨_,rfl⟩;rw[hpb]at HFS HAC;clear hpb;have hw:Hid (True):=trivial;go_wp2_with fail;refine HAC.out.mono ?_;rintro e w2 ⟨rfl,hb2⟩;have HB2:=Lib.hid (bcall HB.out hb2);have e0:=(hb2.cell (p:=⟨b,off+i*2,none⟩) hbw).trans d0;have e1:=(hb2.cell (p:=⟨b,off+i*2+1,none⟩) hbw).trans d1;have HO2:=Lib.hid (own_kept HO.out hb2);have hbw2:b<w2.heap.size:=Nat.lt_of_lt_of_le hbw hb2.size;clear hb2 d0 d1 HAC hw;cases pb
   ·have HO3:Hid (w2.ownsRow w.heap.size 29 2 (.slice Av P.length cv) ((l.take (i+1)).filter p).length (entsC ((l.take (i+1)).filter p))):=by
     show w2.ownsRow _ _ _ _ _ _;rw[HFS.out,if_neg (by simp),List.append_nil];exact HO2.out
    have hl3:((l.take (i+1)).filter p).length≤mo:=by rw[HFS.out,if_neg (by simp),List.append_nil];exact hle
    clear HFS;go_wp2_with fail;go_roundw;case rel=>exact⟨i+1,by omega,by go_num,hl3,HO3,HB2⟩
    case measure=>simp[intOf];omega
   ·have hFT:(l.take (i+1)).filter p=P++[(et,ez)]:=by rw[HFS.out,if_pos rfl]
    by_cases hfull:P.length<mo
    ·have q1:decide ((P.length:Int)≥(mo:Int))=false:=decide_eq_false (by omega);have q2:decide (mo≤P.length)=false:=decide_eq_false (by omega);have HFT:=Lib.hid hFT;clear HFS hFT;go_wp2_with (at_builtin;refine wpList_push w2 _ _ rfl _ _ _ rfl F.el_ent _ _ _ rfl HO2.out rfl (by simp) rfl (by simp[Value.oneCell']) (by unfold maxLen;omega) (by omega) (by have:=HB2.out.size;omega) (Below.refl _ _) ?_;intro v1 w1 hown1 hb1 hg1 _;obtain⟨A1,c1,rfl,_⟩:=own_shape hown1)
     have HO3:Hid (w1.ownsRow w.heap.size 29 2 (.slice A1 (P.length+1) c1) ((l.take (i+1)).filter p).length (entsC ((l.take (i+1)).filter p))):=by
      show w1.ownsRow _ _ _ _ _ _;rw[HFT.out,List.length_append];have e1:entsC (P++[(et,ez)])=entsC P++(#[Value.string ⟨et.toArray⟩,.int .i64 ez]:Array Value).toList:=by
       unfold F.entsC;rw[List.flatMap_append];rfl
      rw[e1];exact hown1
     have hl3:((l.take (i+1)).filter p).length≤mo:=by rw[HFT.out,List.length_append];simp;omega
     have HB3:=Lib.hid (HB2.out.grown hg1 HB2.out.size (fun k hk=>(HO2.out.lt k hk).1));clear hown1 hb1 hg1;go_roundw;case rel=>exact⟨i+1,by omega,by go_num,hl3,HO3,HB3⟩
     case measure=>simp[intOf];omega
    ·have q1:decide ((P.length:Int)≥(mo:Int))=true:=decide_eq_true (by omega);have q2:decide (mo≤P.length)=true:=decide_eq_true (by omega);have HR:Hid ((l.filter p).take mo=P∧mo<(l.filter p).length):=by
      have hpm:P.length=mo:=by omega
      rw[HSP.out,hFT,List.append_assoc];constructor
      ·rw[←hpm,List.take_left]
      ·simp;omega
     clear HFS hFT HSP;go_wp2_with fail;go_ret2;rw[decide_eq_true HR.out.2,HR.out.1];exact⟨_,rfl,HO2.out,HB2.out⟩
  ·obtain rfl:i=n:=by omega
   have hall:l.take i=l:=List.take_of_length_le (by omega);rw[hall]at HO hle;go_wp2_with fail;go_ret2;rw[decide_eq_false (by omega),List.take_of_length_le hle];exact⟨_,rfl,HO.out,HB.out⟩
end
section
open Go.RowKit Go.Maps
open F (Ent Nd Nh Fine DictAt entsC entC Ents EntsIn rightE fits64 buildDs baseOf allE)
def Room(W:World)(g n:Nat):Prop:=∃cs,W.heap[g]? =some (.cells cs 29 (0,0))∧n*2≤cs.size
theorem own_room{W:World}{base n:Nat}{v:Value}{xs:List Value}(h:W.ownsRow base 29 2 v n xs):(v=.slice none 0 0∧n=0)∨∃g c,v=.slice (some ⟨g,0,none⟩) n c∧base≤g∧n≤c∧Room W g n:=by
 rcases h.2 with h0|⟨g,cap,cur,hv,hb,hg,h1,h2,h3,_⟩
 ·exact .inl h0
 ·exact .inr ⟨g,cap,hv,hb,h1,cur,hg,by rw[h3];exact Nat.mul_le_mul_right _ h1⟩
theorem Room.below{W W':World}{g n:Nat}(h:Room W g n)(hb:Below W.heap.size W W'):Room W' g n:=by
 obtain⟨cs,h1,h2⟩:=h;exact⟨cs,(hb.block g (Array.getElem?_eq_some_iff.1 h1).1).trans h1,h2⟩
theorem Room.set{W:World}{g n:Nat}(h:Room W g n)(j:Nat)(u:Value):Room (W.setCell ⟨g,j,none⟩ u) g n:=by
 obtain⟨cs,h1,h2⟩:=h;exact⟨_,F.blk_set h1 u,by simpa using h2⟩
theorem Room.free{W:World}{g n:Nat}(h:Room W g n)(j:Nat):W.frozen? ⟨g,j,none⟩=false:=by
 obtain⟨cs,h1,_⟩:=h;exact F.free_at h1 j
theorem Room.cell{W:World}{g n:Nat}(h:Room W g n){j:Nat}(hj:j<n*2):∃v,W.cell? ⟨g,j,none⟩=some v:=by
 obtain⟨cs,h1,h2⟩:=h;exact⟨_,cell_of_row _ g j _ _ (0,0) h1|>.trans (Array.getElem?_eq_getElem (by omega))⟩
theorem wm_good(w:World)(A:Option Addr)(n c:Nat)(l:List Ent)(h:EntsIn w A n c l)(ho:openB l=true)(A2:Option Addr)(na ca:Nat)(H:List Sh)(h2:StsIn w w.heap.size A2 na ca H)(hna:na≤200)(z:Int)(hz: -9223372036854775808≤z∧z≤9223372036854775807)(hT:Tab w):
  Calls Tryz.prog 4 #[.slice A n c,.slice A2 na ca,.int .i64 z] w fun e w'=>e=.returned (.bool true)∧Below w.heap.size w w':=by
 have hfew:=open_few ho;have hln:=h.ents.len;have HT:=Lib.hid hT;have HE:=Lib.hid h;have HO:=Lib.hid ho;have HS:=Lib.hid h2;have HZ:=Lib.hid hz;have q200:decide (200<na)=false:=decide_eq_false (by omega);have q200':decide ((na:Int)>200)=false:=decide_eq_false (by omega);obtain⟨mo,hmo⟩:∃m:Nat,max z 0=(m:Int):=⟨(max z 0).toNat,by omega⟩;have hmo2:mo≤9223372036854775807:=by omega
 have HMO:Hid ((max z 0).toNat=mo):=by show _=_;rw[hmo,Int.toNat_natCast]
 clear hT h ho h2 hz;go_enter Tryz.func4,Tryz.ntmps4
 go_wp2_with fail;refine(open13_any w w.heap.size (Nat.le_refl _) A n c l HE.out.ents HE.out.fits HE.out.lens HT.out).mono ?_;rintro e w2 ⟨hb2,⟨hno,_⟩|⟨_,p,B,dn,k,A3,hs',rfl,hd,hm⟩⟩
 ·rw[HO.out]at hno;cases hno
 obtain⟨hf,hwl,hall,hle⟩:=open_facts HO.out HE.out.fits hm;have hdl:=hd.len;have hdn:dn≤4194305:=by omega
 have HB2:=Lib.hid hb2;have HD2:=Lib.hid hd;have HFA:=Lib.hid (And.intro hf (And.intro hwl hall));clear hb2 hd hm hf hwl hall hle hdl;go_wp2_with fail;refine(awake13_any w2 (HT.out.below HB2.out)).mono ?_;rintro e w3 ⟨rfl,hb3⟩;have HB3:=Lib.hid (bcall HB2.out hb3);have HD3:=Lib.hid (HD2.out.keep hb3);clear hb3 HB2 HD2;have HLA:Hid ((allE (hs'.map (·.d)) (baseOf l)).length≤1048576):=by show _≤_;rw[HFA.out.2.2];omega
 have HM:=Lib.hid (fun(W:World) (hb:Below w3.heap.size w3 W)=>wmatch_any W p B dn k A3 (baseOf l) (l.length:Int) hs' (HD3.out.keep hb) HFA.out.1 HFA.out.2.1 (by omega) w.heap.size (Nat.le_trans HB3.out.size hb.size) A2 na ca H (HS.out.keep (HB3.out.trans (hb.mono HB3.out.size)) (Nat.le_refl _)) z HZ.out HLA.out);rw[HFA.out.2.2,HMO.out]at HM;obtain⟨T,hTT⟩:∃T,takeE l (H.map (·.d))=T:=⟨_,rfl⟩;have HTL:Hid (T.length≤120):=by show _≤_;rw[←hTT];exact Nat.le_trans (List.length_filter_le _ _) hfew
 rw[hTT]at HM;have HTT:=Lib.hid hTT;obtain⟨R,hR⟩:∃R,T.take mo=R:=⟨_,rfl⟩;have HRL:Hid (R.length≤120):=by show _≤_;rw[←hR,List.length_take];have:=HTL.out;omega
 have HRR:=Lib.hid hR;clear hTT hR;go_wp2_with fail;refine(HM.out w3 (brefl _)).mono ?_;rintro e w4 ⟨v4,rfl,hrow4,hb4⟩;rw[HRR.out]at hrow4;obtain⟨kr,hkr⟩:∃k,R.length=k:=⟨_,rfl⟩;rw[hkr]at hrow4;have HKR:=Lib.hid hkr;have hkrc:kr≤140737488355328:=by rw[←hkr];have:=HRL.out;omega
 have HC4:=Lib.hid hb4;have HR4:=Lib.hid hrow4;obtain⟨A4,c4,rfl,hc4⟩:=own_shape hrow4;have HB4:=Lib.hid (HB3.out.trans (HC4.out.mono HB3.out.size));have HRF:=Lib.hid (show Calls Tryz.prog 15 #[.slice A n c,.slice A2 na ca,.int .i64 (mo:Int)] w4 fun e w'=>∃v,e=.returned (.tuple #[v,.bool (decide (mo<T.length))])∧w'.ownsRow w4.heap.size 29 2 v kr (entsC R)∧Below w4.heap.size w4 w' from by
  have hrm:=rmatch_any w4 w.heap.size HB4.out.size A n c l (HE.out.ents.keep HB4.out (Nat.le_refl _)) (by omega) (fun e he=>by have:=HE.out.lens e he;omega) A2 na ca H (HS.out.keep HB4.out (Nat.le_refl _)) mo hmo2;rw[←HKR.out,←HRR.out,←HTT.out];exact hrm)
 clear hb4 hrow4 hkr;go_wp2_with fail;refine HRF.out.mono ?_;rintro e w5 ⟨v5,rfl,hrow5,hb5⟩;have HC5:=Lib.hid (HC4.out.trans (hb5.mono HC4.out.size));have HR45:=Lib.hid (own_kept HR4.out hb5);have HR5:=Lib.hid hrow5;obtain⟨A5,c5,rfl,hc5⟩:=own_shape hrow5;have HRM5:Hid (0<kr→∃g,A4=some ⟨g,0,none⟩∧w3.heap.size≤g∧g<w4.heap.size∧Room w5 g kr):=fun hn0=>by
  rcases own_room HR4.out with⟨_,h0⟩|⟨g,cg,hv,hg,_,hro⟩
  ·omega
  ·injection hv with hv _ _
   exact⟨g,hv,hg,(HR4.out.lt g (by rw[hv];rfl)).2,hro.below hb5⟩
 have HS45:=Lib.hid hb5.size;clear hb5 hrow5 HRF HC4 HB4 HR4;go_wp2_with fail;refine(HM.out w5 HC5.out).mono ?_;rintro e w6 ⟨v6,rfl,hrow6,hb6⟩;rw[HRR.out,HKR.out]at hrow6;have HC6:=Lib.hid (HC5.out.trans (hb6.mono HC5.out.size));have HR46:=Lib.hid (own_kept HR45.out hb6);have HR56:=Lib.hid (own_kept HR5.out hb6);have HR6:=Lib.hid hrow6;obtain⟨A6,c6,rfl,hc6⟩:=own_shape hrow6;have HRM6:Hid (0<kr→∃g,A4=some ⟨g,0,none⟩∧w3.heap.size≤g∧g<w4.heap.size∧Room w6 g kr):=fun hn0=>by
  obtain⟨g,hv,h1,h2,h3⟩:=HRM5.out hn0;exact⟨g,hv,h1,h2,h3.below hb6⟩
 have HS56:=Lib.hid hb6.size;have hmoT:∃b,decide (mo<T.length)=b:=⟨_,rfl⟩;obtain⟨bm,hbm⟩:=hmoT;rw[hbm];clear hb6 hrow6 HC5 HR45 HR5 HRM5 HM hbm;go_wp2_with fail;refine(F.Same_any w6 w6.heap.size (Nat.le_refl _) A4 A5 kr c4 kr c5 R R ⟨by have:=Sl.of_own HR46.out;exact this,hc4,hkrc⟩ ⟨by have:=Sl.of_own HR56.out;exact this,hc5,hkrc⟩).mono ?_;rintro e w7 ⟨rfl,hb7⟩;rw[decide_eq_true rfl];have HC7:=Lib.hid (HC6.out.trans (hb7.mono HC6.out.size));have HR57:=Lib.hid (own_kept HR56.out hb7);have HR67:=Lib.hid (own_kept HR6.out hb7);have HRM7:Hid (0<kr→∃g,A4=some ⟨g,0,none⟩∧w3.heap.size≤g∧g<w4.heap.size∧Room w7 g kr):=fun hn0=>by
  obtain⟨g,hv,h1,h2,h3⟩:=HRM6.out hn0;exact⟨g,hv,h1,h2,h3.below hb7⟩
 clear hb7 HC6 HR46 HR56 HR6 HRM6;go_wp2_with fail;go_loopw [14] (fun iv wr=>∃q:Nat,q≤kr∧iv=.int .i64 q∧Hid (Below w3.heap.size w3 wr)∧Hid (wr.ownsRow w4.heap.size 29 2 (.slice A5 kr c5) kr (entsC R))∧Hid (wr.ownsRow w5.heap.size 29 2 (.slice A6 kr c6) kr (entsC R))∧Hid (0<kr→∃g,A4=some ⟨g,0,none⟩∧w3.heap.size≤g∧g<w4.heap.size∧Room wr g kr)) (fun iv _=>kr-(intOf iv).toNat)
 case atStart=>exact⟨0,Nat.zero_le _,rfl,HC7,HR57,HR67,HRM7⟩
 case round=>
  obtain⟨q,hq,rfl,HC,HR1,HR2,HRM⟩:=hrel;clear HC7 HR57 HR67 HRM7;by_cases hlt:q<kr
  ·obtain⟨g,rfl,hg1,hg2,hro⟩:=HRM.out (by omega);have fr0:=hro.free (q*2);have fr1:=(hro.set (q*2) (.string ⟨#[]⟩)).free (q*2+1);obtain⟨o0,ho0⟩:=hro.cell (j:=q*2) (by omega);obtain⟨o1,ho1⟩:=(hro.set (q*2) (.string ⟨#[]⟩)).cell (j:=q*2+1) (by omega);have HRO:=Lib.hid ((hro.set (q*2) (.string ⟨#[]⟩)).set (q*2+1) (.int .i64 (-1)));have HBS:=Lib.hid (below_set (below_set HC.out (k:=g) (j:=q*2) (u:=.string ⟨#[]⟩) hg1 (Nat.le_refl _)) (k:=g) (j:=q*2+1) (u:=.int .i64 (-1)) hg1 (Nat.le_refl _));have HRS1:=Lib.hid (own_set (own_set HR1.out (k:=g) (j:=q*2) (u:=.string ⟨#[]⟩) hg2) (k:=g) (j:=q*2+1) (u:=.int .i64 (-1)) hg2);have hg5:g<w5.heap.size:=Nat.lt_of_lt_of_le hg2 HS45.out;have HRS2:=Lib.hid (own_set (own_set HR2.out (k:=g) (j:=q*2) (u:=.string ⟨#[]⟩) hg5) (k:=g) (j:=q*2+1) (u:=.int .i64 (-1)) hg5);clear hro HC HR1 HR2 HRM;go_wp2_with fail;go_roundw;case rel=>exact⟨q+1,by omega,by go_num,HBS,HRS1,HRS2,fun _=>⟨g,rfl,hg1,hg2,HRO.out⟩⟩
   case measure=>simp[intOf];omega
  ·obtain rfl:q=kr:=by omega
   clear HRM;go_wp2_with fail;refine(F.Same_any wr wr.heap.size (Nat.le_refl _) A6 A5 q c6 q c5 R R ⟨by have:=Sl.of_own HR2.out;exact this,hc6,hkrc⟩ ⟨by have:=Sl.of_own HR1.out;exact this,hc5,hkrc⟩).mono ?_;rintro e w8 ⟨rfl,hb8⟩;rw[decide_eq_true rfl];have HC8:=Lib.hid (HB3.out.trans ((HC.out.trans (hb8.mono HC.out.size)).mono HB3.out.size));clear hb8 HC;go_wp2_with fail;go_ret;exact⟨rfl,HC8.out⟩
theorem wm_nil(w:World)(A:Option Addr)(n c:Nat)(l:List Ent)(h:EntsIn w A n c l)(ho:openB l=false)(A2:Option Addr)(na ca:Nat)(z:Int)(hT:Tab w):
  Calls Tryz.prog 4 #[.slice A n c,.slice A2 na ca,.int .i64 z] w fun e w'=>e=.returned (.bool true)∧Below w.heap.size w w':=by
 have HT:=Lib.hid hT;have HE:=Lib.hid h;have HO:=Lib.hid ho;clear hT h ho;go_enter Tryz.func4,Tryz.ntmps4
 go_wp2_with fail;refine(open13_any w w.heap.size (Nat.le_refl _) A n c l HE.out.ents HE.out.fits HE.out.lens HT.out).mono ?_;rintro e w2 ⟨hb2,⟨_,rfl⟩|⟨hyes,_⟩⟩
 ·have HB2:=Lib.hid hb2;clear hb2;go_wp2_with fail;refine(awake13_any w2 (HT.out.below HB2.out)).mono ?_;rintro e w3 ⟨rfl,hb3⟩;have HB3:=Lib.hid (bcall HB2.out hb3);clear hb3;go_wp2_with fail;refine(awake13_any w3 (HT.out.below HB3.out)).mono ?_;rintro e w4 ⟨rfl,hb4⟩;have HB4:=Lib.hid (bcall HB3.out hb4);clear hb4;go_wp2_with fail;go_ret;exact⟨rfl,HB4.out⟩
 ·rw[HO.out]at hyes;cases hyes
theorem wm_long(w:World)(A:Option Addr)(n c:Nat)(l:List Ent)(h:EntsIn w A n c l)(ho:openB l=true)(A2:Option Addr)(na ca:Nat)(hna:200<na)(z:Int)(hT:Tab w):
  Calls Tryz.prog 4 #[.slice A n c,.slice A2 na ca,.int .i64 z] w fun e w'=>e=.returned (.bool true)∧Below w.heap.size w w':=by
 have HT:=Lib.hid hT;have HE:=Lib.hid h;have HO:=Lib.hid ho;have q200:decide (200<na)=true:=decide_eq_true hna;have q200':decide ((na:Int)>200)=true:=decide_eq_true (by omega);clear hT h ho;go_enter Tryz.func4,Tryz.ntmps4
 go_wp2_with fail;refine(open13_any w w.heap.size (Nat.le_refl _) A n c l HE.out.ents HE.out.fits HE.out.lens HT.out).mono ?_;rintro e w2 ⟨hb2,⟨hno,_⟩|⟨_,p,B,dn,k,A3,hs',rfl,_,_⟩⟩
 ·rw[HO.out]at hno;cases hno
 have HB2:=Lib.hid hb2;clear hb2;go_wp2_with fail;refine(awake13_any w2 (HT.out.below HB2.out)).mono ?_;rintro e w3 ⟨rfl,hb3⟩;have HB3:=Lib.hid (bcall HB2.out hb3);clear hb3;go_wp2_with fail;refine(awake13_any w3 (HT.out.below HB3.out)).mono ?_;rintro e w4 ⟨rfl,hb4⟩;have HB4:=Lib.hid (bcall HB3.out hb4);clear hb4;go_wp2_with fail;go_ret;exact⟨rfl,HB4.out⟩
theorem wm_walkc(w:World)(A:Option Addr)(n c:Nat)(x:Nat→F.tEnt.den)(h:EntsIn w A n c (F.entL n x))(A2:Option Addr)(na ca:Nat)(y:Nat→tState.den)(h2:StsIn w w.heap.size A2 na ca (shL na y))(z:Int)(hz:(Lit.int .i64 z).wf=true)(hT:Tab w):
  Calls Tryz.prog 4 #[.slice A n c,.slice A2 na ca,.int .i64 z] w fun e w'=>e=.returned (.bool true)∧Below w.heap.size w w':=by
 have hz2: -9223372036854775808≤z∧z≤9223372036854775807:=by
  have hw:=hz;simp[Lit.wf]at hw
  exact⟨hw.1,hw.2⟩
 cases ho:openB (F.entL n x)with
 |false=>exact wm_nil w A n c _ h ho A2 na ca z hT
 |
  true=>
  by_cases hna:na≤200
  ·exact wm_good w A n c _ h ho A2 na ca _ h2 hna z hz2 hT
  ·exact wm_long w A n c _ h ho A2 na ca (by omega) z hT
end
end Go.Proofs.YtaociahafamncaaGreatDoor
