/- Folded. -/
import Derived.Test.YtaociahafamncaaGreatDoorHM15
set_option maxRecDepth 100000
set_option maxHeartbeats 40000000
set_option linter.unusedVariables false
namespace Go.Proofs.YtaociahafamncaaGreatDoor
section
open Go.RowKit
def arcC(a:Arc3):List Value:=[.int .i64 a.1,.int .i64 a.2.1,.int .i64 a.2.2]
def zaa(l:List Arc3):List Value:=l.flatMap arcC
theorem zl8(l:List Arc3):(zaa l).length=l.length*3:=by
 induction l with
 |nil=>rfl
 |cons x r ih=>show(arcC x++zaa r).length=_;rw[List.length_append,ih,List.length_cons];show 3+_=_;omega
theorem zge(a b:List Arc3):zaa (a++b)=zaa a++zaa b:=List.flatMap_append
structure Sh where
 d:St
 A:Option Addr
 c:Nat
def Sh.hdr(x:Sh):List Value:=[.bool x.d.1,.slice x.A x.d.2.length x.c]
structure StsIn(w:World)(B:Nat)(A:Option Addr)(n c:Nat)(H:List Sh):Prop where
 len:H.length=n
 sl:Sl w B 2 A n (H.flatMap Sh.hdr)
 nc:n≤c
 cm:n≤140737488355328
 ar:∀x∈H,Sl w B 3 x.A x.d.2.length (zaa x.d.2)∧x.d.2.length≤x.c∧x.d.2.length≤140737488355328
section
variable {w w':World}{B B':Nat}{A:Option Addr}{n c:Nat}{H:List Sh}
theorem StsIn.keep(h:StsIn w B A n c H)(hb:Below B w w')(hB:B≤B'):StsIn w' B' A n c H:=
 ⟨h.len,(h.sl.below hb).more hB,h.nc,h.cm,fun x hx=>⟨((h.ar x hx).1.below hb).more hB,(h.ar x hx).2⟩⟩
theorem StsIn.at_(h:StsIn w B A n c H)(hn:0<n):∃b off,A=some ⟨b,off,none⟩∧b<B∧∀k x,H[k]? =some x→w.cell? ⟨b,off+k*2,none⟩=some (.bool x.d.1)∧w.cell? ⟨b,off+k*2+1,none⟩=some (.slice x.A x.d.2.length x.c):=by
 obtain⟨b,off,hA,hb,hc⟩:=h.sl.at_ hn;refine⟨b,off,hA,hb,fun k e he=>?_⟩;have g:∀j u,e.hdr[j]? =some u→j<2→w.cell? ⟨b,off+(k*2+j),none⟩=some u:=fun j u hu hj=>
  hc _ _ (by rw[zc7 Sh.hdr 2 (fun _=>rfl) H k j e he hj];exact hu)
 exact⟨g 0 _ rfl (by omega),by have:=g 1 _ rfl (by omega);rwa[←Nat.add_assoc]at this⟩
theorem StsIn.arc(h:StsIn w B A n c H){x:Sh}(hx:x∈H)(hn:0<x.d.2.length):∃b off,x.A=some ⟨b,off,none⟩∧b<B∧∀k a,x.d.2[k]? =some a→w.cell? ⟨b,off+k*3,none⟩=some (.int .i64 a.1)∧w.cell? ⟨b,off+k*3+1,none⟩=some (.int .i64 a.2.1)∧w.cell? ⟨b,off+k*3+2,none⟩=some (.int .i64 a.2.2):=by
 obtain⟨b,off,hA,hb,hc⟩:=(h.ar x hx).1.at_ hn;refine⟨b,off,hA,hb,fun k e he=>?_⟩;have g:∀j u,(arcC e)[j]? =some u→j<3→w.cell? ⟨b,off+(k*3+j),none⟩=some u:=fun j u hu hj=>
  hc _ _ (by unfold zaa;rw[zc7 arcC 3 (fun _=>rfl) x.d.2 k j e he hj];exact hu)
 exact⟨g 0 _ rfl (by omega),by have:=g 1 _ rfl (by omega);rwa[←Nat.add_assoc]at this,by have:=g 2 _ rfl (by omega);rwa[←Nat.add_assoc]at this⟩
end
def okA(n:Nat):Int→List Arc3→Bool
 |_,[]=>true
 |last,a::r=>decide (last<a.1∧a.1≤a.2.1∧a.2.1≤255∧0≤a.2.2∧a.2.2<(n:Int))&&okA n a.2.1 r
def zb2(d:List St):Int:=if d=[]then 1 else if 20000<d.length then 8 else if d.all (fun s=>okA d.length (-1) s.2)then 0 else 3
end
section
open Go.RowKit
theorem ze9(w:World)(B:Nat)(hB:B≤w.heap.size)(A:Option Addr)(n c:Nat)(H:List Sh)(h:StsIn w B A n c H):
  Calls Tryz.prog 27 #[.slice A n c] w fun e w'=>e=.returned (.int .i64 (zb2 (H.map (·.d))))∧Below w.heap.size w w':=by
 have HS:=Lib.hid h;have hlen:=h.len;have hcm:=h.cm;by_cases h0:n=0
 ·subst h0;have hH:H=[]:=List.eq_nil_of_length_eq_zero hlen;have HE:Hid (zb2 (H.map (·.d))=1):=by rw[hH];rfl
  clear h hlen hH;go_enter Tryz.func27,Tryz.ntmps27
  go_wp2_with fail;go_ret;exact⟨by rw[HE.out];rfl,za0 w⟩
 have q0:((n:Int)==0)=false:=by simp;omega
 have q01:(n==0)=false:=by simp;omega
 by_cases hbig:20000<n
 ·have q1:decide ((n:Int)>20000)=true:=decide_eq_true (by omega);have q2:decide (n>20000)=true:=decide_eq_true (by omega);have HE:Hid (zb2 (H.map (·.d))=8):=by
   show _=_;unfold zb2;rw[if_neg (by intro e;rw[List.map_eq_nil_iff]at e;rw[e]at hlen;exact h0 hlen.symm),List.length_map,hlen,if_pos hbig]
  clear h hlen hbig;go_enter Tryz.func27,Tryz.ntmps27
  go_wp2_with fail;go_ret;exact⟨by rw[HE.out];rfl,za0 w⟩
 have q1:decide ((n:Int)>20000)=false:=decide_eq_false (by omega);have q2:decide (n>20000)=false:=decide_eq_false (by omega);have HE:Hid (zb2 (H.map (·.d))=if(H.map (·.d)).all (fun s=>okA n (-1) s.2)then 0 else 3):=by
  show _=_;unfold zb2;rw[if_neg (by intro e;rw[List.map_eq_nil_iff]at e;rw[e]at hlen;exact h0 hlen.symm),List.length_map,hlen,if_neg hbig]
 clear h hbig;go_enter Tryz.func27,Tryz.ntmps27
 go_wp2_with fail;go_loopw [18] (fun iv wr=>∃k:Nat,k≤n∧iv=.int .i64 k∧Hid (∀x∈H.take k,okA n (-1) x.d.2=true)∧Hid (Below w.heap.size w wr)) (fun iv _=>n-(intOf iv).toNat)
 case atStart=>exact⟨0,Nat.zero_le _,rfl,fun x hx=>by simp at hx,za0 w⟩
 case round=>
  obtain⟨k,hk,rfl,HK,HB⟩:=hrel;by_cases hlt:k<n
  ·have HW:=Lib.hid (HS.out.keep (HB.out.mono hB) (Nat.le_refl _));obtain⟨b,off,rfl,hb,hcell⟩:=HW.out.at_ (by omega);obtain⟨x,hx⟩:∃x,H[k]? =some x:=⟨H[k]'(by omega),List.getElem?_eq_getElem _⟩;obtain⟨k0,k1⟩:=hcell k x hx;have hbw:b<wr.heap.size:=Nat.lt_of_lt_of_le hb (Nat.le_trans hB HB.out.size);have hxm:=List.mem_of_getElem? hx;have hxar:=HW.out.ar x hxm;obtain⟨m,hm⟩:∃m,x.d.2.length=m:=⟨_,rfl⟩;have hm47:=hxar.2.2;rw[hm]at k1 hm47;have HM:=Lib.hid hm;have HXM:=Lib.hid hxm;have HXK:=Lib.hid hx;clear hcell hx hxm hxar hm;go_wp2_with fail;have HB1:=Lib.hid (bnew HB.out (.cells #[.bool x.d.1,.slice x.A m x.c] 74));have H0:Hid (okA n (-1) x.d.2=okA n (-1) (x.d.2.drop 0)):=rfl;go_loopw [5,25] (fun lv jv wj=>∃(j:Nat) (last:Int),j≤m∧jv=.int .i64 j∧lv=.int .i64 last∧Hid (okA n (-1) x.d.2=okA n last (x.d.2.drop j))∧Hid (Below w.heap.size w wj)) (fun _ jv _=>m-(intOf jv).toNat)
   case atStart=>exact⟨0,-1,Nat.zero_le _,rfl,rfl,H0,HB1⟩
   case round=>
    clear H0 HB1 k0 k1;obtain⟨j,last,hj,rfl,rfl,HO,HBJ⟩:=hrel;by_cases hjm:j<m
    ·have HWJ:=HS.out.keep (HBJ.out.mono hB) (Nat.le_refl _);obtain⟨ab,aoff,hxA,hab,hac⟩:=HWJ.arc HXM.out (by rw[HM.out];omega);obtain⟨a,ha⟩:∃a,x.d.2[j]? =some a:=⟨x.d.2[j]'(by rw[HM.out];exact hjm),List.getElem?_eq_getElem _⟩;obtain⟨a0,a1,a2⟩:=hac j a ha;have habw:ab<wr.heap.size:=Nat.lt_of_lt_of_le hab (Nat.le_trans hB HBJ.out.size);have hdrop:x.d.2.drop j=a::x.d.2.drop (j+1):=by
      obtain⟨h1,h2⟩:=List.getElem?_eq_some_iff.1 ha;rw[List.drop_eq_getElem_cons h1,h2]
     rw[hdrop,okA]at HO;have HBN:=Lib.hid (bnew HBJ.out (.cells #[.int .i64 a.1,.int .i64 a.2.1,.int .i64 a.2.2] 76));rw[hxA];clear hac HWJ ha hdrop;obtain⟨lo,hi,tt⟩:=a;simp only at a0 a1 a2 HO HBN;have HBAD:Hid (¬(last<lo∧lo≤hi∧hi≤255∧0≤tt∧tt<(n:Int))→zb2 (H.map (·.d))=3):=fun hbad=>by
      rw[HE.out,if_neg];rw[List.all_eq_true];intro h
      have:=h x.d (List.mem_map_of_mem HXM.out);rw[HO.out,decide_eq_false hbad]at this;simp at this
     by_cases c1:lo≤last
     ·have p1:decide (lo≤last)=true:=decide_eq_true c1;have HB3:=Lib.hid (HBAD.out (by omega));go_wp2_with fail;go_ret;exact⟨by rw[HB3.out];rfl,HBN.out⟩
     have p1:decide (lo≤last)=false:=decide_eq_false c1;by_cases c2:hi<lo
     ·have p2:decide (hi<lo)=true:=decide_eq_true c2;have HB3:=Lib.hid (HBAD.out (by omega));clear c1;go_wp2_with fail;go_ret;exact⟨by rw[HB3.out];rfl,HBN.out⟩
     have p2:decide (hi<lo)=false:=decide_eq_false c2;by_cases c3:255<hi
     ·have p3:decide (hi>255)=true:=decide_eq_true c3;have HB3:=Lib.hid (HBAD.out (by omega));clear c1 c2;go_wp2_with fail;go_ret;exact⟨by rw[HB3.out];rfl,HBN.out⟩
     have p3:decide (hi>255)=false:=decide_eq_false c3;by_cases c4:tt<0
     ·have p4:decide (tt<0)=true:=decide_eq_true c4;have HB3:=Lib.hid (HBAD.out (by omega));clear c1 c2 c3;go_wp2_with fail;go_ret;exact⟨by rw[HB3.out];rfl,HBN.out⟩
     have p4:decide (tt<0)=false:=decide_eq_false c4;by_cases c5:(n:Int)≤tt
     ·have p5:decide (tt≥(n:Int))=true:=decide_eq_true c5;have HB3:=Lib.hid (HBAD.out (by omega));clear c1 c2 c3 c4;go_wp2_with fail;go_ret;exact⟨by rw[HB3.out];rfl,HBN.out⟩
     have p5:decide (tt≥(n:Int))=false:=decide_eq_false c5;have HON:Hid (okA n (-1) x.d.2=okA n hi (x.d.2.drop (j+1))):=by
      show _=_;rw[HO.out,decide_eq_true (by omega)];rfl
     clear c1 c2 c3 c4 c5 HO;go_wp2_with fail;go_roundw;case rel=>exact⟨j+1,hi,by omega,by go_num,rfl,HON,HBN⟩
     case measure=>simp[intOf];omega
    ·obtain rfl:j=m:=by omega
     have hok:okA n (-1) x.d.2=true:=by
      rw[HO.out,List.drop_of_length_le (by rw[HM.out];exact Nat.le_refl _)];rfl
     have HKN:Hid (∀y∈H.take (k+1),okA n (-1) y.d.2=true):=fun y hy=>by
      rw[List.take_add_one,HXK.out]at hy;rcases List.mem_append.1 hy with hy|hy
      ·exact HK.out y hy
      ·rw[List.mem_singleton.1 hy];exact hok
     clear hok;go_wp2_with fail;go_roundw;case rel=>exact⟨k+1,by omega,by go_num,HKN,HBJ⟩
     case measure=>simp[intOf];omega
  ·obtain rfl:k=n:=by omega
   have hall:H.take k=H:=List.take_of_length_le (by omega);rw[hall]at HK;have HE2:Hid (zb2 (H.map (·.d))=0):=by
    show _=_;rw[HE.out,if_pos];rw[List.all_eq_true];intro s hs
    obtain⟨x,hx,rfl⟩:=List.mem_map.1 hs;exact HK.out x hx
   go_wp2_with fail;go_ret;exact⟨by rw[HE2.out];rfl,HB.out⟩
def zmj(d:List St)(z c:Int):Int:=if z<0∨(d.length:Int)≤z then-1 else match d[z.toNat]? with
 |some s=>(lookA s.2 c).getD (-1)
 |none=> -1
theorem zli(a:Arc3)(r:List Arc3)(c:Int):lookA (a::r) c=if a.1≤c∧c≤a.2.1 then some a.2.2 else lookA r c:=by
 unfold lookA;by_cases h:a.1≤c∧c≤a.2.1
 ·rw[if_pos h,List.find?_cons_of_pos (by simpa using h)];rfl
 ·rw[if_neg h,List.find?_cons_of_neg (by simpa using h)]
theorem z9g(w:World)(B:Nat)(hB:B≤w.heap.size)(A:Option Addr)(n c:Nat)(H:List Sh)(h:StsIn w B A n c H)(z:Int)(ch:Int)(hch:0≤ch∧ch<256):
  Calls Tryz.prog 48 #[.slice A n c,.int .i64 z,.int .u8 ch] w fun e w'=>e=.returned (.int .i64 (zmj (H.map (·.d)) z ch))∧Below w.heap.size w w':=by
 have HS:=Lib.hid h;have hlen:=h.len;have hcm:=h.cm;obtain⟨hch0,hch1⟩:=hch;have hwc:IntKind.i64.wrap ch=ch:=IntWalk.i64_in _ (by omega);by_cases hz:z<0
 ·have q1:decide (z<0)=true:=decide_eq_true hz;have HE:Hid (zmj (H.map (·.d)) z ch= -1):=if_pos (.inl hz);clear h hlen hz;go_enter Tryz.func48,Tryz.ntmps48
  go_wp2_with fail;go_ret;exact⟨by rw[HE.out];rfl,za0 w⟩
 by_cases hzn:(n:Int)≤z
 ·have q1:decide (z<0)=false:=decide_eq_false hz;have q2:decide (z≥(n:Int))=true:=decide_eq_true hzn;have HE:Hid (zmj (H.map (·.d)) z ch= -1):=if_pos (.inr (by rw[List.length_map,hlen];exact hzn));clear h hlen hz hzn;go_enter Tryz.func48,Tryz.ntmps48
  go_wp2_with fail;go_ret;exact⟨by rw[HE.out];rfl,za0 w⟩
 obtain⟨k,rfl⟩:=Int.eq_ofNat_of_zero_le (show 0≤z by omega);have hkn:k<n:=by omega
 obtain⟨x,hx⟩:∃x,H[k]? =some x:=⟨H[k]'(by omega),List.getElem?_eq_getElem _⟩;have HE:Hid (zmj (H.map (·.d)) (k:Nat) ch=(lookA x.d.2 ch).getD (-1)):=by
  show _=_;unfold zmj;rw[if_neg (by rw[List.length_map,hlen];omega),Int.toNat_natCast,List.getElem?_map,hx];rfl
 obtain⟨b,off,rfl,hb,hcell⟩:=h.at_ (by omega);obtain⟨k0,k1⟩:=hcell k x hx;have hxm:=List.mem_of_getElem? hx;obtain⟨m,hm⟩:∃m,x.d.2.length=m:=⟨_,rfl⟩;have hm47:=(h.ar x hxm).2.2;rw[hm]at k1 hm47;have HM:=Lib.hid hm;have HXM:=Lib.hid hxm;have q1:decide ((k:Int)<0)=false:=decide_eq_false (by omega);have q2:decide ((k:Int)≥(n:Int))=false:=decide_eq_false (by omega);have q3:decide (k≥n)=false:=decide_eq_false (by omega);clear h hx hcell hxm hm hz hzn;go_enter Tryz.func48,Tryz.ntmps48
 go_wp2_with fail;go_loopw [23] (fun jv wj=>∃j:Nat,j≤m∧jv=.int .i64 j∧Hid (lookA x.d.2 ch=lookA (x.d.2.drop j) ch)∧Hid (Below w.heap.size w wj)) (fun jv _=>m-(intOf jv).toNat)
 case atStart=>exact⟨0,Nat.zero_le _,rfl,rfl,za0 w⟩
 case round=>
  clear k0 k1;obtain⟨j,hj,rfl,HO,HBJ⟩:=hrel;by_cases hjm:j<m
  ·have HWJ:=HS.out.keep (HBJ.out.mono hB) (Nat.le_refl _);obtain⟨ab,aoff,hxA,hab,hac⟩:=HWJ.arc HXM.out (by rw[HM.out];omega);obtain⟨a,ha⟩:∃a,x.d.2[j]? =some a:=⟨x.d.2[j]'(by rw[HM.out];exact hjm),List.getElem?_eq_getElem _⟩;obtain⟨a0,a1,a2⟩:=hac j a ha;have habw:ab<wr.heap.size:=Nat.lt_of_lt_of_le hab (Nat.le_trans hB HBJ.out.size);have hdrop:x.d.2.drop j=a::x.d.2.drop (j+1):=by
    obtain⟨h1,h2⟩:=List.getElem?_eq_some_iff.1 ha;rw[List.drop_eq_getElem_cons h1,h2]
   rw[hdrop,zli]at HO;have HBN:=Lib.hid (bnew HBJ.out (.cells #[.int .i64 a.1,.int .i64 a.2.1,.int .i64 a.2.2] 76));rw[hxA];clear hac HWJ ha hdrop;obtain⟨lo,hi,tt⟩:=a;simp only at a0 a1 a2 HO HBN;by_cases c1:lo≤ch
   ·have p1:decide (ch≥lo)=true:=decide_eq_true c1;by_cases c2:ch≤hi
    ·have p2:decide (ch≤hi)=true:=decide_eq_true c2;have HE2:Hid (zmj (H.map (·.d)) (k:Nat) ch=tt):=by
      show _=_;rw[HE.out,HO.out,if_pos ⟨c1,c2⟩];rfl
     clear c1 c2;go_wp2_with fail;go_ret;exact⟨by rw[HE2.out];rfl,HBN.out⟩
    ·have p2:decide (ch≤hi)=false:=decide_eq_false c2;rw[if_neg (by omega)]at HO;clear c1 c2;go_wp2_with fail;go_roundw;case rel=>exact⟨j+1,by omega,by go_num,HO,HBN⟩
     case measure=>simp[intOf];omega
   ·have p1:decide (ch≥lo)=false:=decide_eq_false c1;rw[if_neg (by omega)]at HO;clear c1;go_wp2_with fail;go_roundw;case rel=>exact⟨j+1,by omega,by go_num,HO,HBN⟩
    case measure=>simp[intOf];omega
  ·obtain rfl:j=m:=by omega
   have HE2:Hid (zmj (H.map (·.d)) (k:Nat) ch= -1):=by
    show _=_;rw[HE.out,HO.out,List.drop_of_length_le (by rw[HM.out];exact Nat.le_refl _)];rfl
   go_wp2_with fail;go_ret;exact⟨by rw[HE2.out];rfl,HBJ.out⟩
theorem zy1{n:Nat}:∀{l:List Arc3}{last:Int},okA n last l=true→-1≤last→(∀a∈l,last<a.1)∧Asc l 256∧∀a∈l,0≤a.2.2∧a.2.2<(n:Int)
 |[],_,_,_=>⟨by simp,⟨List.Pairwise.nil,by simp⟩,by simp⟩
 |
  a::r,last,h,hl=>by
  rw[okA,Bool.and_eq_true,decide_eq_true_eq]at h;obtain⟨⟨h1,h2,h3,h4,h5⟩,h6⟩:=h;obtain⟨i1,i2,i3⟩:=zy1 h6 (by omega);refine⟨fun b hb=>?_,⟨List.pairwise_cons.2 ⟨i1,i2.lt⟩,fun b hb=>?_⟩,fun b hb=>?_⟩
  ·rcases List.mem_cons.1 hb with rfl|hb
   ·exact h1
   ·have:=i1 b hb;omega
  ·rcases List.mem_cons.1 hb with rfl|hb
   ·omega
   ·exact i2.ok b hb
  ·rcases List.mem_cons.1 hb with rfl|hb
   ·exact⟨h4,h5⟩
   ·exact i3 b hb
theorem zAk{n:Nat}:∀{l:List Arc3}{last:Int},(∀a∈l,last<a.1)→Asc l 256→(∀a∈l,0≤a.2.2∧a.2.2<(n:Int))→okA n last l=true
 |[],_,_,_,_=>rfl
 |
  a::r,last,h1,h2,h3=>by
  have ha:=h2.ok a (List.mem_cons_self ..);have hb:=h3 a (List.mem_cons_self ..);obtain⟨p1,p2⟩:=List.pairwise_cons.1 h2.lt;rw[okA,decide_eq_true (by have:=h1 a (List.mem_cons_self ..);omega),zAk (fun b hb=>p1 b hb) ⟨p2,fun b hb=>h2.ok b (List.mem_cons_of_mem _ hb)⟩ fun b hb=>h3 b (List.mem_cons_of_mem _ hb)];rfl
structure Good(d:List St):Prop where
 ne:d≠[]
 few:d.length≤20000
 asc:∀s∈d,Asc s.2 256
 to_:∀s∈d,∀a∈s.2,0≤a.2.2∧a.2.2<(d.length:Int)
theorem ze1(d:List St):zb2 d=0↔Good d:=by
 unfold zb2;constructor
 ·intro h
  split at h
  ·cases h
  split at h
  ·cases h
  split at h
  ·rename_i h1 h2 h3
   rw[List.all_eq_true]at h3;exact⟨h1,by omega,fun s hs=>(zy1 (h3 s hs) (by omega)).2.1,fun s hs=>(zy1 (h3 s hs) (by omega)).2.2⟩
  ·cases h
 ·intro h
  rw[if_neg h.ne,if_neg (by have:=h.few;omega),if_pos];rw[List.all_eq_true];intro s hs
  exact zAk (fun a ha=>by have:=(h.asc s hs).ok a ha;omega) (h.asc s hs) (h.to_ s hs)
theorem Good.within{d:List St}(h:Good d):zq5 (auOf d) d.length:=by
 intro x hx c y hy
 obtain⟨s,hs⟩:∃s,d[x]? =some s:=⟨d[x],List.getElem?_eq_getElem _⟩;have hy:(d[x]?).bind (fun s=>(lookA s.2 c).map Int.toNat)=some y:=hy;rw[hs]at hy;simp only[Option.bind_some]at hy;obtain⟨k,hk,rfl⟩:=Option.map_eq_some_iff.1 hy;unfold lookA at hk;obtain⟨a,ha,rfl⟩:=Option.map_eq_some_iff.1 hk;have:=h.to_ s (List.mem_of_getElem? hs) a (List.mem_of_find?_eq_some ha);omega
theorem zBk{d:List St}(h:Good d){x:Nat}(hx:x<d.length)(c:Nat):(zmj d x c= -1∧(auOf d).step x c=none)∨∃y:Nat,zmj d x c=(y:Int)∧(auOf d).step x c=some y∧y<d.length:=by
 obtain⟨s,hs⟩:∃s,d[x]? =some s:=⟨d[x],List.getElem?_eq_getElem _⟩;have e1:zmj d x c=(lookA s.2 c).getD (-1):=by
  unfold zmj;rw[if_neg (by omega),Int.toNat_natCast,hs]
 have e2:(auOf d).step x c=(lookA s.2 c).map Int.toNat:=by
  show(d[x]?).bind (fun s=>(lookA s.2 c).map Int.toNat)=_;rw[hs];rfl
 rw[e1,e2];cases hl:lookA s.2 c with
 |none=>exact .inl ⟨rfl,rfl⟩
 |
  some k=>
  have hk:0≤k∧k<(d.length:Int):=by
   unfold lookA at hl;obtain⟨a,ha,rfl⟩:=Option.map_eq_some_iff.1 hl;exact h.to_ s (List.mem_of_getElem? hs) a (List.mem_of_find?_eq_some ha)
  exact .inr ⟨k.toNat,by show k=_;omega,rfl,by omega⟩
theorem byte_at(t:List UInt8)(i:Nat)(h:i<(⟨t.toArray⟩:ByteArray).size):((((⟨t.toArray⟩:ByteArray)[i]'h).toNat:Nat):Int)=(((t.getD i 0).toNat:Nat):Int):=by
 have h':i<t.length:=by
  have:(⟨t.toArray⟩:ByteArray).size=t.length:=by show t.toArray.size=_;simp
  rwa[this]at h
 rw[List.getD_eq_getElem?_getD,List.getElem?_eq_getElem h'];rfl
def zaf(t:List UInt8):List Nat:=t.map fun b=>b.toNat
def zee(d:List St)(t:List UInt8):Bool:=decide (zb2 d=0)&&(auOf d).acc 0 (zaf t)
end
section
open Go.RowKit
open F (Ent Nd gath gath_s Fine byteAt append_lt)
def runY(k:List Ent→Bool):List Ent→List Ent→List Ent×Bool
 |h,[]=>(h,true)
 |h,e::r=>if k (h++[e])then runY k (h++[e]) r else(h++[e],false)
theorem ztc(k:List Ent→Bool):∀(a b h:List Ent),runY k h (a++b)=if(runY k h a).2 then runY k (runY k h a).1 b else runY k h a
 |[],b,h=>rfl
 |
  e::r,b,h=>by
  have e1:runY k h (e::r)=if k (h++[e])then runY k (h++[e]) r else(h++[e],false):=rfl
  have e2:runY k h (e::r++b)=if k (h++[e])then runY k (h++[e]) (r++b)else(h++[e],false):=rfl
  rw[e1,e2];by_cases hk:k (h++[e])=true
  ·rw[if_pos hk,if_pos hk,ztc k r b]
  ·rw[if_neg hk,if_neg hk];rfl
def frE(ds:List Nd)(s:List UInt8):Nat→Nat→List UInt8→Int→Bool→List Ent
 |0,_,_,_,_=>[]
 |f+1,i,t,z,tight=>match ds[i]? with
  |some d=>(if d.fin&&(!tight||decide (s.length≤t.length))then[(t,IntKind.i64.wrap (z+d.out))]else[])++d.ways.flatMap fun x=>if(tight&&decide (t.length<s.length))&&decide (x.1<byteAt s t.length)then[]else frE ds s f x.2.2.toNat (t++[UInt8.ofNat x.1.toNat]) (IntKind.i64.wrap (z+x.2.1)) ((tight&&decide (t.length<s.length))&&decide (x.1=byteAt s t.length))
  |none=>[]
theorem zIf{ds:List Nd}{i:Nat}{d:Nd}(h:ds[i]? =some d)(s:List UInt8)(f:Nat)(t:List UInt8)(z:Int)(tight:Bool):frE ds s (f+1) i t z tight=(if d.fin&&(!tight||decide (s.length≤t.length))then[(t,IntKind.i64.wrap (z+d.out))]else[])++d.ways.flatMap fun x=>if(tight&&decide (t.length<s.length))&&decide (x.1<byteAt s t.length)then[]else frE ds s f x.2.2.toNat (t++[UInt8.ofNat x.1.toNat]) (IntKind.i64.wrap (z+x.2.1)) ((tight&&decide (t.length<s.length))&&decide (x.1=byteAt s t.length)):=by
 rw[frE,h]
theorem zij{α β:Type}{f g:α→List β}{l:List α}(h:∀x∈l,f x=g x):l.flatMap f=l.flatMap g:=by
 induction l with
 |nil=>rfl
 |cons x r ih=>rw[List.flatMap_cons,List.flatMap_cons,h x (List.mem_cons_self ..),ih fun y hy=>h y (List.mem_cons_of_mem _ hy)]
theorem zp5(ds:List Nd)(s:List UInt8):∀(f i:Nat) (t:List UInt8) (z:Int),frE ds s f i t z false=gath ds f i t z
 |0,_,_,_=>rfl
 |
  f+1,i,t,z=>by
  cases hd:ds[i]? with
  |none=>rw[frE,gath,hd]
  |
   some d=>
   rw[zIf hd,gath_s hd];simp only[Bool.not_false,Bool.true_or,Bool.and_true,Bool.false_and,Bool.false_eq_true,if_false];congr 1
   exact zij fun x _=>zp5 ds s f _ _ _
theorem zl3(ds:List Nd):∀(f i:Nat) (t:List UInt8) (z:Int),∀e∈gath ds f i t z,∃u,e.1=t++u
 |0,_,_,_,e,h=>by cases h
 |
  f+1,i,t,z,e,h=>by
  cases hd:ds[i]? with
  |none=>rw[gath,hd]at h;cases h
  |
   some d=>
   rw[gath_s hd,List.mem_append]at h;rcases h with h|h
   ·split at h
    ·rw[List.mem_singleton]at h;exact⟨[],by rw[h,List.append_nil]⟩
    ·cases h
   ·obtain⟨x,_,hx⟩:=List.mem_flatMap.1 h;obtain⟨u,hu⟩:=zl3 ds f _ _ _ e hx;exact⟨UInt8.ofNat x.1.toNat::u,by rw[hu,List.append_assoc];rfl⟩
theorem zy3(t u:List UInt8):¬(t++u<t):=by
 have:=append_lt t u [];rw[List.append_nil]at this;rw[this];exact List.not_lt_nil u
theorem zpb{α β:Type}(p:β→Bool)(f:α→List β)(l:List α):(l.flatMap f).filter p=l.flatMap fun x=>(f x).filter p:=by
 induction l with
 |nil=>rfl
 |cons x r ih=>rw[List.flatMap_cons,List.flatMap_cons,List.filter_append,ih]
theorem zL8{x:Int}(h0:0≤x)(h1:x≤255)(b:UInt8):(UInt8.ofNat x.toNat<b↔x<(b.toNat:Int))∧(UInt8.ofNat x.toNat=b↔x=(b.toNat:Int))∧(b<UInt8.ofNat x.toNat↔(b.toNat:Int)<x):=by
 have e:(UInt8.ofNat x.toNat).toNat=x.toNat:=by
  rw[UInt8.toNat_ofNat'];exact Nat.mod_eq_of_lt (by omega)
 rw[UInt8.lt_iff_toNat_lt,UInt8.lt_iff_toNat_lt,e];refine⟨by omega,⟨fun h=>?_,fun h=>?_⟩,by omega⟩
 ·rw[←h,e];omega
 ·apply UInt8.toNat_inj.1
  rw[e];omega
theorem zw9{ds:List Nd}(hf:Fine ds)(s:List UInt8):∀(f i:Nat) (t:List UInt8) (z:Int) (u:List UInt8),s=t++u→frE ds s f i t z true=(gath ds f i t z).filter fun e=> !decide (e.1<s)
 |0,_,_,_,_,_=>rfl
 |
  f+1,i,t,z,u,hs=>by
  cases hd:ds[i]? with
  |none=>rw[frE,gath,hd];rfl
  |
   some d=>
   rw[zIf hd,gath_s hd,List.filter_append,zpb];cases u with
   |
    nil=>
    rw[List.append_nil]at hs;subst hs;have e1:decide (s.length≤s.length)=true:=decide_eq_true (Nat.le_refl _);have e2:decide (s.length<s.length)=false:=decide_eq_false (Nat.lt_irrefl _);simp only[e1,e2,Bool.not_true,Bool.or_true,Bool.and_true,Bool.and_false,Bool.false_and,Bool.false_eq_true,if_false];congr 1
    ·split
     ·rw[List.filter_cons_of_pos (by simp)];rfl
     ·rfl
    ·refine zij fun x _=>?_
     rw[zp5];symm
     refine List.filter_eq_self.2 fun e he=>?_
     obtain⟨v,hv⟩:=zl3 ds f _ _ _ e he;rw[hv,List.append_assoc];simpa using zy3 s _
   |
    cons b u=>
    have hlt:t.length<s.length:=by rw[hs,List.length_append,List.length_cons];omega
    have e1:decide (s.length≤t.length)=false:=decide_eq_false (by omega);have e2:decide (t.length<s.length)=true:=decide_eq_true hlt;have e3:byteAt s t.length=(b.toNat:Int):=by
     unfold byteAt;rw[hs,List.getD_eq_getElem?_getD,List.getElem?_append_right (Nat.le_refl _),Nat.sub_self];rfl
    simp only[e1,e2,e3,Bool.not_true,Bool.or_false,Bool.and_false,Bool.true_and,Bool.false_eq_true,if_false];congr 1
    ·split
     ·rw[List.filter_cons_of_neg]
      ·rfl
      ·have:=append_lt t [] (b::u);rw[List.append_nil]at this;rw[hs];simpa using this.2 (List.nil_lt_cons _ _)
     ·rfl
    ·refine zij fun x hx=>?_
     have hw:=((hf i d hd).2 x hx).1;obtain⟨c1,c2,c3⟩:=zL8 hw.1 hw.2 b;rcases Int.lt_trichotomy x.1 (b.toNat:Int)with h|h|h
     ·rw[if_pos (by simpa using h)];symm
      refine List.filter_eq_nil_iff.2 fun e he=>?_
      obtain⟨v,hv⟩:=zl3 ds f _ _ _ e he;have h2:e.1<s:=by
       rw[hv,hs,List.append_assoc,append_lt];exact List.cons_lt_cons_iff.2 (.inl (c1.2 h))
      simpa using h2
     ·rw[if_neg (by simp;omega),decide_eq_true h];have hb:=c2.2 h;refine zw9 hf s f _ _ _ u ?_;rw[hs,hb,List.append_assoc];rfl
     ·rw[if_neg (by simp;omega),decide_eq_false (by omega),zp5];symm
      refine List.filter_eq_self.2 fun e he=>?_
      obtain⟨v,hv⟩:=zl3 ds f _ _ _ e he;have hn:¬(UInt8.ofNat x.1.toNat::v<b::u):=by
       rw[List.cons_lt_cons_iff];rintro(h1|⟨h1,_⟩)
       ·have:=c1.1 h1;omega
       ·have:=c2.1 h1;omega
      have h2:¬e.1<s:=by
       rw[hv,hs,List.append_assoc,append_lt];exact hn
      simpa using h2
def runM(most:Nat):List Ent→List Ent→List Ent×Bool
 |h,[]=>(h,false)
 |h,e::r=>if h.length=most then(h,true)else runM most (h++[e]) r
theorem z00(most:Nat):∀(a b h:List Ent),runM most h (a++b)=if(runM most h a).2 then runM most h a else runM most (runM most h a).1 b
 |[],b,h=>rfl
 |
  e::r,b,h=>by
  have e1:runM most h (e::r)=if h.length=most then(h,true)else runM most (h++[e]) r:=rfl
  have e2:runM most h (e::r++b)=if h.length=most then(h,true)else runM most (h++[e]) (r++b):=rfl
  rw[e1,e2];by_cases hk:h.length=most
  ·rw[if_pos hk,if_pos hk];rfl
  ·rw[if_neg hk,if_neg hk,z00 most r b]
theorem zv9(most:Nat):∀(l h:List Ent),h.length≤most→runM most h l=((h++l).take most,decide (most<(h++l).length))
 |
  [],h,hl=>by
  unfold runM;rw[List.append_nil,List.take_of_length_le hl,decide_eq_false (by omega)]
 |
  e::r,h,hl=>by
  unfold runM;by_cases hk:h.length=most
  ·rw[if_pos hk,List.take_append_of_le_length (by omega),List.take_of_length_le (by omega),decide_eq_true (by rw[List.length_append,List.length_cons];omega)]
  ·rw[if_neg hk,zv9 most r (h++[e]) (by rw[List.length_append];simp;omega),List.append_assoc];rfl
def mtE(ds:List Nd)(M:Au Nat)(dead:Nat→Bool):Nat→Nat→List UInt8→Int→Nat→List Ent
 |0,_,_,_,_=>[]
 |f+1,i,t,z,q=>if dead q then[]else match ds[i]? with
  |some d=>(if d.fin&&M.fin q then[(t,IntKind.i64.wrap (z+d.out))]else[])++d.ways.flatMap fun x=>match M.step q x.1.toNat with
   |some q'=>mtE ds M dead f x.2.2.toNat (t++[UInt8.ofNat x.1.toNat]) (IntKind.i64.wrap (z+x.2.1)) q'
   |none=>[]
  |none=>[]
theorem zKc{ds:List Nd}{i:Nat}{d:Nd}(h:ds[i]? =some d)(M:Au Nat)(dead:Nat→Bool)(f:Nat)(t:List UInt8)(z:Int)(q:Nat)(hq:dead q=false):mtE ds M dead (f+1) i t z q=(if d.fin&&M.fin q then[(t,IntKind.i64.wrap (z+d.out))]else[])++d.ways.flatMap fun x=>match M.step q x.1.toNat with
   |some q'=>mtE ds M dead f x.2.2.toNat (t++[UInt8.ofNat x.1.toNat]) (IntKind.i64.wrap (z+x.2.1)) q'
   |none=>[]:=by
 rw[mtE,h,if_neg (by simp[hq])]
theorem z0i(ds:List Nd)(M:Au Nat){dead:Nat→Bool}(f i:Nat)(t:List UInt8)(z:Int){q:Nat}(hq:dead q=true):mtE ds M dead f i t z q=[]:=by
 cases f with
 |zero=>rfl
 |succ f=>rw[mtE,if_pos hq]
theorem z0h{ds:List Nd}(hf:Fine ds)(M:Au Nat){dead:Nat→Bool}(hdead:∀q,dead q=true→∀s,M.acc q s=false):∀(f i:Nat) (t:List UInt8) (z:Int) (q:Nat),mtE ds M dead f i t z q=(gath ds f i t z).filter fun e=>M.acc q (zaf (e.1.drop t.length))
 |0,_,_,_,_=>rfl
 |
  f+1,i,t,z,q=>by
  cases hq:dead q with
  |
   true=>
   rw[z0i ds M _ _ _ _ hq];symm
   exact List.filter_eq_nil_iff.2 fun e _=>by rw[hdead q hq];simp
  |
   false=>
   cases hd:ds[i]? with
   |none=>rw[mtE,gath,hd,if_neg (by simp[hq])];rfl
   |
    some d=>
    rw[zKc hd _ _ _ _ _ _ hq,gath_s hd,List.filter_append,zpb];congr 1
    ·cases d.fin with
     |false=>rfl
     |
      true=>
      rw[Bool.true_and,if_pos rfl,List.filter_cons,List.drop_length];rfl
    ·refine zij fun x hx=>?_
     have hw:=((hf i d hd).2 x hx).1;have e:(UInt8.ofNat x.1.toNat).toNat=x.1.toNat:=by
      rw[UInt8.toNat_ofNat'];exact Nat.mod_eq_of_lt (by omega)
     have hdr:∀e'∈gath ds f x.2.2.toNat (t++[UInt8.ofNat x.1.toNat]) (IntKind.i64.wrap (z+x.2.1)),M.acc q (zaf (e'.1.drop t.length))=match M.step q x.1.toNat with
      |some q'=>M.acc q' (zaf (e'.1.drop (t++[UInt8.ofNat x.1.toNat]).length))
      |none=>false:=by
      intro e' he'
      obtain⟨v,hv⟩:=zl3 ds f _ _ _ e' he';rw[hv,List.drop_left,List.append_assoc,List.drop_left];show M.acc q ((UInt8.ofNat x.1.toNat).toNat::zaf v)=_;rw[Au.acc,e,if_pos (by omega)];cases M.step q x.1.toNat<;>rfl
     cases hst:M.step q x.1.toNat with
     |
      none=>
      symm
      refine List.filter_eq_nil_iff.2 fun e' he'=>?_
      rw[hdr e' he',hst];simp
     |
      some q'=>
      show mtE ds M dead f _ _ _ q'=_;rw[z0h hf M hdead f _ _ _ q'];refine List.filter_congr fun e' he'=>?_
      rw[hdr e' he',hst]
end
section
open Go.RowKit
structure But(S:Nat→Prop)(w w':World):Prop where
 os:w'.os=w.os
 tape:w'.tape=w.tape
 output:w'.output=w.output
 size:w.heap.size≤w'.heap.size
 block:∀k,k<w.heap.size→¬S k→w'.heap[k]? =w.heap[k]?
theorem But.refl(S:Nat→Prop)(w:World):But S w w:=⟨rfl,rfl,rfl,Nat.le_refl _,fun _ _ _=>rfl⟩
theorem But.of{S:Nat→Prop}{w w':World}(h:Below w.heap.size w w'):But S w w':=⟨h.os,h.tape,h.output,h.size,fun k hk _=>h.block k hk⟩
theorem But.trans{S S':Nat→Prop}{a b c:World}(h:But S a b)(k:But S' b c)(hS:∀i,S' i→S i∨a.heap.size≤i):But S a c:=
 ⟨k.os.trans h.os,k.tape.trans h.tape,k.output.trans h.output,Nat.le_trans h.size k.size,fun i hi hn=>(k.block i (Nat.lt_of_lt_of_le hi h.size) fun hs=>(hS i hs).elim hn (by omega)).trans (h.block i hi hn)⟩
theorem But.below{S:Nat→Prop}{N:Nat}{w w':World}(h:But S w w')(hN:N≤w.heap.size)(hS:∀i,S i→N≤i):Below N w w':=
 ⟨h.os,h.tape,h.output,h.size,fun i hi=>h.block i (by omega) fun hs=>by have:=hS i hs;omega⟩
theorem But.at_{S:Nat→Prop}{w w':World}(h:But S w w'){k:Nat}{o:Obj}(hk:w.heap[k]? =some o)(hn:¬S k):w'.heap[k]? =some o:=
 (h.block k (Array.getElem?_eq_some_iff.1 hk).1 hn).trans hk
end
section
open Go.RowKit Go.Maps
open F (Ent Nd Nh gath gath_s Fine byteAt DictAt waysC wayC)
theorem zt0{W:World}{base m c:Nat}{A:Option Addr}{ws:List (Int×Int×Int)}(h:W.ownsRow base 107 3 (.slice A m c) m (waysC ws))(hm:0<m):∃g,A=some ⟨g,0,none⟩∧base≤g∧g<W.heap.size∧∀k y,ws[k]? =some y→
  W.cell? ⟨g,k*3,none⟩=some (.int .i64 y.1)∧W.cell? ⟨g,k*3+1,none⟩=some (.int .i64 y.2.1)∧W.cell? ⟨g,k*3+2,none⟩=some (.int .i64 y.2.2):=by
 obtain⟨g,rfl,hb,hg⟩:=zah h hm;refine⟨g,rfl,hb,hg,fun k y hy=>?_⟩;have hc:∀j u,(wayC y)[j]? =some u→j<3→W.cell? ⟨g,k*3+j,none⟩=some u:=by
  intro j u hu hj
  have:=h.cells (g:=g) rfl (k*3+j) u (by unfold F.waysC;rw[zc7 wayC 3 (fun _=>rfl) _ k j y hy hj];exact hu);rwa[Addr.add_lit,Nat.zero_add]at this
 exact⟨hc 0 _ rfl (by omega),hc 1 _ rfl (by omega),hc 2 _ rfl (by omega)⟩
structure Yield(N:Nat)(fn:FuncId)(P1 P2:Addr)(k:List Ent→Bool)(I:List Ent→World→(Nat→Prop)→Prop):Prop where
 low:∀h W S,I h W S→∀b,S b→N≤b∧b<W.heap.size
 keep:∀h W W' S,I h W S→Below W.heap.size W W'→I h W' S
 call:∀h W S (e:Ent),I h W S→h.length<1048576→Calls Tryz.prog fn #[.agg #[.string ⟨e.1.toArray⟩,.int .i64 e.2],.pointer (some P1),.pointer (some P2)] W fun r W'=>r=.returned (.bool (k (h++[e])))∧∃S',I (h++[e]) W' S'∧But S W W'∧∀b,S' b→S b∨W.heap.size≤b
def Handed(k:List Ent→Bool)(I:List Ent→World→(Nat→Prop)→Prop)(W:World)(S:Nat→Prop)(R:List Ent×Bool):Ending→World→Prop:=fun r W'=>r=.returned (.bool R.2)∧∃S',I R.1 W' S'∧But S W W'∧∀b,S' b→S b∨W.heap.size≤b
theorem zzk(k:List Ent→Bool):∀(l h:List Ent),(runY k h l).1.length≤(h++l).length
 |[],h=>by rw[List.append_nil];exact Nat.le_refl _
 |
  e::r,h=>by
  have e1:runY k h (e::r)=if k (h++[e])then runY k (h++[e]) r else(h++[e],false):=rfl
  rw[e1];split
  ·have:=zzk k r (h++[e]);rw[List.append_assoc]at this;exact this
  ·simp
def frW(ds:List Nd)(s:List UInt8)(f:Nat)(t:List UInt8)(z:Int)(still:Bool)(ws:List (Int×Int×Int)):List Ent:=ws.flatMap fun x=>if still&&decide (x.1<byteAt s t.length)then[]else frE ds s f x.2.2.toNat (t++[UInt8.ofNat x.1.toNat]) (IntKind.i64.wrap (z+x.2.1)) (still&&decide (x.1=byteAt s t.length))
theorem zDc{ds:List Nd}{s:List UInt8}{f:Nat}{t:List UInt8}{z:Int}{still:Bool}{ws:List (Int×Int×Int)}{j:Nat}{y:Int×Int×Int}(hy:ws[j]? =some y):frW ds s f t z still (ws.take (j+1))=frW ds s f t z still (ws.take j)++(if still&&decide (y.1<byteAt s t.length)then[]else frE ds s f y.2.2.toNat (t++[UInt8.ofNat y.1.toNat]) (IntKind.i64.wrap (z+y.2.1)) (still&&decide (y.1=byteAt s t.length))):=by
 unfold frW;rw[List.take_add_one,hy,List.flatMap_append];simp
end
section
def zmc:Code→List Code
 | .loop c=>c::zmc c
 | .seq a b=>zmc a++zmc b
 | .block _ c=>zmc c
 | .scope c=>zmc c
 | .cond _ a b=>zmc a++zmc b
 |_=>[]
noncomputable def zoc(f:Func)(k:Nat):Code:=((zmc (f.body.getD .skip))[k]?).getD .skip
def regC(k:Nat):Code→Option Code
 | .region i o d=>if i==k then some (.region i o d)else none
 | .seq a b=>match regC k a with
  |some c=>some c
  |none=>regC k b
 | .cond _ a b=>match regC k a with
  |some c=>some c
  |none=>regC k b
 | .block _ c=>regC k c
 | .loop c=>regC k c
 | .scope c=>regC k c
 |_=>none
noncomputable def zHc(f:Func)(k:Nat):Code:=(f.body.bind (regC k)).getD .skip
end
end Go.Proofs.YtaociahafamncaaGreatDoor
