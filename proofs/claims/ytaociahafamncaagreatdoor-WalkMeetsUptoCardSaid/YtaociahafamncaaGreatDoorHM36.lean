/- Folded. -/
import Derived.Test.YtaociahafamncaaGreatDoorHM35
set_option maxRecDepth 100000
set_option maxHeartbeats 40000000
set_option linter.unusedVariables false
namespace Go.Proofs.YtaociahafamncaaGreatDoor
section
open Go.RowKit
open Sp
def zL6(w:World)(q:List Int)(star:Bool):Ending→World→Prop:=fun e w'=>∃(A:Option Addr) (c:Nat) (hs:List Sh),e=.returned (.slice A hs.length c)∧StsIn w' w'.heap.size A hs.length c hs∧zFb q star (hs.map (·.d))∧Below w.heap.size w w'
theorem zH3{W:World}{base:Nat}{v:Value}{hs:List Sh}(h:OwnSts W base v hs)(hl:hs.length≤20000)(hg:Good (hs.map (·.d))):∃A c,v=.slice A hs.length c∧StsIn W W.heap.size A hs.length c hs:=by
 obtain⟨A,c,rfl,_⟩:=za1 h.out;refine⟨A,c,rfl,h.sts rfl (by omega) fun x hx=>?_⟩;have h1:=hg.asc x.d (List.mem_map_of_mem hx);have:=asc_few h1;omega
theorem zD4(w:World)(B:Nat)(hB:B≤w.heap.size)(A:Option Addr)(n cp:Nat)(q:List Int)(star:Bool)(hs:Sl w B 1 A n ((q++if star then[42]else[]).map (.int .i64)))(h42:∀c∈q,c≠42)(hq:q.length≤17)(K:Nat)(hK:∀k c,k≠K→q[k]? =some c→c≠63)(ht:Tab w):
  Calls Tryz.prog 46 #[.slice A n cp] w (zL6 w q star):=by
 have HS:=Lib.hid hs;have HT:=Lib.hid ht;have H42:=Lib.hid h42;have HK:=Lib.hid hK;have hnq:n=endN (zdf q) star:=by
  have h1:=hs.1;rw[List.length_map,List.length_append]at h1;unfold endN;rw[zdj];cases star
  ·simp at h1⊢;omega
  ·simp at h1⊢;omega
 have hn18:n≤18:=by
  rw[hnq];unfold endN;rw[zdj];split<;>omega
 have HNQ:=Lib.hid hnq;obtain⟨Q,hQ⟩:∃Q,q.length=Q:=⟨_,rfl⟩;have HQ:=Lib.hid hQ;rw[hQ]at hq;have HQN:Hid ((star=false∧n=Q)∨(star=true∧n=Q+1)):=by
  have:=hnq;unfold endN at this;rw[zdj,hQ]at this;cases star
  ·exact .inl ⟨rfl,this⟩
  ·exact .inr ⟨rfl,this⟩
 have hmk:=fun W=>z45 n (by omega) W
 obtain⟨m1,m2,m3⟩:=z47 w n (by omega);rw[World.setCell_alloc_new]at m1;have HM:=Lib.hid m1;clear hs ht h42 hK hnq hQ m1;go_enter Tryz.func46,Tryz.ntmps46
 go_wp2_with fail;have HL0:Hid ((List.replicate n zq2++[endH]).map (·.d)=stg q star 0):=by show _=_;rw[zEk,zBh,HNQ.out]
 have HB0:=Lib.hid (za0 w);clear m2 m3 hmk;generalize w.alloc (.cells ((madeCells zmi ((n+1)*3)).setIfInBounds (n*3) (.bool true)) 134)=W0 at*;go_loopw [3,19] (fun nv iv wr=>∃(j:Nat) (w0:World) (go m cp2:Nat) (hs:List Lsh),j≤n∧nv=.slice (some ⟨go,0,none⟩) m cp2∧iv=.int .i64 (j:Int)∧Hid (Below w.heap.size w w0)∧Hid (LoR w0 wr (.slice (some ⟨go,0,none⟩) m cp2) m hs)∧Hid (hs.map (·.d)=stg q star j)) (fun _ iv _=>n-(intOf iv).toNat)
 case atStart=>exact⟨0,w,w.heap.size,n+1,n+1,_,Nat.zero_le _,rfl,rfl,HB0,HM,HL0⟩
 case round=>
  clear HM HL0 HB0;obtain⟨j,w0,go,m,cp2,hs,hj,rfl,rfl,HW0,HR,HL⟩:=hrel;have HB:=Lib.hid (za9 HW0.out HR.out.bel);by_cases hjn:j<n
  ·have hqd:decide (j<n)=true:=decide_eq_true hjn;obtain⟨b0,off,rfl,hb0,hcl⟩:=(HS.out.below (HB.out.mono hB)).at_ hjn;have hbw:b0<wr.heap.size:=Nat.lt_of_lt_of_le hb0 (Nat.le_trans hB HB.out.size);have hml:=HR.out.len;by_cases hjq:j<Q
   ·obtain⟨c,hc⟩:∃c,q[j]? =some c:=⟨q[j]'(by rw[HQ.out];exact hjq),List.getElem?_eq_getElem _⟩;have r0:=hcl j (.int .i64 c) (by rw[List.getElem?_map,List.getElem?_append_left (by rw[HQ.out];exact hjq),hc];rfl);have hc42:(c==42)=false:=by rw[beq_eq_false_iff_ne];exact H42.out c (List.mem_of_getElem? hc)
    have hlen:=z6c (q:=q) (star:=star) (j:=j) (by rw[HQ.out];omega);rw[←HL.out,List.length_map,hml,←HNQ.out]at hlen;have hmb:m≤1100:=by omega
    have hjm:j<m:=by omega
    have hjm1:j+1<m:=by omega
    have hfew:=zt4 (q:=q) (star:=star) (j:=j) (by rw[HQ.out];omega);have HFW:Hid (∀x∈hs,x.d.arcs.length≤1400∧x.d.free.length≤0):=fun x hx=>by
     have h1:=hfew x.d (by rw[←HL.out];exact List.mem_map_of_mem hx);rw[HQ.out]at h1;omega
    have HIN:Hid (LoIn wr wr.heap.size (some ⟨go,0,none⟩) m cp2 hs):=HR.out.lo (by omega) (fun y hy=>by have:=(HFW.out y hy).1;omega) (fun y hy=>by have:=(HFW.out y hy).2;omega);have HSN:Hid (stg q star (j+1)=za6 (stg q star j) j (j+1) (allP (zcf c).1 (zcf c).2)):=zBi hc;have e1:((j:Int)+1)=((j+1:Nat):Int):=by omega
    have HLD:=fun lo hi=>lead_any wr wr.heap.size (Nat.le_refl _) (some ⟨go,0,none⟩) m cp2 hs HIN.out (by omega) (fun y hy=>by have:=HFW.out y hy;omega) j (j+1) hjm hjm1 lo hi
    clear hcl hc hfew hlen;by_cases h63:c=63
    ·have HLD2:=Lib.hid (HLD 0 1114111);have er:zcf c=(0,1114111):=if_pos h63;rw[er]at HSN;have h63b:(c==63)=true:=by rw[beq_iff_eq];exact h63
     rw[←e1]at HLD2;clear HLD h63 er e1;go_wp2_with fail;refine HLD2.out.mono ?_;rintro e w3 ⟨go3,m3,cp3,hs3,rfl,hlo3,hle3,_,_,_⟩;have HLO3:=Lib.hid hlo3;have HL3:Hid (hs3.map (·.d)=stg q star (j+1)):=by show _=_;rw[hle3,HL.out,HSN.out]
     clear HLD2 hlo3 hle3 HL HR HSN HIN HFW;go_wp2_with fail;go_roundw;case rel=>exact⟨j+1,wr,go3,m3,cp3,hs3,by omega,rfl,by go_num,HB,HLO3,HL3⟩
     case measure=>simp[intOf];omega
    ·have HLD2:=Lib.hid (HLD c c);have er:zcf c=(c,c):=if_neg h63;rw[er]at HSN;have h63b:(c==63)=false:=by rw[beq_eq_false_iff_ne];exact h63
     rw[←e1]at HLD2;clear HLD h63 er e1;go_wp2_with fail;refine HLD2.out.mono ?_;rintro e w3 ⟨go3,m3,cp3,hs3,rfl,hlo3,hle3,_,_,_⟩;have HLO3:=Lib.hid hlo3;have HL3:Hid (hs3.map (·.d)=stg q star (j+1)):=by show _=_;rw[hle3,HL.out,HSN.out]
     clear HLD2 hlo3 hle3 HL HR HSN HIN HFW;go_wp2_with fail;go_roundw;case rel=>exact⟨j+1,wr,go3,m3,cp3,hs3,by omega,rfl,by go_num,HB,HLO3,HL3⟩
     case measure=>simp[intOf];omega
   ·obtain⟨rfl,rfl⟩:star=true∧n=j+1:=by
     rcases HQN.out with⟨_,h⟩|⟨h1,h2⟩
     ·omega
     ·exact⟨h1,by omega⟩
    obtain rfl:j=Q:=by rcases HQN.out with⟨h,_⟩|⟨_,h2⟩;cases h;omega
    have r0:=hcl j (.int .i64 42) (by rw[List.getElem?_map,List.getElem?_append_right (by rw[HQ.out];exact Nat.le_refl _),HQ.out,Nat.sub_self];rfl);have hlen:=z6c (q:=q) (star:=true) (j:=j) (by rw[HQ.out];exact Nat.le_refl _);rw[←HL.out,List.length_map,hml,←HNQ.out]at hlen;have hjm:j<m:=by omega
    obtain⟨x,hx⟩:∃x,hs[j]? =some x:=⟨hs[j]'(by omega),List.getElem?_eq_getElem _⟩;have hfew:=zt4 (q:=q) (star:=true) (j:=j) (by rw[HQ.out];exact Nat.le_refl _) x.d (by rw[←HL.out];exact List.mem_map_of_mem (List.mem_of_getElem? hx));rw[HQ.out]at hfew;obtain⟨na,hna⟩:∃k,x.d.arcs.length=k:=⟨_,rfl⟩;obtain⟨nf,hnf⟩:∃k,x.d.free.length=k:=⟨_,rfl⟩;obtain⟨_,_,k2⟩:=zu5 HR.out.out hx;have HXF:Hid (wr.ownsRow w0.heap.size 3 1 (.slice x.F nf x.e) nf (x.d.free.map (.int .i64))):=by
     have:=HR.out.fr.own x.frow (List.mem_map.2 ⟨x,List.mem_of_getElem? hx,rfl⟩);have h2:wr.ownsRow w0.heap.size 3 1 (.slice x.F x.d.free.length x.e) x.d.free.length (x.d.free.map (.int .i64)):=this;rwa[hnf]at h2
    have HFW:Hid (∀(A9:Option Addr) (c9:Nat) (w9:World),wr.grownBy w9 (Value.slice x.F nf x.e).ownBlock→w9.ownsRow w0.heap.size 3 1 (.slice A9 (nf+1) c9) (nf+1) (x.d.free.map (.int .i64)++[.int .i64 ((j:Int)+1)])→((Value.slice A9 (nf+1) c9).ownBlock=(Value.slice x.F nf x.e).ownBlock∨∃g,(Value.slice A9 (nf+1) c9).ownBlock=some g∧wr.heap.size≤g)→
      LoR w0 (w9.setCell ⟨go,j*3+2,none⟩ (.slice A9 (nf+1) c9)) (.slice (some ⟨go,0,none⟩) m cp2) m (hs.set j ⟨⟨x.d.fin,x.d.arcs,x.d.free++[(j:Int)+1]⟩,x.A,x.c,A9,c9⟩)∧
      w9.cell? ⟨go,j*3+2,none⟩=some (.slice x.F nf x.e)∧w9.frozen? ⟨go,j*3+2,none⟩=false∧go<w9.heap.size∧w9.cell? ⟨go,j*3+1,none⟩=some (.slice x.A na x.c)):=fun A9 c9 w9 g1 g2 g3=>by
     have:=HR.out.fway (x:=x) (z:=(j:Int)+1) (A2:=A9) (c2:=c9) (W':=w9) hx (by rw[hnf];exact g1) (by rw[hnf];exact g2) (by rw[hnf];exact g3);rw[hnf,hna]at this;exact this
    have HBL:=Lib.hid HR.out.bel;have hS:=HBL.out.size;rw[hnf]at k2;rw[hna,hnf]at hfew;have hgo:=(zb3 HR.out.out).2.1;have HX:=Lib.hid hx;have HNA:=Lib.hid hna;have HNF:=Lib.hid hnf;have hnf0:nf≤0:=hfew.2;have hna0:na≤80*j:=hfew.1;clear hcl hx hna hnf hfew hlen;have HXS:Hid (∀(A2 A3:Option Addr) (c2 c3:Nat),((hs.set j ⟨⟨x.d.fin,x.d.arcs,x.d.free++[((j:Int)+1)]⟩,x.A,x.c,A2,c2⟩).set j ⟨⟨x.d.fin,x.d.arcs++[(0,255,(j:Int))],x.d.free++[((j:Int)+1)]⟩,A3,c3,A2,c2⟩).map (·.d)=zha (hs.map (·.d)) j):=fun A2 A3 c2 c3=>zC0 HX.out
    have hqd2:decide ((j:Int)<(j:Int)+1)=true:=decide_eq_true (by omega);go_wp2_with (first
     |(
       have hw2:=HR9.out;clear hw2;at_builtin
       refine zb8 w0 _ _ rfl _ _ _ rfl zhi _ _ _ rfl HXA9.out (m:=1) rfl (by simp) rfl (by simp[Value.oneCell']) (by unfold maxLen;omega) (by omega) hS9 HBL9.out ?_;intro v10 w10 hown10 _ hg10 hor10
       obtain⟨A10,c10,rfl,_⟩:=za1 hown10;obtain⟨hr10,k10,f10,gw10,_⟩:=HAR9.out A10 c10 w10 hg10 hown10 hor10;have HR10:=Lib.hid hr10;clear hown10 hg10 hor10 hr10 HAR9 HXA9 HBL9 hS9 HR9)
     |(
       at_builtin
       refine zb8 w0 wr _ rfl _ _ _ rfl zf3 _ _ _ rfl HXF.out (m:=1) rfl rfl rfl (by simp[Value.oneCell']) (by unfold maxLen;omega) (by omega) hS HBL.out ?_;intro v9 w9 hown9 _ hg9 hor9
       obtain⟨A9,c9,rfl,_⟩:=za1 hown9;obtain⟨hr9,k9,f9,gw9,k8⟩:=HFW.out A9 c9 w9 hg9 hown9 hor9;have HX9:Hid ((hs.set j (⟨⟨x.d.fin,x.d.arcs,x.d.free++[(j:Int)+1]⟩,x.A,x.c,A9,c9⟩:Lsh))[j]? =some ⟨⟨x.d.fin,x.d.arcs,x.d.free++[(j:Int)+1]⟩,x.A,x.c,A9,c9⟩):=List.getElem?_set_self (by omega);have HXA9:Hid ((w9.setCell ⟨go,j*3+2,none⟩ (.slice A9 (nf+1) c9)).ownsRow w0.heap.size 76 3 (.slice x.A na x.c) na (zaa x.d.arcs)):=by
        have h1:=hr9.ar.own (⟨⟨x.d.fin,x.d.arcs,x.d.free++[(j:Int)+1]⟩,x.A,x.c,A9,c9⟩:Lsh).arow (List.mem_map.2 ⟨_,List.mem_of_getElem? HX9.out,rfl⟩);have h2:(w9.setCell ⟨go,j*3+2,none⟩ (.slice A9 (nf+1) c9)).ownsRow w0.heap.size 76 3 (.slice x.A x.d.arcs.length x.c) x.d.arcs.length (zaa x.d.arcs):=h1;rwa[HNA.out]at h2
       have HAR9:Hid (∀(A10:Option Addr) (c10:Nat) (w10:World),(w9.setCell ⟨go,j*3+2,none⟩ (.slice A9 (nf+1) c9)).grownBy w10 (Value.slice x.A na x.c).ownBlock→w10.ownsRow w0.heap.size 76 3 (.slice A10 (na+1) c10) (na+1) (zaa x.d.arcs++arcC (0,255,(j:Int)))→((Value.slice A10 (na+1) c10).ownBlock=(Value.slice x.A na x.c).ownBlock∨∃g,(Value.slice A10 (na+1) c10).ownBlock=some g∧(w9.setCell ⟨go,j*3+2,none⟩ (.slice A9 (nf+1) c9)).heap.size≤g)→
         LoR w0 (w10.setCell ⟨go,j*3+1,none⟩ (.slice A10 (na+1) c10)) (.slice (some ⟨go,0,none⟩) m cp2) m ((hs.set j ⟨⟨x.d.fin,x.d.arcs,x.d.free++[(j:Int)+1]⟩,x.A,x.c,A9,c9⟩).set j ⟨⟨x.d.fin,x.d.arcs++[(0,255,(j:Int))],x.d.free++[(j:Int)+1]⟩,A10,c10,A9,c9⟩)∧
         w10.cell? ⟨go,j*3+1,none⟩=some (.slice x.A na x.c)∧w10.frozen? ⟨go,j*3+1,none⟩=false∧go<w10.heap.size∧True):=fun A10 c10 w10 g1 g2 g3=>by
        have:=hr9.arc (x:=⟨⟨x.d.fin,x.d.arcs,x.d.free++[(j:Int)+1]⟩,x.A,x.c,A9,c9⟩) (a:=(0,255,(j:Int))) (A2:=A10) (c2:=c10) (W':=w10) HX9.out (by show World.grownBy _ _ (Value.slice x.A x.d.arcs.length x.c).ownBlock;rw[HNA.out];exact g1) (by show World.ownsRow _ _ _ _ (.slice A10 (x.d.arcs.length+1) c10) (x.d.arcs.length+1) _;rw[HNA.out];exact g2) (by show(Value.slice A10 (x.d.arcs.length+1) c10).ownBlock=(Value.slice x.A x.d.arcs.length x.c).ownBlock∨_;rw[HNA.out];exact g3);obtain⟨p1,p2,p3,p4,_⟩:=this;have p1:LoR w0 (w10.setCell ⟨go,j*3+1,none⟩ (.slice A10 (x.d.arcs.length+1) c10)) (.slice (some ⟨go,0,none⟩) m cp2) m _:=p1;have p2:w10.cell? ⟨go,j*3+1,none⟩=some (.slice x.A x.d.arcs.length x.c):=p2;rw[HNA.out]at p1 p2;exact⟨p1,p2,p3,p4,trivial⟩
       have HBL9:=Lib.hid hr9.bel;have hS9:=HBL9.out.size;have HR9:=Lib.hid hr9;clear hown9 hg9 hor9 hr9 HX9))
    have HMP:=Lib.hid (HXS.out A9 A10 c9 c10);have HL3:Hid (((hs.set j ⟨⟨x.d.fin,x.d.arcs,x.d.free++[(j:Int)+1]⟩,x.A,x.c,A9,c9⟩).set j ⟨⟨x.d.fin,x.d.arcs++[(0,255,(j:Int))],x.d.free++[(j:Int)+1]⟩,A10,c10,A9,c9⟩).map (·.d)=stg q true (j+1)):=by
     have h1:=zzd (q:=q);rw[HQ.out]at h1;show _=_;rw[h1,←HL.out];exact HMP.out
    clear HMP HXS;go_roundw;case rel=>exact⟨_,_,_,.int .i64 ((j:Int)+1),⟨j+1,Nat.le_refl _,w0,go,m,cp2,rfl,by go_num,HW0,_,HR10,HL3⟩,rfl,rfl,rfl,rfl⟩
    case measure=>first|(simp[intOf];done)|(simp[intOf];omega)
  ·obtain rfl:j=n:=by omega
   have hqd:decide (j<j)=false:=decide_eq_false hjn;have HWL:Hid (hs.map (·.d)=zdh (zdf q) star):=by
    show _=_;rw[HL.out];rcases HQN.out with⟨h1,h2⟩|⟨h1,h2⟩
    ·rw[h2,←HQ.out,zBj h1]
    ·rw[h2,←HQ.out,h1];unfold stg;rw[if_neg (by omega)]
   have hml:=HR.out.len;have hwl:=zB7 (rss:=zdf q) (star:=star) (zie q);rw[←HWL.out,List.length_map,hml,zdj,HQ.out]at hwl;have HGD:Hid (LGood (hs.map (·.d))):=by rw[HWL.out];exact z5i star (zie q)
   have HNF:Hid (∀f:Nat,¬((20000:Int)<(((subW (hs.map (·.d))).run f 0 [setL m (Clo (hs.map (·.d)) fun x=>x=0)]).length:Nat))):=fun f=>by
    have h1:=zB8 (star:=star) (zie q) (z77 HK.out) f;rw[←HWL.out,List.length_map,hml,zdj,HQ.out]at h1;omega
   have HIN:Hid (LoIn wr wr.heap.size (some ⟨go,0,none⟩) m cp2 hs):=by
    have hb:∀x∈hs,x.d.arcs.length≤2000∧x.d.free.length≤1:=fun x hx=>by
     have h0:x.d∈stg q star j:=by rw[←HL.out];exact List.mem_map_of_mem hx
     rcases HQN.out with⟨h1,h2⟩|⟨h1,h2⟩
     ·have h3:=zt4 (q:=q) (star:=star) (j:=j) (by rw[HQ.out];omega) x.d h0;rw[HQ.out]at h3;omega
     ·subst h1 h2;have h3:=zzd (q:=q);rw[HQ.out]at h3;rw[h3]at h0;have h4:=zt4 (q:=q) (star:=true) (j:=Q) (by rw[HQ.out];exact Nat.le_refl _);rw[HQ.out]at h4;obtain⟨i,hi⟩:=List.mem_iff_getElem?.1 h0;by_cases e:Q=i
      ·subst e;have hi2:=(List.getElem?_eq_some_iff.1 hi).1;rw[zk1]at hi2;rw[zk2 (List.getElem?_eq_getElem hi2)]at hi;injection hi with hi
       have h5:=h4 _ (List.getElem_mem hi2);rw[←hi];show(_++[_]).length≤_∧(_++[_]).length≤_;rw[List.length_append,List.length_append,List.length_singleton,List.length_singleton];omega
      ·rw[zk0 e]at hi;have h5:=h4 _ (List.mem_of_getElem? hi);omega
    exact HR.out.lo (by omega) (fun y hy=>by have:=(hb y hy).1;omega) (fun y hy=>by have:=(hb y hy).2;omega)
   have hm2:m≤2000:=by omega
   have HTG:=Lib.hid (z65 wr wr.heap.size (Nat.le_refl _) (some ⟨go,0,none⟩) m cp2 hs HIN.out (by omega) HGD.out 20000 (by omega) (HT.out.below HB.out));clear HIN HR HL hwl;go_wp2_with fail;refine HTG.out.mono ?_;rintro e w7 (⟨⟨f',hf'⟩,_,_⟩|⟨_,v7,X,dd,rfl,hown7,hl7,hq7,hle7,hd7,hb7⟩)
   ·exact absurd hf' (by have:=HNF.out f';omega)
   ·have hxl:X.length≤20000:=by omega
    have hxl2:(X.map (·.d)).length≤20000:=by rw[List.length_map];exact hxl
    have hxg:=hl7.good hxl2;have HXT:Hid (∀t:List UInt8,zee (X.map (·.d)) t=zg9 (zdh (zdf q) star) t):=fun t=>by
     rw[←HWL.out];exact zxd (l:=hs.map (·.d)) hl7 (by rw[List.length_map,hml];exact hq7) hxl2 t
    obtain⟨Ax,cx,rfl,hx7⟩:=zH3 hown7 hxl hxg;have HPOST:Hid (zL6 w q star (.returned (.slice Ax X.length cx)) w7):=⟨Ax,cx,X,rfl,hx7,⟨hxl2,hxg,HXT.out⟩,za9 HB.out hb7⟩;clear hown7 hl7 hq7 hle7 hd7 hxl hxl2 hxg hx7 hb7 HTG HNF HGD HWL HXT;go_wp2_with fail;go_ret;exact HPOST.out
end
section
open Go.RowKit
open Sp
def letP(c:Int):Prop:=(97≤c∧c≤122)∨(65≤c∧c≤90)∨(48≤c∧c≤57)∨(192≤c∧c≤214)∨(216≤c∧c≤246)∨(248≤c∧c≤591)∨(880≤c∧c≤893)∨(895≤c∧c≤1153)∨(1155≤c∧c≤1327)∨(19968≤c∧c≤40959)
instance (c:Int):Decidable (letP c):=by unfold letP;infer_instance
def letB(c:Int):Bool:=decide (letP c)
theorem z8k(c:Int):(c<48∧letB c=false)∨(48≤c∧c≤57∧letB c=true)∨(57<c∧c<65∧letB c=false)∨(65≤c∧c≤90∧letB c=true)∨(90<c∧c<97∧letB c=false)∨(97≤c∧c≤122∧letB c=true)∨(122<c∧c<192∧letB c=false)∨(192≤c∧c≤214∧letB c=true)∨(c=215∧letB c=false)∨(215<c∧c≤246∧letB c=true)∨(c=247∧letB c=false)∨(247<c∧c≤591∧letB c=true)∨(591<c∧c<880∧letB c=false)∨(880≤c∧c≤893∧letB c=true)∨(c=894∧letB c=false)∨(894<c∧c≤1153∧letB c=true)∨(c=1154∧letB c=false)∨(1154<c∧c≤1327∧letB c=true)∨(1327<c∧c<19968∧letB c=false)∨(19968≤c∧c≤40959∧letB c=true)∨(40959<c∧letB c=false):=by
 by_cases h0:c<48
 ·exact .inl ⟨by omega,decide_eq_false (by unfold letP;omega)⟩
 by_cases h1:c≤57
 ·exact .inr (.inl ⟨by omega,by omega,decide_eq_true (by unfold letP;omega)⟩)
 by_cases h2:c<65
 ·exact .inr (.inr (.inl ⟨by omega,by omega,decide_eq_false (by unfold letP;omega)⟩))
 by_cases h3:c≤90
 ·exact .inr (.inr (.inr (.inl ⟨by omega,by omega,decide_eq_true (by unfold letP;omega)⟩)))
 by_cases h4:c<97
 ·exact .inr (.inr (.inr (.inr (.inl ⟨by omega,by omega,decide_eq_false (by unfold letP;omega)⟩))))
 by_cases h5:c≤122
 ·exact .inr (.inr (.inr (.inr (.inr (.inl ⟨by omega,by omega,decide_eq_true (by unfold letP;omega)⟩)))))
 by_cases h6:c<192
 ·exact .inr (.inr (.inr (.inr (.inr (.inr (.inl ⟨by omega,by omega,decide_eq_false (by unfold letP;omega)⟩))))))
 by_cases h7:c≤214
 ·exact .inr (.inr (.inr (.inr (.inr (.inr (.inr (.inl ⟨by omega,by omega,decide_eq_true (by unfold letP;omega)⟩)))))))
 by_cases h8:c=215
 ·exact .inr (.inr (.inr (.inr (.inr (.inr (.inr (.inr (.inl ⟨by omega,decide_eq_false (by unfold letP;omega)⟩))))))))
 by_cases h9:c≤246
 ·exact .inr (.inr (.inr (.inr (.inr (.inr (.inr (.inr (.inr (.inl ⟨by omega,by omega,decide_eq_true (by unfold letP;omega)⟩)))))))))
 by_cases h10:c=247
 ·exact .inr (.inr (.inr (.inr (.inr (.inr (.inr (.inr (.inr (.inr (.inl ⟨by omega,decide_eq_false (by unfold letP;omega)⟩))))))))))
 by_cases h11:c≤591
 ·exact .inr (.inr (.inr (.inr (.inr (.inr (.inr (.inr (.inr (.inr (.inr (.inl ⟨by omega,by omega,decide_eq_true (by unfold letP;omega)⟩)))))))))))
 by_cases h12:c<880
 ·exact .inr (.inr (.inr (.inr (.inr (.inr (.inr (.inr (.inr (.inr (.inr (.inr (.inl ⟨by omega,by omega,decide_eq_false (by unfold letP;omega)⟩))))))))))))
 by_cases h13:c≤893
 ·exact .inr (.inr (.inr (.inr (.inr (.inr (.inr (.inr (.inr (.inr (.inr (.inr (.inr (.inl ⟨by omega,by omega,decide_eq_true (by unfold letP;omega)⟩)))))))))))))
 by_cases h14:c=894
 ·exact .inr (.inr (.inr (.inr (.inr (.inr (.inr (.inr (.inr (.inr (.inr (.inr (.inr (.inr (.inl ⟨by omega,decide_eq_false (by unfold letP;omega)⟩))))))))))))))
 by_cases h15:c≤1153
 ·exact .inr (.inr (.inr (.inr (.inr (.inr (.inr (.inr (.inr (.inr (.inr (.inr (.inr (.inr (.inr (.inl ⟨by omega,by omega,decide_eq_true (by unfold letP;omega)⟩)))))))))))))))
 by_cases h16:c=1154
 ·exact .inr (.inr (.inr (.inr (.inr (.inr (.inr (.inr (.inr (.inr (.inr (.inr (.inr (.inr (.inr (.inr (.inl ⟨by omega,decide_eq_false (by unfold letP;omega)⟩))))))))))))))))
 by_cases h17:c≤1327
 ·exact .inr (.inr (.inr (.inr (.inr (.inr (.inr (.inr (.inr (.inr (.inr (.inr (.inr (.inr (.inr (.inr (.inr (.inl ⟨by omega,by omega,decide_eq_true (by unfold letP;omega)⟩)))))))))))))))))
 by_cases h18:c<19968
 ·exact .inr (.inr (.inr (.inr (.inr (.inr (.inr (.inr (.inr (.inr (.inr (.inr (.inr (.inr (.inr (.inr (.inr (.inr (.inl ⟨by omega,by omega,decide_eq_false (by unfold letP;omega)⟩))))))))))))))))))
 by_cases h19:c≤40959
 ·exact .inr (.inr (.inr (.inr (.inr (.inr (.inr (.inr (.inr (.inr (.inr (.inr (.inr (.inr (.inr (.inr (.inr (.inr (.inr (.inl ⟨by omega,by omega,decide_eq_true (by unfold letP;omega)⟩)))))))))))))))))))
 exact .inr (.inr (.inr (.inr (.inr (.inr (.inr (.inr (.inr (.inr (.inr (.inr (.inr (.inr (.inr (.inr (.inr (.inr (.inr (.inr (⟨by omega,decide_eq_false (by unfold letP;omega)⟩))))))))))))))))))))
theorem z48(c:Int)(w:World):Calls Tryz.prog 62 #[.int .i64 c] w fun e w'=>e=.returned (.bool (letB c))∧w=w':=by
 rcases z8k c with⟨h1,h⟩|⟨h1,h2,h⟩|⟨h1,h2,h⟩|⟨h1,h2,h⟩|⟨h1,h2,h⟩|⟨h1,h2,h⟩|⟨h1,h2,h⟩|⟨h1,h2,h⟩|⟨h1,h⟩|⟨h1,h2,h⟩|⟨h1,h⟩|⟨h1,h2,h⟩|⟨h1,h2,h⟩|⟨h1,h2,h⟩|⟨h1,h⟩|⟨h1,h2,h⟩|⟨h1,h⟩|⟨h1,h2,h⟩|⟨h1,h2,h⟩|⟨h1,h2,h⟩|⟨h1,h⟩
 all_goals
  rw[h];clear h;try subst h1
  first|have p1:decide (c≥97)=true:=decide_eq_true (by omega)|have p1:decide (c≥97)=false:=decide_eq_false (by omega)|skip
  first|have p2:decide (c≤122)=true:=decide_eq_true (by omega)|have p2:decide (c≤122)=false:=decide_eq_false (by omega)|skip
  first|have p3:decide (c≥65)=true:=decide_eq_true (by omega)|have p3:decide (c≥65)=false:=decide_eq_false (by omega)|skip
  first|have p4:decide (c≤90)=true:=decide_eq_true (by omega)|have p4:decide (c≤90)=false:=decide_eq_false (by omega)|skip
  first|have p5:decide (c≥48)=true:=decide_eq_true (by omega)|have p5:decide (c≥48)=false:=decide_eq_false (by omega)|skip
  first|have p6:decide (c≤57)=true:=decide_eq_true (by omega)|have p6:decide (c≤57)=false:=decide_eq_false (by omega)|skip
  first|have p7:decide (c≥192)=true:=decide_eq_true (by omega)|have p7:decide (c≥192)=false:=decide_eq_false (by omega)|skip
  first|have p8:decide (c≤591)=true:=decide_eq_true (by omega)|have p8:decide (c≤591)=false:=decide_eq_false (by omega)|skip
  first|have p9:decide (c≥880)=true:=decide_eq_true (by omega)|have p9:decide (c≥880)=false:=decide_eq_false (by omega)|skip
  first|have p10:decide (c≤1327)=true:=decide_eq_true (by omega)|have p10:decide (c≤1327)=false:=decide_eq_false (by omega)|skip
  first|have p11:decide (c≥19968)=true:=decide_eq_true (by omega)|have p11:decide (c≥19968)=false:=decide_eq_false (by omega)|skip
  first|have p12:decide (c≤40959)=true:=decide_eq_true (by omega)|have p12:decide (c≤40959)=false:=decide_eq_false (by omega)|skip
  first|have p13:(c==215)=false:=by(rw[beq_eq_false_iff_ne];omega)|skip
  first|have p14:(c==247)=false:=by(rw[beq_eq_false_iff_ne];omega)|skip
  first|have p15:(c==894)=false:=by(rw[beq_eq_false_iff_ne];omega)|skip
  first|have p16:(c==1154)=false:=by(rw[beq_eq_false_iff_ne];omega)|skip
  go_enter Tryz.func62,Tryz.ntmps62
  go_wp2_with fail;go_ret;exact⟨rfl,rfl⟩
def zc6(c:Int):Int:=if(65≤c∧c≤90)∨(192≤c∧c≤214)∨(216≤c∧c≤222)∨(913≤c∧c≤929)∨(931≤c∧c≤937)∨(1040≤c∧c≤1071)then c+32 else if 1024≤c∧c≤1039 then c+80 else if c=962 then 963 else c
theorem z4f(c:Int):(c<65∧zc6 c=c)∨(65≤c∧c≤90∧zc6 c=c+32)∨(90<c∧c<192∧zc6 c=c)∨(192≤c∧c≤214∧zc6 c=c+32)∨(c=215∧zc6 c=c)∨(215<c∧c≤222∧zc6 c=c+32)∨(222<c∧c<913∧zc6 c=c)∨(913≤c∧c≤929∧zc6 c=c+32)∨(c=930∧zc6 c=c)∨(930<c∧c≤937∧zc6 c=c+32)∨(937<c∧c<962∧zc6 c=c)∨(c=962∧zc6 c=963)∨(962<c∧c<1024∧zc6 c=c)∨(1024≤c∧c≤1039∧zc6 c=c+80)∨(1039<c∧c≤1071∧zc6 c=c+32)∨(1071<c∧zc6 c=c):=by
 by_cases h0:c<65
 ·exact .inl ⟨by omega,(if_neg (by omega)).trans ((if_neg (by omega)).trans (if_neg (by omega)))⟩
 by_cases h1:c≤90
 ·exact .inr (.inl ⟨by omega,by omega,if_pos (by omega)⟩)
 by_cases h2:c<192
 ·exact .inr (.inr (.inl ⟨by omega,by omega,(if_neg (by omega)).trans ((if_neg (by omega)).trans (if_neg (by omega)))⟩))
 by_cases h3:c≤214
 ·exact .inr (.inr (.inr (.inl ⟨by omega,by omega,if_pos (by omega)⟩)))
 by_cases h4:c=215
 ·exact .inr (.inr (.inr (.inr (.inl ⟨by omega,(if_neg (by omega)).trans ((if_neg (by omega)).trans (if_neg (by omega)))⟩))))
 by_cases h5:c≤222
 ·exact .inr (.inr (.inr (.inr (.inr (.inl ⟨by omega,by omega,if_pos (by omega)⟩)))))
 by_cases h6:c<913
 ·exact .inr (.inr (.inr (.inr (.inr (.inr (.inl ⟨by omega,by omega,(if_neg (by omega)).trans ((if_neg (by omega)).trans (if_neg (by omega)))⟩))))))
 by_cases h7:c≤929
 ·exact .inr (.inr (.inr (.inr (.inr (.inr (.inr (.inl ⟨by omega,by omega,if_pos (by omega)⟩)))))))
 by_cases h8:c=930
 ·exact .inr (.inr (.inr (.inr (.inr (.inr (.inr (.inr (.inl ⟨by omega,(if_neg (by omega)).trans ((if_neg (by omega)).trans (if_neg (by omega)))⟩))))))))
 by_cases h9:c≤937
 ·exact .inr (.inr (.inr (.inr (.inr (.inr (.inr (.inr (.inr (.inl ⟨by omega,by omega,if_pos (by omega)⟩)))))))))
 by_cases h10:c<962
 ·exact .inr (.inr (.inr (.inr (.inr (.inr (.inr (.inr (.inr (.inr (.inl ⟨by omega,by omega,(if_neg (by omega)).trans ((if_neg (by omega)).trans (if_neg (by omega)))⟩))))))))))
 by_cases h11:c=962
 ·exact .inr (.inr (.inr (.inr (.inr (.inr (.inr (.inr (.inr (.inr (.inr (.inl ⟨by omega,(if_neg (by omega)).trans ((if_neg (by omega)).trans (if_pos (by omega)))⟩)))))))))))
 by_cases h12:c<1024
 ·exact .inr (.inr (.inr (.inr (.inr (.inr (.inr (.inr (.inr (.inr (.inr (.inr (.inl ⟨by omega,by omega,(if_neg (by omega)).trans ((if_neg (by omega)).trans (if_neg (by omega)))⟩))))))))))))
 by_cases h13:c≤1039
 ·exact .inr (.inr (.inr (.inr (.inr (.inr (.inr (.inr (.inr (.inr (.inr (.inr (.inr (.inl ⟨by omega,by omega,(if_neg (by omega)).trans (if_pos (by omega))⟩)))))))))))))
 by_cases h14:c≤1071
 ·exact .inr (.inr (.inr (.inr (.inr (.inr (.inr (.inr (.inr (.inr (.inr (.inr (.inr (.inr (.inl ⟨by omega,by omega,if_pos (by omega)⟩))))))))))))))
 exact .inr (.inr (.inr (.inr (.inr (.inr (.inr (.inr (.inr (.inr (.inr (.inr (.inr (.inr (.inr (⟨by omega,(if_neg (by omega)).trans ((if_neg (by omega)).trans (if_neg (by omega)))⟩)))))))))))))))
theorem zDf(c:Int)(w:World):Calls Tryz.prog 75 #[.int .i64 c] w fun e w'=>e=.returned (.int .i64 (zc6 c))∧w=w':=by
 rcases z4f c with⟨h1,h⟩|⟨h1,h2,h⟩|⟨h1,h2,h⟩|⟨h1,h2,h⟩|⟨h1,h⟩|⟨h1,h2,h⟩|⟨h1,h2,h⟩|⟨h1,h2,h⟩|⟨h1,h⟩|⟨h1,h2,h⟩|⟨h1,h2,h⟩|⟨h1,h⟩|⟨h1,h2,h⟩|⟨h1,h2,h⟩|⟨h1,h2,h⟩|⟨h1,h⟩
 all_goals
  rw[h];clear h;try subst h1
  first|have p1:decide (c≥65)=true:=decide_eq_true (by omega)|have p1:decide (c≥65)=false:=decide_eq_false (by omega)|skip
  first|have p2:decide (c≤90)=true:=decide_eq_true (by omega)|have p2:decide (c≤90)=false:=decide_eq_false (by omega)|skip
  first|have p3:decide (c≥192)=true:=decide_eq_true (by omega)|have p3:decide (c≥192)=false:=decide_eq_false (by omega)|skip
  first|have p4:decide (c≤222)=true:=decide_eq_true (by omega)|have p4:decide (c≤222)=false:=decide_eq_false (by omega)|skip
  first|have p5:decide (c≥913)=true:=decide_eq_true (by omega)|have p5:decide (c≥913)=false:=decide_eq_false (by omega)|skip
  first|have p6:decide (c≤937)=true:=decide_eq_true (by omega)|have p6:decide (c≤937)=false:=decide_eq_false (by omega)|skip
  first|have p7:decide (c≥1040)=true:=decide_eq_true (by omega)|have p7:decide (c≥1040)=false:=decide_eq_false (by omega)|skip
  first|have p8:decide (c≤1071)=true:=decide_eq_true (by omega)|have p8:decide (c≤1071)=false:=decide_eq_false (by omega)|skip
  first|have p9:decide (c≥1024)=true:=decide_eq_true (by omega)|have p9:decide (c≥1024)=false:=decide_eq_false (by omega)|skip
  first|have p10:decide (c≤1039)=true:=decide_eq_true (by omega)|have p10:decide (c≤1039)=false:=decide_eq_false (by omega)|skip
  first|have p11:(c==962)=false:=by(rw[beq_eq_false_iff_ne];omega)|skip
  first|have n1:(c !=215)=true:=by(rw[bne_iff_ne];omega)|skip
  first|have n2:(c !=930)=true:=by(rw[bne_iff_ne];omega)|skip
  go_enter Tryz.func75,Tryz.ntmps75
  go_wp2_with fail;go_ret;exact⟨rfl,rfl⟩
end
section
open Go.RowKit
open Sp
theorem ze5:∀b:Fin 256,bits .and .u8 ((b.val:Nat):Int) 192=((b.val/64*64:Nat):Int):=by decide+kernel
theorem zfk:∀b:Fin 256,bits .and .u8 ((b.val:Nat):Int) 63=((b.val%64:Nat):Int):=by decide+kernel
theorem z17:∀b:Fin 256,bits .and .i64 ((b.val:Nat):Int) 31=((b.val%32:Nat):Int):=by decide+kernel
theorem zoi:∀b:Fin 256,bits .and .i64 ((b.val:Nat):Int) 15=((b.val%16:Nat):Int):=by decide+kernel
theorem zkj:∀b:Fin 256,bits .and .i64 ((b.val:Nat):Int) 7=((b.val%8:Nat):Int):=by decide+kernel
theorem zd2(a:UInt8)(r:List UInt8)(h:0<(⟨(a::r).toArray⟩:ByteArray).size):(((⟨(a::r).toArray⟩:ByteArray)[0]'h).toNat:Int)=(a.toNat:Int):=rfl
theorem zei(a b:UInt8)(r:List UInt8)(h:1<(⟨(a::b::r).toArray⟩:ByteArray).size):(((⟨(a::b::r).toArray⟩:ByteArray)[1]'h).toNat:Int)=(b.toNat:Int):=rfl
theorem zh6(a b c:UInt8)(r:List UInt8)(h:2<(⟨(a::b::c::r).toArray⟩:ByteArray).size):(((⟨(a::b::c::r).toArray⟩:ByteArray)[2]'h).toNat:Int)=(c.toNat:Int):=rfl
theorem zsa(a b c d:UInt8)(r:List UInt8)(h:3<(⟨(a::b::c::d::r).toArray⟩:ByteArray).size):(((⟨(a::b::c::d::r).toArray⟩:ByteArray)[3]'h).toNat:Int)=(d.toNat:Int):=rfl
theorem zIh(w:World)(a:UInt8)(r:List UInt8)(A:Int)(ha:(a.toNat:Int)=A)(h1:A<128):
  Calls Tryz.prog 84 #[.string ⟨(a::r).toArray⟩] w fun e w'=>e=.returned (.tuple #[.int .i64 A,.int .i64 1])∧w'=w:=by
 have hz0:=zd2 a (r) (by show 0<(a::r).toArray.size;simp);have h0:0≤A:=by omega
 rw[ha]at hz0;clear ha;go_enter Tryz.func84,Tryz.ntmps84
 go_wp2_with fail;go_ret2;exact⟨by simp,rfl⟩
theorem z99(w:World)(a:UInt8)(r:List UInt8)(A:Int)(ha:(a.toNat:Int)=A)(h1:128≤A)(h2:A<192):
  Calls Tryz.prog 84 #[.string ⟨(a::r).toArray⟩] w fun e w'=>e=.returned (.tuple #[.int .i64 0,.int .i64 0])∧w'=w:=by
 have hz0:=zd2 a (r) (by show 0<(a::r).toArray.size;simp);rw[ha]at hz0;clear ha;go_enter Tryz.func84,Tryz.ntmps84
 go_wp2_with fail;go_ret2;exact⟨by simp,rfl⟩
theorem z9a(w:World)(a:UInt8)(r:List UInt8)(A:Int)(ha:(a.toNat:Int)=A)(h1:248≤A):
  Calls Tryz.prog 84 #[.string ⟨(a::r).toArray⟩] w fun e w'=>e=.returned (.tuple #[.int .i64 0,.int .i64 0])∧w'=w:=by
 have hz0:=zd2 a (r) (by show 0<(a::r).toArray.size;simp);have h255:A≤255:=by have:=a.toNat_lt;omega
 rw[ha]at hz0;clear ha;go_enter Tryz.func84,Tryz.ntmps84
 go_wp2_with fail;go_ret2;exact⟨by simp,rfl⟩
theorem zqh(w:World)(a:UInt8)(A:Int)(ha:(a.toNat:Int)=A)(h1:192≤A)(h2:A<224):
  Calls Tryz.prog 84 #[.string ⟨([a]).toArray⟩] w fun e w'=>e=.returned (.tuple #[.int .i64 0,.int .i64 0])∧w'=w:=by
 have hz0:=zd2 a [] (by show 0<([a]).toArray.size;simp);have k0:=z17 ⟨a.toNat,a.toNat_lt⟩;simp only at k0;rw[show((a.toNat%32:Nat):Int)=A-192 by omega,ha]at k0;obtain⟨C0,hC0⟩:∃z,A-192=z:=⟨_,rfl⟩;rw[hC0]at k0;rw[ha]at hz0;clear ha;go_enter Tryz.func84,Tryz.ntmps84
 go_wp2_with fail;go_ret2;exact⟨by simp,rfl⟩
theorem zwj(w:World)(a b:UInt8)(r:List UInt8)(A B:Int)(ha:(a.toNat:Int)=A)(hb:(b.toNat:Int)=B)(h1:192≤A)(h2:A<224)(gz:¬(128≤B∧B≤191)):
  Calls Tryz.prog 84 #[.string ⟨(a::b::r).toArray⟩] w fun e w'=>e=.returned (.tuple #[.int .i64 0,.int .i64 0])∧w'=w:=by
 have hz0:=zd2 a (b::r) (by show 0<(a::b::r).toArray.size;simp);have hz1:=zei a b (r) (by show 1<(a::b::r).toArray.size;simp);have k0:=z17 ⟨a.toNat,a.toNat_lt⟩;simp only at k0;rw[show((a.toNat%32:Nat):Int)=A-192 by omega,ha]at k0;obtain⟨C0,hC0⟩:∃z,A-192=z:=⟨_,rfl⟩;rw[hC0]at k0;have p0:=ze5 ⟨b.toNat,b.toNat_lt⟩;simp only at p0;rw[hb]at p0;obtain⟨Z,hZ⟩:∃z,((b.toNat/64*64:Nat):Int)=z:=⟨_,rfl⟩;rw[hZ]at p0;have hne:¬(Z=128):=by omega
 have hnb:(Z==128)=false:=by simp;exact hne
 rw[ha]at hz0;rw[hb]at hz1;clear ha hb;go_enter Tryz.func84,Tryz.ntmps84
 go_wp2_with fail;refine wp_loop_rounds 1 ?_;rw[rounds_succ];go_wp2_with fail;go_ret2;exact⟨by simp,rfl⟩
theorem zy9(w:World)(a b:UInt8)(r:List UInt8)(A B:Int)(ha:(a.toNat:Int)=A)(hb:(b.toNat:Int)=B)(h1:192≤A)(h2:A<224)(gb:128≤B∧B≤191)(V:Int)(hV:((A-192)*64+(B-128))=V)(hl:V<128):
  Calls Tryz.prog 84 #[.string ⟨(a::b::r).toArray⟩] w fun e w'=>e=.returned (.tuple #[.int .i64 0,.int .i64 0])∧w'=w:=by
 have hz0:=zd2 a (b::r) (by show 0<(a::b::r).toArray.size;simp);have hz1:=zei a b (r) (by show 1<(a::b::r).toArray.size;simp);have k0:=z17 ⟨a.toNat,a.toNat_lt⟩;simp only at k0;rw[show((a.toNat%32:Nat):Int)=A-192 by omega,ha]at k0;obtain⟨C0,hC0⟩:∃z,A-192=z:=⟨_,rfl⟩;rw[hC0]at k0;have p0:=ze5 ⟨b.toNat,b.toNat_lt⟩;have q0:=zfk ⟨b.toNat,b.toNat_lt⟩;simp only at p0 q0;rw[show((b.toNat/64*64:Nat):Int)=128 by omega,hb]at p0;rw[show((b.toNat%64:Nat):Int)=B-128 by omega,hb]at q0;obtain⟨C1,hC1⟩:∃z,C0*64+(B-128)=z:=⟨_,rfl⟩;have r0:bits .or .i64 (C0*64) (B-128)=C1:=by rw[zb4 6 _ _ (by omega) (by omega) (by omega) (by omega) (by omega) (by omega)];exact hC1
 have s0:IntKind.i64.wrap (C0*64)=C0*64:=by rw[IntKind.wrap_i64];omega
 have hv:C1=V:=by omega
 rw[hv]at r0;clear hv hC1;rw[ha]at hz0;rw[hb]at hz1;clear ha hb;go_enter Tryz.func84,Tryz.ntmps84
 go_wp2_with fail;refine wp_loop_rounds 2 ?_;rw[rounds_succ];go_wp2_with fail;rw[rounds_succ];go_wp2_with fail;go_ret2;exact⟨by simp,rfl⟩
theorem z4i(w:World)(a b:UInt8)(r:List UInt8)(A B:Int)(ha:(a.toNat:Int)=A)(hb:(b.toNat:Int)=B)(h1:192≤A)(h2:A<224)(gb:128≤B∧B≤191)(V:Int)(hV:((A-192)*64+(B-128))=V)(hl:128≤V)(hw:zb1 V=true):
  Calls Tryz.prog 84 #[.string ⟨(a::b::r).toArray⟩] w fun e w'=>e=.returned (.tuple #[.int .i64 V,.int .i64 2])∧w'=w:=by
 have hz0:=zd2 a (b::r) (by show 0<(a::b::r).toArray.size;simp);have hz1:=zei a b (r) (by show 1<(a::b::r).toArray.size;simp);have k0:=z17 ⟨a.toNat,a.toNat_lt⟩;simp only at k0;rw[show((a.toNat%32:Nat):Int)=A-192 by omega,ha]at k0;obtain⟨C0,hC0⟩:∃z,A-192=z:=⟨_,rfl⟩;rw[hC0]at k0;have p0:=ze5 ⟨b.toNat,b.toNat_lt⟩;have q0:=zfk ⟨b.toNat,b.toNat_lt⟩;simp only at p0 q0;rw[show((b.toNat/64*64:Nat):Int)=128 by omega,hb]at p0;rw[show((b.toNat%64:Nat):Int)=B-128 by omega,hb]at q0;obtain⟨C1,hC1⟩:∃z,C0*64+(B-128)=z:=⟨_,rfl⟩;have r0:bits .or .i64 (C0*64) (B-128)=C1:=by rw[zb4 6 _ _ (by omega) (by omega) (by omega) (by omega) (by omega) (by omega)];exact hC1
 have s0:IntKind.i64.wrap (C0*64)=C0*64:=by rw[IntKind.wrap_i64];omega
 have hv:C1=V:=by omega
 rw[hv]at r0;clear hv hC1;have HW:=Lib.hid (zg3 V);rw[hw]at HW;rw[ha]at hz0;rw[hb]at hz1;clear ha hb;go_enter Tryz.func84,Tryz.ntmps84
 go_wp2_with fail;refine wp_loop_rounds 2 ?_;rw[rounds_succ];go_wp2_with fail;rw[rounds_succ];go_wp2_with fail;refine(HW.out _).mono ?_;rintro e w1 ⟨rfl,rfl⟩;go_wp2_with fail;go_ret2;exact⟨by simp,rfl⟩
end
end Go.Proofs.YtaociahafamncaaGreatDoor
