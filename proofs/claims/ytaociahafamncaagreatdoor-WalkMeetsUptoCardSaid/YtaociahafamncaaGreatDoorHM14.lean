/- Folded. -/
import Derived.Test.YtaociahafamncaaGreatDoorHM13
import Derived.Test.YtaociahafamncaaGreatDoorHM12
import Derived.Test.YtaociahafamncaaGreatDoorCards
import Derived.Test.YtaociahafamncaaGreatDoorTie
import Derived.ProofKit
import Derived.ShutString
import Derived.ChangeOld
import Derived.Deep.DeepHandedRow
import Derived.Lib.LaidTab
set_option maxRecDepth 100000
set_option maxHeartbeats 40000000
namespace Go.Proofs.YtaociahafamncaaGreatDoor
namespace F
open Go.RowKit Go.Maps
theorem zf3:Elem Tryz.prog 71 3 1 8:=Elem.mk_ Tryz.underlying71 (z:=.int .i64 0) (by kernel_rfl) rfl (by omega)
theorem str_same(a b:ByteArray):(a.toList==b.toList)=decide (a=b):=by
 rw[ByteArray.toList_eq,ByteArray.toList_eq];by_cases h:a=b
 ·subst h;simp
 ·have:a.data.toList≠b.data.toList:=fun e=>h (ByteArray.ext (Array.toList_inj.1 e))
  rw[decide_eq_false h];exact beq_eq_false_iff_ne.2 this
theorem zJc{w W W':World}{b:Nat}(h:Below w.heap.size w W)(hg:W.grownBy W' (some b))(hb:w.heap.size≤b):Below w.heap.size w W':=
 h.grown hg h.size (fun k hk=>by injection hk with hk;omega)
theorem zJb{w W:World}(h:Below w.heap.size w W)(o:Obj):Below w.heap.size w (W.alloc o):=bnew h o
theorem open_any(w:World)(t:List UInt8)(ht:t.length≤1099511627776)(htab:Tab w):Calls Tryz.prog 21 #[.string ⟨t.toArray⟩] w (zFa w (zq8 t)):=by
 obtain⟨R,hR⟩:∃R,zq8 t=R:=⟨_,rfl⟩;rw[hR];have HR:=Lib.hid hR;have HT:=Lib.hid htab;have HC1:=Lib.hid (fun(W:World) (b:Nat) (u:List UInt8) (hc:zek W b u) (hu:u.length≤1125899906842624)=>count_any W b u hc hu);have HAT:=Lib.hid (zKk w t);clear hR htab;go_enter Tryz.func21,Tryz.ntmps21
 go_wp2_with fail;refine HAT.out.mono ?_;rintro e w1 ⟨rfl,hc1,hb1⟩;have HB1:=Lib.hid hb1;have HCU1:=Lib.hid hc1;obtain⟨b,hbN⟩:∃b,w.heap.size=b:=⟨_,rfl⟩;have hbb:w.heap.size≤b:=by omega
 rw[hbN]at HCU1⊢;have HBN:=Lib.hid hbN;clear hc1 hb1 HAT hbN;go_wp2_with fail;refine(HC1.out _ _ t HCU1.out (by omega)).mono ?_;rintro e w2 ⟨rfl,hc2,hg2⟩;have HB2:=Lib.hid (zJc HB1.out hg2 hbb);have HCU2:=Lib.hid hc2;have he2:=zcd t;have hl2:=zck t;clear hc2 hg2 HB1 HCU1;obtain⟨⟨v2,e2,t2⟩,hq2⟩:∃v,za3 t=v:=⟨_,rfl⟩;have HF2:=Lib.hid hq2;rw[hq2]at he2 hl2 HCU2⊢;simp only at he2 hl2 HCU2;clear hq2;by_cases hb2:e2=0
 ·subst hb2;have hp2:=he2 rfl;clear he2;go_wp2_with fail;refine(HC1.out _ _ t2 HCU2.out (by omega)).mono ?_;rintro e w3 ⟨rfl,hc3,hg3⟩;have HB3:=Lib.hid (zJc HB2.out hg3 hbb);have HCU3:=Lib.hid hc3;have he3:=zcd t2;have hl3:=zck t2;clear hc3 hg3 HB2 HCU2;obtain⟨⟨v3,e3,t3⟩,hq3⟩:∃v,za3 t2=v:=⟨_,rfl⟩;have HF3:=Lib.hid hq3;rw[hq3]at he3 hl3 HCU3⊢;simp only at he3 hl3 HCU3;clear hq3;by_cases hb3:e3=0
  ·subst hb3;have hp3:=he3 rfl;have HR3:Hid (zy0 t v2 v3 (zka v2.toNat [] [] [] t3)=R):=by
    show _=_;rw[←HR.out,zHi HF2.out HF3.out]
   obtain⟨C,rfl⟩:=Int.eq_ofNat_of_zero_le hp2.1;obtain⟨p,hpN⟩:∃p,w3.heap.size=p:=⟨_,rfl⟩;have HO3:=Lib.hid (OpAt.start w3 v3 HCU3.out hpN);have HB4:=Lib.hid (zJb HB3.out (.cells #[.slice none 0 0,.int .i64 v3,.int .i64 0] 95));have HPN:=Lib.hid hpN;have HP3:=Lib.hid hp3;rw[Int.toNat_natCast]at HR3;clear he3 HCU3 HB3 HR HF2 HF3 hp3 hpN;go_wp2_with fail;rw[HPN.out];generalize w3.alloc (.cells #[.slice none 0 0,.int .i64 v3,.int .i64 0] 95)=W0 at*;have hC63:(C:Int)≤9223372036854775807:=hp2.2;have HBP:Hid (w.heap.size≤p):=Nat.le_trans hbb (Nat.le_of_lt HO3.out.lb);have hpb:=HO3.out.lb;obtain⟨RA,hRA⟩:∃RA,zka C [] [] [] t3=RA:=⟨_,rfl⟩;rw[hRA]at HR3;have HRA:=Lib.hid hRA;have hl4:t3.length≤1099511627776:=by omega
   clear hRA hp2 hl2 hl3;go_loopw [9,10,11] (fun sv dv kv wr=>∃(i:Nat) (A:Option Addr) (c:Nat) (hs:List Nh) (As:Option Addr) (ks:Nat) (Ad:Option Addr) (kd:Nat) (sizes deep:List Int) (u:List UInt8),i≤C∧kv=.int .i64 i∧sv=.slice As i ks∧dv=.slice Ad i kd∧i+u.length≤1099511627776∧i≤ks∧
    Hid (OpAt wr b p (p+1) A i c v3 hs As i ks Ad i kd sizes deep u)∧Hid (RdInv (hs.map (·.d)) sizes deep)∧Hid (Below w.heap.size w wr)∧Hid (zka (C-i) (hs.map (·.d)) sizes deep u=RA)) (fun _ _ kv _=>C-(intOf kv).toNat)
   case atStart=>exact⟨0,none,0,[],none,0,none,0,[],[],t3,Nat.zero_le _,rfl,rfl,rfl,by omega,Nat.le_refl _,HO3,RdInv.nil,HB4,HRA⟩
   case round=>
    obtain⟨i,A,c,hs,As,ks,Ad,kd,sizes,deep,u,hiC,rfl,rfl,rfl,hiu,hik,HO,HI,HB,HQ⟩:=hrel;clear HO3 HB4 HRA;by_cases hlt:i<C
    ·have hlen:=HO.out.dict.len;have hml:(hs.map (·.d)).length=i:=by rw[List.length_map];exact hlen
     have HRD:=Lib.hid (zCc wr p b (p+1) i c A As Ad ks kd sizes deep u HO.out.rd (by omega) (by omega) HI.out.szb HI.out.dpb);obtain⟨⟨e5,d5,s5,h5,u5⟩,hr5⟩:∃r,zca i sizes deep u=r:=⟨_,rfl⟩;have HR5:Hid (zca (hs.map (·.d)).length sizes deep u=(e5,d5,s5,h5,u5)):=by rw[hml];exact hr5
     rw[hr5]at HRD;have q0:decide ((i:Int)<(C:Int))=true:=by simp;omega
     clear hr5 HC1;go_wp2_with fail;refine HRD.out.mono ?_;rintro e w5 ⟨hg5,hcase⟩;have HB5:=Lib.hid (zJc HB.out hg5 hbb);rcases hcase with⟨he5,A5,c5,rfl,hcu5,hrow5⟩|⟨he5,x5,y5,A5,m5,c5,rfl⟩
     ·simp only at he5 hcu5 hrow5;subst he5;have hin:=zva HI.out.szb HI.out.dpb HR5.out;have HI6:=Lib.hid (HI.out.snoc HR5.out);have HQ6:Hid (zka (C-(i+1)) (hs.map (·.d)++[d5]) (sizes++[s5]) (deep++[h5]) u5=RA):=by
       show _=_;rw[←HQ.out,show C-i=(C-(i+1))+1 by omega,z08 HR5.out]
      have hul:u5.length<u.length:=hin.2.2.2.2.2.2.2.2;obtain⟨m5,hm5⟩:∃m,d5.ways.length=m:=⟨_,rfl⟩;have hm6:m5≤256:=by have:=hin.2.2.1;omega
      have HM5:=Lib.hid hm5;have HO5:=Lib.hid (HO.out.read hg5 hcu5);have hpw:p+1≤wr.heap.size:=(Array.getElem?_eq_some_iff.1 HO.out.dict.blk).1;have hrow:=z0b hrow5 hpw;rw[hm5]at hrow⊢;have HRW:=Lib.hid (za2 hrow (bnew (za0 w5) (.cells #[.bool d5.fin,.int .i64 d5.out,.slice A5 m5 c5] 88)));have HO6:=Lib.hid (HO5.out.below (bnew (za0 w5) (.cells #[.bool d5.fin,.int .i64 d5.out,.slice A5 m5 c5] 88)));have HB6:=Lib.hid (zJb HB5.out (.cells #[.bool d5.fin,.int .i64 d5.out,.slice A5 m5 c5] 88));have HN6:Hid ((w5.alloc (.cells #[.bool d5.fin,.int .i64 d5.out,.slice A5 m5 c5] 88)).heap[w5.heap.size]? =some (.cells #[.bool d5.fin,.int .i64 d5.out,.slice A5 m5 c5] 88 (0,0))):=heap_alloc_new w5 _;clear hg5 hcu5 hrow5 HRD HO HI HB HQ HR5 hin hm5 hrow HO5 HB5 hml;obtain⟨fb,hfb⟩:∃x,d5.fin=x:=⟨_,rfl⟩;obtain⟨ob,hob⟩:∃x,d5.out=x:=⟨_,rfl⟩;rw[hfb,hob]at HRW HO6 HB6 HN6⊢;have HFO:=Lib.hid (And.intro hfb hob);clear hfb hob;go_wp2_with fail;generalize w5.alloc (.cells #[.bool fb,.int .i64 ob,.slice A5 m5 c5] 88)=W6 at*;generalize w5.heap.size=q6 at*;have k0:=cell_of_row _ q6 0 _ _ (0,0) HN6.out;have k1:=cell_of_row _ q6 1 _ _ (0,0) HN6.out;have k2:=cell_of_row _ q6 2 _ _ (0,0) HN6.out;have r0:=cell_of_row _ p 0 _ _ (0,0) HO6.out.dict.blk;simp at k0 k1 k2 r0
      have HNE:Hid (some p≠(Value.slice A i c).ownBlock):=fun e=>by
       have:=(HO6.out.dict.nod.lt _ e.symm).1;omega
      have hpW:p<W6.heap.size:=(Array.getElem?_eq_some_iff.1 HO6.out.dict.blk).1;have HK:Hid (W6.heap.size=W6.heap.size):=rfl;go_region_law (
       refine zc4 (base:=p+1) _ #[.bool fb,.int .i64 ob,.slice A5 m5 c5] ?gd (.tmp 61) (.tmp 63) 81 ?ho zyf (.slice A i c) i (hs.flatMap Nh.hdr) ?hs ?own (nb:=W6.heap.size) (m:=1) ?hx ?hxc ?hl ?h1 ?hm ?h63 ?hby ?hba ?_;case gd=>rfl
       case ho=>rfl
       case hs=>rfl
       case own=>exact za2 HO6.out.dict.nod (by repeat(first|exact za0 _|refine Below.drew ?_|refine bnew ?_ _))
       case hx=>rfl
       case hxc=>first|exact heap_alloc_new _ _|(simp;done)
       case hl=>rfl
       case h1=>simp[Value.oneCell']
       case hm=>omega
       case h63=>unfold maxLen;omega
       case hby=>omega
       case hba=>exact Nat.le_trans hpW (Below.size (B:=W6.heap.size) (by repeat(first|exact za0 _|refine Below.drew ?_|refine bnew ?_ _)))
       intro g cap w7 hown7 hg7 hgm
       have HG7:=Lib.hid (grown_through (a:=W6) (by repeat(first|exact za0 _|refine Below.drew ?_|refine bnew ?_ _)) hg7);have hb7:w7.heap[p]? =some (.cells #[.slice A i c,.int .i64 v3,.int .i64 0] 95 (0,0)):=(HG7.out.block p hpW HNE.out).trans HO6.out.dict.blk;have f0:=cell_of_row w7 p 0 _ _ (0,0) hb7;have fz:w7.frozen? ⟨p,0,none⟩=false:=by simp[World.frozen?,hb7]
       simp at f0
       clear hb7)
      all_goals
       have HO7:Hid (OpAt (w7.setCell ⟨p,0,none⟩ (.slice (some ⟨g,0,none⟩) (i+1) cap)) b p (p+1) (some ⟨g,0,none⟩) (i+1) cap v3 (hs++[⟨d5,A5,c5⟩]) As i ks Ad i kd sizes deep u5):=by
        refine HO6.out.node (d:=d5) (by rw[HM5.out];exact HRW.out) HG7.out ?_;rw[HFO.out.1,HFO.out.2,HM5.out];exact hown7
       have HB7:Hid (Below w.heap.size w (w7.setCell ⟨p,0,none⟩ (.slice (some ⟨g,0,none⟩) (i+1) cap))):=
        (HB6.out.grown HG7.out HB6.out.size (fun k hk=>by have:=(HO6.out.dict.nod.lt k hk).1;have:=HBP.out;omega)).setCell HBP.out _
       clear hown7 hg7 hgm HG7 f0 fz HNE HK k0 k1 k2 r0 HO6 HB6 HN6 HRW;generalize w7.setCell ⟨p,0,none⟩ (.slice (some ⟨g,0,none⟩) (i+1) cap)=W8 at*;have hp8:p+1≤W8.heap.size:=(Array.getElem?_eq_some_iff.1 HO7.out.dict.blk).1;go_wp2_with (first
        |(at_builtin;refine zab W8 _ _ rfl _ _ _ rfl zf3 _ _ _ rfl HO7.out.sz rfl (by simp) rfl (by simp[Value.oneCell']) (by unfold maxLen;omega) (by omega) (by omega) (Below.refl _ _) ?_;intro v9 w9 hown9 hb9 hg9 hm9;obtain⟨A9,c9,rfl,hc9⟩:=za1 hown9;have HO9:=Lib.hid (HO7.out.pushS (x:=s5) hg9 hown9 hm9);have HB9:=Lib.hid (HB7.out.grown hg9 HB7.out.size (fun k hk=>by have:=(HO7.out.sz.lt k hk).1;have:=HBP.out;omega));have hp9:p+1≤w9.heap.size:=(Array.getElem?_eq_some_iff.1 HO9.out.dict.blk).1)
        |(at_builtin;refine zab w9 _ _ rfl _ _ _ rfl zf3 _ _ _ rfl HO9.out.dp rfl (by simp) rfl (by simp[Value.oneCell']) (by unfold maxLen;omega) (by omega) (by omega) (Below.refl _ _) ?_;intro v10 w10 hown10 hb10 hg10 hm10;obtain⟨A10,c10,rfl,_⟩:=za1 hown10;have HO10:=Lib.hid (HO9.out.pushD (x:=h5) hg10 hown10 hm10);have HB10:=Lib.hid (HB9.out.grown hg10 HB9.out.size (fun k hk=>by have:=(HO9.out.dp.lt k hk).1;have:=HBP.out;omega))))
       go_roundw;case rel=>exact⟨i+1,_,cap,hs++[⟨d5,A5,c5⟩],A9,c9,A10,c10,sizes++[s5],deep++[h5],u5,by omega,by go_num,rfl,rfl,by omega,hc9,HO10,by rw[List.map_append];exact HI6,HB10,by rw[List.map_append];exact HQ6⟩
       case measure=>simp[intOf];omega
     ·have hR2:Hid (R=(e5,[],0,0)):=by
       show _=_;rw[←HR3.out,←HQ.out,show C-i=(C-i-1)+1 by omega,z7e (by rw[HR5.out];exact he5),HR5.out,zHh he5]
      have q5:(e5 !=0)=true:=by simpa using he5
      have HB6:=Lib.hid (zJb HB5.out (.cells #[.bool x5,.int .i64 y5,.slice A5 m5 c5] 88));clear hg5 HRD HO HI HB HQ HR5 HR3;go_wp2_with fail;go_ret2;refine⟨HB6.out,.inr ⟨by rw[hR2.out];exact he5,by rw[hR2.out];rfl⟩⟩
    ·obtain rfl:i=C:=by omega
     rw[Nat.sub_self]at HQ;have hq0:zka 0 (hs.map (·.d)) sizes deep u=(0,hs.map (·.d),sizes,u):=rfl;rw[hq0]at HQ;rw[←HQ.out]at HR3;have hlen:=HO.out.dict.len;have HREST:=Lib.hid (zC8 wr b u HO.out.cur);clear hq0 HQ HC1;by_cases hu:u=[]
     ·subst hu;have hfine:Fine (hs.map (·.d)):=HI.out.fine;have hszl:=HI.out.lenS;rw[List.length_map,hlen]at hszl;have hcmx:i≤1099511627776:=by omega
      obtain⟨cnt,hcnt⟩:∃z,(if 0<(i:Int)then sizes.getD ((i:Int).toNat-1) 0 else 0)=z:=⟨_,rfl⟩;have HR4:Hid (¬(rightE (allE (hs.map (·.d)) v3)≠0∨buildS (allE (hs.map (·.d)) v3)≠⟨t.toArray⟩)→R=(0,hs.map (·.d),v3,cnt)):=fun hh=>by
       rw[←HR3.out,z81 hh,hcnt]
      have HR5:Hid ((rightE (allE (hs.map (·.d)) v3)≠0∨buildS (allE (hs.map (·.d)) v3)≠⟨t.toArray⟩)→R=(3,[],0,0)):=fun hh=>by
       rw[←HR3.out,zHf hh]
      have HLEN:Hid ((allE (hs.map (·.d)) v3).length≤65536):=by
       show _≤_;unfold allE;by_cases hd:hs.map (·.d)=[]
       ·rw[if_pos hd];simp
       ·rw[if_neg hd];have h1:=zF7 HI.out v3 hd;have h2:=(getD_in HI.out.szb ⟨by omega,by omega⟩ ((hs.map (·.d)).length-1)).2;omega
      have HFIT:Hid (∀e∈allE (hs.map (·.d)) v3,fits64 e.2):=fun e he=>by
       unfold allE at he;split at he
       ·cases he
       ·exact zw8 _ _ _ _ e he
      have HALL:=Lib.hid (fun(W:World) (hd:DictAt W p (p+1) A i c v3 cnt hs)=>all_any W p (p+1) i c A v3 cnt hs hd hfine (Nat.le_trans HLEN.out (by omega)) (by omega));have HB0:=HB.out;by_cases hC0:0<i
      have q2:decide ((i:Int)>0)=true:=by simp;omega
      have q2':decide (0<i)=true:=by simpa using hC0
      have hc2:sizes.getD (i-1) 0=cnt:=by
       rw[←hcnt,if_pos (by omega),Int.toNat_natCast]
      obtain⟨gs,hAs,_,hgl⟩:=zah HO.out.sz hC0;subst hAs;have hk:sizes[i-1]? =some cnt:=by
       rw[←hc2,List.getD_eq_getElem?_getD,List.getElem?_eq_getElem (by omega)];rfl
      have hcell:=HO.out.sz.cells (g:=gs) rfl (i-1) (.int .i64 cnt) (by rw[List.getElem?_map,hk];rfl);rw[Addr.add_lit,Nat.zero_add]at hcell;obtain⟨j,hj⟩:∃j,i-1=j:=⟨_,rfl⟩;rw[hj]at hcell;have hw1:IntKind.i64.wrap ((i:Int)-1)=(j:Int):=by rw[show(i:Int)-1=(j:Int) by omega];exact IntWalk.i64_in _ (by omega)
      have hji:j<i:=by omega
      have hji2:(j:Int)<(i:Int):=by omega
      have c2:=cell_of_row wr p 2 _ _ (0,0) HO.out.dict.blk;simp at c2
      have f2:=HO.out.free 2;have HDC:=Lib.hid (HO.out.dict.setCnt HO.out.lp cnt);have HBC:Hid (Below w.heap.size w (wr.setCell ⟨p,2,none⟩ (.int .i64 cnt))):=HB0.setCell (by show w.heap.size≤p;exact HBP.out) _;clear hcnt HI HR3 hfine hk hc2 hj hszl hlen HB0;go_wp2_with fail;refine HREST.out.mono ?_;rintro e w5 ⟨rfl,rfl⟩;go_wp2_with fail;generalize w5.setCell ⟨p,2,none⟩ (.int .i64 cnt)=W9 at*;clear hcell hw1 c2 f2 hji hji2 q2 q2' hgl HREST HB HO;rotate_left
      have hi0:i=0:=by omega
      subst hi0;have hc0:cnt=0:=by rw[←hcnt];simp
      subst hc0;have HDC:=Lib.hid HO.out.dict;have HBC:=HB;clear hcnt HI HR3 hfine hszl hlen HB0 hC0;go_wp2_with fail;refine HREST.out.mono ?_;rintro e w5 ⟨rfl,rfl⟩;go_wp2_with fail;clear HREST HB HO;obtain⟨W9,hW9⟩:∃W,w5=W:=⟨_,rfl⟩;subst hW9;rotate_left
      all_goals
       generalize allE (hs.map (·.d)) v3=L at*;refine(HALL.out _ HDC.out).mono ?_;rintro e w6 ⟨v6,rfl,hrow6,hb6⟩;obtain⟨A6,c6,rfl,hc6⟩:=za1 hrow6;have HB6:=Lib.hid (HBC.out.trans (hb6.mono HBC.out.size));have HD6:=Lib.hid (HDC.out.keep hb6);have HBU:=Lib.hid (build_any w6 w6.heap.size (Nat.le_refl _) A6 L.length c6 L ⟨Sl.of_own hrow6,hc6,by have:=HLEN.out;omega⟩ HFIT.out (HT.out.keep HT.out.lt HB6.out));clear hrow6 hb6 HALL HDC HBC hc6;go_wp2_with fail;refine HBU.out.mono ?_;rintro e w7 ⟨rfl,hb7⟩;have HB7:=Lib.hid (HB6.out.trans (hb7.mono HB6.out.size));have HD7:=Lib.hid (HD6.out.keep hb7);clear hb7 HBU HB6 HD6;obtain⟨RE,hRE⟩:∃z,rightE L=z:=⟨_,rfl⟩;obtain⟨BS,hBS⟩:∃z,buildS L=z:=⟨_,rfl⟩;rw[hRE,hBS]at HR4 HR5⊢;clear hRE hBS;by_cases h1:RE=0
       ·subst h1;by_cases h2:BS=⟨t.toArray⟩
        ·have hR2:=Lib.hid (HR4.out (by simp[h2]));have q8:(BS.toList==t)=true:=by rw[←(show(⟨t.toArray⟩:ByteArray).toList=t by rw[ByteArray.toList_eq]),str_same];simpa using h2
         clear HR4 HR5 h2;go_wp2_with fail;go_ret2;refine⟨HB7.out,.inl ⟨by rw[hR2.out],p,p+1,_,c,A,hs,rfl,by rw[hR2.out];exact HD7.out,by rw[hR2.out],HBP.out,Nat.lt_succ_self _⟩⟩
        ·have hR2:=Lib.hid (HR5.out (.inr h2));have q8:(BS.toList==t)=false:=by rw[←(show(⟨t.toArray⟩:ByteArray).toList=t by rw[ByteArray.toList_eq]),str_same];simpa using h2
         clear HR4 HR5 h2;go_wp2_with fail;go_ret2;refine⟨HB7.out,.inr ⟨by rw[hR2.out];simp,by rw[hR2.out];rfl⟩⟩
       ·have q9:(RE !=0)=true:=by simpa using h1
        have hR2:=Lib.hid (HR5.out (.inl h1));clear HR4 HR5;go_wp2_with fail;go_ret2;refine⟨HB7.out,.inr ⟨by rw[hR2.out];simp,by rw[hR2.out];rfl⟩⟩
     ·have hR2:Hid (R=(5,[],0,0)):=by show _=_;rw[←HR3.out,zHg hu]
      have q5:u.isEmpty=false:=by
       cases u with
       |nil=>exact absurd rfl hu
       |cons _ _=>rfl
      clear HI HR3;go_wp2_with fail;refine HREST.out.mono ?_;rintro e w5 ⟨rfl,rfl⟩;go_wp2_with fail;go_ret2;refine⟨HB.out,.inr ⟨by rw[hR2.out];simp,by rw[hR2.out];rfl⟩⟩
  ·have q1:(e3 !=0)=true:=by simpa using hb3
   have hR2:Hid (R=(e3,[],0,0)):=by show _=_;rw[←HR.out,zHj HF2.out HF3.out hb3]
   clear he3 hl3 HC1;go_wp2_with fail;go_ret2;refine⟨HB3.out,.inr ⟨by rw[hR2.out];exact hb3,by rw[hR2.out];rfl⟩⟩
 ·have q1:(e2 !=0)=true:=by simpa using hb2
  have hR2:Hid (R=(e2,[],0,0)):=by show _=_;rw[←HR.out,zHk HF2.out hb2]
  clear he2 hl2 HC1;go_wp2_with fail;go_ret2;refine⟨HB2.out,.inr ⟨by rw[hR2.out];exact hb2,by rw[hR2.out];rfl⟩⟩
end F
namespace F
open Go.RowKit Go.Maps
theorem zI5(w:World)(s t:ByteArray)(x y:Int):(binOp .neq 29 (.agg #[.string s,.int .i64 x]) (.agg #[.string t,.int .i64 y])).run Tryz.prog w=.ok (.bool (!(s.toList==t.toList&&x==y))) w:=by
 rw[run_neq_struct,run_equalIn_agg _ _ _ _ _ (by kernel_rfl) (by kernel_rfl)];simp[go_sem,Program.fieldsOf,Tryz.underlying29]
 by_cases h1:s.toList=t.toList<;>by_cases h2:x=y<;>simp[h1,h2]
theorem zI4(w:World)(e e':Ent):(binOp .neq 29 (.agg #[.string ⟨e.1.toArray⟩,.int .i64 e.2]) (.agg #[.string ⟨e'.1.toArray⟩,.int .i64 e'.2])).run Tryz.prog w=.ok (.bool (!decide (e=e'))) w:=by
 rw[zI5,str_same];congr 2
 obtain⟨a,x⟩:=e;obtain⟨b,y⟩:=e';by_cases h1:a=b<;>by_cases h2:x=y<;>simp[h1,h2]
theorem gu_ent:Tryz.prog.eqGuardType Tryz.prog.depth 29=false:=by kernel_rfl
theorem zC3(w:World)(B:Nat)(hB:B≤w.heap.size)(A A':Option Addr)(n c n' c':Nat)(l l':List Ent)(h:Ents w B A n c l)(h':Ents w B A' n' c' l'):
  Calls Tryz.prog 26 #[.slice A n c,.slice A' n' c'] w fun e w'=>e=.returned (.bool (decide (l=l')))∧Below w.heap.size w w':=by
 have hlen:=h.len;have hcm:=h.cm;have hlen':=h'.len;have hcm':=h'.cm;by_cases hn:n=n'
 ·subst hn;go_enter Tryz.func26,Tryz.ntmps26
  go_wp2_with fail;go_loopw [5] (fun i wr=>∃k:Nat,k≤n∧i=.int .i64 k∧Hid (l.take k=l'.take k)∧Hid (Below w.heap.size w wr)) (fun i _=>n-(intOf i).toNat)
  case atStart=>exact⟨0,Nat.zero_le _,rfl,rfl,Lib.hid (za0 w)⟩
  case round=>
   obtain⟨k,hk,rfl,HL,HB⟩:=hrel;by_cases hlt:k<n
   ·obtain⟨e,he⟩:∃e,l[k]? =some e:=⟨l[k]'(by omega),List.getElem?_eq_getElem _⟩;obtain⟨e',he'⟩:∃e,l'[k]? =some e:=⟨l'[k]'(by omega),List.getElem?_eq_getElem _⟩;obtain⟨b,off,rfl,hb,hcell⟩:=h.at_ (by omega);obtain⟨b',off',rfl,hb',hcell'⟩:=h'.at_ (by omega);obtain⟨d0,d1⟩:=hcell k e he;obtain⟨d2,d3⟩:=hcell' k e' he';have f0:=(HB.out.cell (p:=⟨b,off+k*2,none⟩) (by show b<_;omega)).trans d0;have f1:=(HB.out.cell (p:=⟨b,off+k*2+1,none⟩) (by show b<_;omega)).trans d1;have f2:=(HB.out.cell (p:=⟨b',off'+k*2,none⟩) (by show b'<_;omega)).trans d2;have f3:=(HB.out.cell (p:=⟨b',off'+k*2+1,none⟩) (by show b'<_;omega)).trans d3;clear d0 d1 d2 d3 hcell hcell';have hg:=gu_ent;have HQ:=Lib.hid (fun w=>zI4 w e e');have hone:l.take (k+1)=l.take k++[e]:=by rw[List.take_add_one,he];rfl
    have hone':l'.take (k+1)=l'.take k++[e']:=by rw[List.take_add_one,he'];rfl
    by_cases hee:e=e'
    ·subst hee;have hq:=HQ.out;rw[decide_eq_true rfl]at hq;have HN:Hid (l.take (k+1)=l'.take (k+1)):=by show _=_;rw[hone,hone',HL.out]
     clear HQ hone hone' he he';go_wp2_with fail;go_quiet (fail)
     go_wp2_with fail;go_roundw;case rel=>exact⟨k+1,by omega,by go_num,HN,Lib.hid (below_drewN HB.out nq)⟩
     case measure=>simp[intOf];omega
    ·have hq:=HQ.out;rw[decide_eq_false hee]at hq;have HN:Hid (decide (l=l')=false):=by
      refine decide_eq_false fun h=>hee ?_
      rw[h,he']at he;injection he with he
      exact he.symm
     clear HQ hone hone' he he' hee;go_wp2_with fail;go_quiet (fail)
     go_wp2_with fail;go_ret;exact⟨by rw[HN.out];rfl,below_drewN HB.out nq⟩
   ·obtain rfl:k=n:=by omega
    rw[List.take_of_length_le (by omega),List.take_of_length_le (by omega)]at HL;have HN:Hid (decide (l=l')=true):=decide_eq_true HL.out;clear HL;go_wp2_with fail;go_ret;exact⟨by rw[HN.out];rfl,HB.out⟩
 ·have HN:Hid (decide (l=l')=false):=decide_eq_false fun e=>hn (by rw[←hlen,←hlen',e])
  have q1:((n:Int) !=(n':Int))=true:=by simp;omega
  clear h h';go_enter Tryz.func26,Tryz.ntmps26
  go_wp2_with fail;go_ret;exact⟨by rw[HN.out];rfl,za0 w⟩
theorem Same_any(w:World)(B:Nat)(hB:B≤w.heap.size)(A A':Option Addr)(n c n' c':Nat)(l l':List Ent)(h:Ents w B A n c l)(h':Ents w B A' n' c' l'):
  Calls Tryz.prog 13 #[.slice A n c,.slice A' n' c'] w fun e w'=>e=.returned (.bool (decide (l=l')))∧Below w.heap.size w w':=by
 have HS:=Lib.hid (zC3 w B hB A A' n c n' c' l l' h h');clear h h';go_enter Tryz.func13,Tryz.ntmps13
 go_wp2_with fail;refine HS.out.mono ?_;rintro e w1 ⟨rfl,hb⟩;go_wp2_with fail;go_ret;exact⟨rfl,hb⟩
end F
section
open Go.RowKit Go.ChangeShapes Go.WideShapes Go.Deep
inductive Ty where
 |int (k:IntKind)
 |bool
 |str
 |slice (e:Ty) (bytes:Nat)
 |nil
 |cons (f r:Ty)
def Ty.size:Ty→Nat
 | .nil=>0
 | .cons f r=>f.size+r.size
 |_=>1
structure SlH where
 A:Option Addr
 n:Nat
 c:Nat
def Ty.den:Ty→Type
 | .int _=>Int
 | .bool=>Bool
 | .str=>ByteArray
 | .slice e _=>SlH×(Nat→e.den)
 | .nil=>Unit
 | .cons f r=>f.den×r.den
theorem Ty.inh:(t:Ty)→Nonempty t.den
 | .int _=>⟨(0:Int)⟩
 | .bool=>⟨false⟩
 | .str=>⟨ByteArray.empty⟩
 |
  .slice e _=>by
  obtain⟨x⟩:=Ty.inh e;exact⟨(⟨none,0,0⟩,fun _=>x)⟩
 | .nil=>⟨()⟩
 |
  .cons f r=>by
  obtain⟨x⟩:=Ty.inh f;obtain⟨y⟩:=Ty.inh r;exact⟨(x,y)⟩
def SlH.ok(s:SlH)(bytes:Nat):Prop:=s.n≤s.c∧s.c≤maxLen∧s.n*bytes≤reachBytes∧(s.A=none→s.c=0)
def Reads(w:World)(B:Nat):(t:Ty)→t.den→List Value→Prop
 | .int k,d,cs=>∃z:Int,d=z∧cs=[.int k z]∧(Lit.int k z).wf=true
 | .bool,d,cs=>∃b:Bool,d=b∧cs=[.bool b]
 | .str,d,cs=>∃s:ByteArray,d=s∧cs=[.string s]∧s.size≤maxLen∧s.size≤reachBytes
 | .slice e bytes,d,cs=>cs=[.slice d.1.A d.1.n d.1.c]∧d.1.ok bytes∧(0<d.1.n→∃b off,d.1.A=some ⟨b,off,none⟩∧b<B∧
   ∀i,i<d.1.n→∃cl:List Value,cl.length=e.size∧(∀j u,cl[j]? =some u→w.cell? ⟨b,off+(i*e.size+j),none⟩=some u)∧Reads w B e (d.2 i) cl)
 | .nil,_,cs=>cs=[]
 | .cons f r,d,cs=>∃c1 c2,cs=c1++c2∧c1.length=f.size∧Reads w B f d.1 c1∧Reads w B r d.2 c2
theorem Reads.keep{w w':World}{B B':Nat}(hB:B≤B')(hk:∀b o,b<B→w'.cell? ⟨b,o,none⟩=w.cell? ⟨b,o,none⟩):∀{t:Ty}{d:t.den}{cs:List Value},Reads w B t d cs→Reads w' B' t d cs
 | .int _,_,_,h=>h
 | .bool,_,_,h=>h
 | .str,_,_,h=>h
 |
  .slice e bytes,d,cs,h=>by
  obtain⟨h1,h2,h3⟩:=h;refine⟨h1,h2,fun hn=>?_⟩;obtain⟨b,off,hA,hb,hi⟩:=h3 hn;refine⟨b,off,hA,by omega,fun i hin=>?_⟩;obtain⟨cl,hl,hc,hr⟩:=hi i hin;exact⟨cl,hl,fun j u hu=>(hk _ _ hb).trans (hc j u hu),Reads.keep hB hk hr⟩
 | .nil,_,_,h=>h
 |
  .cons f r,d,cs,h=>by
  obtain⟨c1,c2,h1,h2,h3,h4⟩:=h;exact⟨c1,c2,h1,h2,Reads.keep hB hk h3,Reads.keep hB hk h4⟩
theorem Reads.below{w w':World}{t:Ty}{d:t.den}{cs:List Value}(h:Reads w w.heap.size t d cs)(hb:Below w.heap.size w w'):Reads w' w'.heap.size t d cs:=
 h.keep hb.size fun b o hl=>hb.cell (p:=⟨b,o,none⟩) hl
theorem Reads.len{w:World}{B:Nat}:∀{t:Ty}{d:t.den}{cs:List Value},Reads w B t d cs→cs.length=t.size
 | .int _,_,_,⟨_,_,h,_⟩=>by rw[h];rfl
 | .bool,_,_,⟨_,_,h⟩=>by rw[h];rfl
 | .str,_,_,⟨_,_,h,_⟩=>by rw[h];rfl
 | .slice _ _,_,_,⟨h,_⟩=>by rw[h];rfl
 | .nil,_,_,h=>by rw[show _=[] from h];rfl
 |
  .cons f r,d,cs,⟨c1,c2,h,hl,_,h2⟩=>by
  have:=Reads.len h2;rw[h,List.length_append,hl,this];rfl
def Ty.cells:(t:Ty)→t.den→List Value
 | .int k,d=>[.int k d]
 | .bool,d=>[.bool d]
 | .str,d=>[.string d]
 | .slice _ _,d=>[.slice d.1.A d.1.n d.1.c]
 | .nil,_=>[]
 | .cons f r,d=>f.cells d.1++r.cells d.2
theorem Reads.cells{w:World}{B:Nat}:∀{t:Ty}{d:t.den}{cs:List Value},Reads w B t d cs→cs=t.cells d
 | .int _,_,_,⟨_,h,e,_⟩=>by rw[e,h];rfl
 | .bool,_,_,⟨_,h,e⟩=>by rw[e,h];rfl
 | .str,_,_,⟨_,h,e,_⟩=>by rw[e,h];rfl
 | .slice _ _,_,_,⟨h,_⟩=>h
 | .nil,_,_,h=>h
 | .cons f r,d,cs,⟨c1,c2,h,_,h1,h2⟩=>by rw[h,Reads.cells h1,Reads.cells h2];rfl
theorem Reads.sl{w:World}{B bytes:Nat}{e:Ty}{A:Option Addr}{n c:Nat}{x:Nat→e.den}{cs:List Value}(h:Reads w B (.slice e bytes) (⟨A,n,c⟩,x) cs)(hl:∀d:e.den,(e.cells d).length=e.size):
  Sl w B e.size A n ((List.range n).flatMap fun i=>e.cells (x i)):=by
 obtain⟨_,_,h3⟩:=h;refine⟨by rw[flat_length _ e.size (fun i=>hl (x i)),List.length_range],fun hn=>?_⟩;obtain⟨b,off,hA,hb,hi⟩:=h3 hn;refine⟨b,off,hA,hb,fun j u hu=>?_⟩;have hjl:j<n*e.size:=by
  have:=(List.getElem?_eq_some_iff.1 hu).1;rw[flat_length _ e.size (fun i=>hl (x i)),List.length_range]at this;exact this
 have hs:0<e.size:=by
  rcases Nat.eq_zero_or_pos e.size with h0|h0
  ·rw[h0,Nat.mul_zero]at hjl;omega
  ·exact h0
 have hq:j/e.size<n:=Nat.div_lt_of_lt_mul (by rw[Nat.mul_comm];exact hjl);have hr:j%e.size<e.size:=Nat.mod_lt _ hs;have hj:j/e.size*e.size+j%e.size=j:=by rw[Nat.mul_comm];exact Nat.div_add_mod j e.size
 obtain⟨cl,_,hc,hrd⟩:=hi (j/e.size) hq;rw[←hj]at hu⊢;rw[zc7 _ e.size (fun i=>hl (x i)) (List.range n) (j/e.size) (j%e.size) (j/e.size) (by simp[hq]) hr]at hu;refine hc (j%e.size) u ?_;rw[hrd.cells];exact hu
theorem Reads.elem{w:World}{B bytes:Nat}{e:Ty}{A:Option Addr}{n c:Nat}{x:Nat→e.den}{cs:List Value}(h:Reads w B (.slice e bytes) (⟨A,n,c⟩,x) cs){i:Nat}(hi:i<n):∃cl,Reads w B e (x i) cl:=by
 obtain⟨_,_,h3⟩:=h;obtain⟨_,_,_,_,hh⟩:=h3 (show 0<n by omega);obtain⟨cl,_,_,hr⟩:=hh i hi;exact⟨cl,hr⟩
def zia(P:Program)(g:TypeId→Option Ty):List Field→Nat→Option Ty
 |[],_=>some .nil
 |f::fs,o=>if f.offset=o then
   match g f.type with
   |some τ=>if P.cellsOf f.type=τ.size then(zia P g fs (o+τ.size)).map (.cons τ)else none
   |none=>none
  else none
def tyOf(P:Program):Nat→TypeId→Option Ty
 |0,_=>none
 |k+1,t=>match P.underlying t with
  |some (.int k)=>some (.int k)
  |some .bool=>some .bool
  |some .string=>some .str
  |some (.slice e)=>match tyOf P k e with
   |some τ=>if P.cellsOf e=τ.size∧0<τ.size then some (.slice τ (P.bytesOf e))else none
   |none=>none
  |some (.struct fs)=>match zia P (tyOf P k) fs.toList 0 with
   |some τ=>if P.cellsOf t=τ.size then some τ else none
   |none=>none
  |_=>none
section
variable {H:Type}{enc:TypeId×Value→H}{P:Program}{w:World}{base:Nat}{spare:Nat→Bool}{held:Bool}
def zz5(P:Program)(t:TypeId)(d:DataW H):Prop:=∀n∈d.weights P t,n≤reachBytes
theorem zh9{e:TypeId}:∀{ds:List (DataW H)}{d:DataW H},d∈ds→∀n∈d.weights P e,n∈DataW.weightsAll P e ds
 |
  x::ds,d,hd,n,hn=>by
  rw[DataW.weightsAll,List.mem_append];rcases List.mem_cons.1 hd with rfl|h
  ·exact .inl hn
  ·exact .inr (zh9 h n hn)
theorem zt6{ts:List TypeId}{ds:List (DataW H)}(h:(DataW.weightsEach P ts ds).all (· ≤reachBytes)=true){j:Nat}{t:TypeId}{d:DataW H}(ht:ts[j]? =some t)(hd:ds[j]? =some d):zz5 P t d:=
 fun n hn=>by simpa using List.all_eq_true.1 h n (DataW.weights_mem_each ht hd n hn)
end
end
namespace F
open Go.RowKit Go.Maps
abbrev tEnt:Ty:=.cons .str (.cons (.int .i64) .nil)
theorem ty_ents:tyOf Tryz.prog 8 22=some (.slice tEnt 24):=by kernel_rfl
def zE0(d:tEnt.den):Ent:=((show ByteArray from d.1).data.toList,(show Int from d.2.1))
def entL(n:Nat)(x:Nat→tEnt.den):List Ent:=(List.range n).map fun i=>zE0 (x i)
structure EntsIn(w:World)(A:Option Addr)(n c:Nat)(l:List Ent):Prop where
 ents:Ents w w.heap.size A n c l
 fits:∀e∈l,fits64 e.2
 lens:∀e∈l,e.1.length≤140737488355328
 cmx:c≤maxLen
theorem ents_in{w:World}{A:Option Addr}{n c:Nat}{x:Nat→tEnt.den}{cs:List Value}(h:Reads w w.heap.size (.slice tEnt 24) (⟨A,n,c⟩,x) cs):EntsIn w A n c (entL n x):=by
 have hs:=h.sl (e:=tEnt) (fun d=>rfl);have hb:n*24≤reachBytes:=h.2.1.2.2.1;have hel:∀i,i<n→fits64 (zE0 (x i)).2∧(zE0 (x i)).1.length≤140737488355328:=by
  intro i hi
  obtain⟨cl,c1,c2,_,_,⟨s,hs1,_,hs2,hs3⟩,c3,c4,_,_,⟨z,hz,_,wz⟩,_⟩:=h.elem hi;constructor
  ·have:=bounds_i64 wz;show fits64 ((x i).2.1:Int);have e:((x i).2.1:Int)=z:=hz;rw[e];exact this
  ·have e1:(zE0 (x i)).1=s.data.toList:=congrArg (fun q:ByteArray=>q.data.toList) hs1;rw[e1];have e2:s.data.toList.length=s.size:=rfl;rw[e2];unfold reachBytes at hs3;omega
 refine⟨⟨?_,h.2.1.1,by unfold reachBytes at hb;omega⟩,fun e he=>?_,fun e he=>?_,h.2.1.2.1⟩
 ·have e:entsC (entL n x)=(List.range n).flatMap fun i=>Ty.cells tEnt (x i):=by
   unfold entsC entL;rw[List.flatMap_map];rfl
  rw[e];exact hs
 ·obtain⟨i,hi,rfl⟩:=List.mem_map.1 he;exact(hel i (List.mem_range.1 hi)).1
 ·obtain⟨i,hi,rfl⟩:=List.mem_map.1 he;exact(hel i (List.mem_range.1 hi)).2
structure TextsIn(w:World)(A:Option Addr)(n c:Nat)(x:Nat→ByteArray):Prop where
 nc:n≤c
 cm:c≤maxLen
 rb:n*16≤reachBytes
 sl:Sl w w.heap.size 1 A n ((List.range n).map fun i=>.string (x i))
 sz:∀i,i<n→(x i).size≤reachBytes
end F
namespace F
open Go.RowKit Go.Maps
theorem zJ2:Elem Tryz.prog 86 107 3 24:=Elem.mk_ Tryz.underlying86 (z:=.agg #[.int .i64 0,.int .i64 0,.int .i64 0]) (by kernel_rfl) rfl (by omega)
theorem zv3{w w3:World}{o1 o2 o3:Obj}(hb:Below (w.heap.size+1+1) (((w.alloc o1).alloc o2).alloc o3) w3):w3.heap[w.heap.size]? =some o1∧w3.heap[w.heap.size+1]? =some o2∧w.heap.size+1+1<w3.heap.size:=by
 have h:=heap_alloc_new (w.alloc o1) o2;have e:(w.alloc o1).heap.size=w.heap.size+1:=by simp
 rw[e]at h;have b1:=bnew (za0 (w.alloc o1)) o2;have b2:=bnew (za0 ((w.alloc o1).alloc o2)) o3;refine⟨(hb.block w.heap.size (by omega)).trans ((b2.block _ (by simp;omega)).trans ((b1.block _ (by simp)).trans (heap_alloc_new w o1))),(hb.block _ (by omega)).trans ((b2.block _ (by simp)).trans h),?_⟩;have:=hb.size;simp at this
 omega
theorem own_lower{w:World}{b b' e s n:Nat}{v:Value}{xs:List Value}(h:w.ownsRow b e s v n xs)(hb:b'≤b):w.ownsRow b' e s v n xs:=by
 refine⟨h.1,?_⟩;rcases h.2 with hn|⟨g,cap,cur,rfl,hg,rest⟩
 ·exact .inl hn
 ·exact .inr ⟨g,cap,cur,rfl,by omega,rest⟩
theorem own_set{w:World}{b e s n k j:Nat}{v u:Value}{xs:List Value}(h:w.ownsRow b e s v n xs)(hb:k<b):(w.setCell ⟨k,j,none⟩ u).ownsRow b e s v n xs:=by
 refine h.kept (za7 _ _ _) ?_;cases hv:v.ownBlock with
 |none=>exact .inl rfl
 |
  some g=>
  refine .inr fun e=>?_
  injection e with e
  have:=(h.lt g hv).1;simp at e
  omega
theorem below_set{w w':World}{B k j:Nat}{u:Value}(h:Below B w w')(hk:B≤k)(hB:B≤w.heap.size):Below B w (w'.setCell ⟨k,j,none⟩ u):=h.grown (za7 _ _ _) (Nat.le_trans hB h.size) (fun q hq=>by injection hq with hq;simp at hq;omega)
theorem free_at{w:World}{b:Nat}{C:Array Value}{t:TypeId}(h:w.heap[b]? =some (.cells C t (0,0)))(j:Nat):w.frozen? ⟨b,j,none⟩=false:=by simp[World.frozen?,h]
theorem gnode_any(w:World)(p B n c:Nat)(A:Option Addr)(base cnt:Int)(hs:List Nh)(h:DictAt w p B A n c base cnt hs)(i:Nat)(x:Nh)(hx:hs[i]? =some x)(hsm:x.d.ways.length≤65536):Calls Tryz.prog 47 #[.pointer (some ⟨p,0,none⟩),.int .i64 i] w fun e w'=>∃v,e=.returned (.tuple #[.agg #[.bool x.d.fin,.int .i64 x.d.out,v],.bool true])∧w'.ownsRow w.heap.size 107 3 v x.d.ways.length (waysC x.d.ways)∧Below w.heap.size w w':=by
 obtain⟨c0,c1,c2⟩:=h.cells;have hp:=(lt_of_cell c0).1;simp only at hp;have hin:i<n:=by
  have:=(List.getElem?_eq_some_iff.1 hx).1;have:=h.len;omega
 obtain⟨hnc,hn⟩:=h.cap;obtain⟨g,rfl,hgl,hnode⟩:=h.node_ (by omega);obtain⟨n0,n1,n2⟩:=hnode i x hx;obtain⟨hcx,_⟩:=h.caps (List.mem_of_getElem? hx);have HSL:=Lib.hid (Sl.of_own (h.way x (List.mem_of_getElem? hx)));have HN:Hid (x.A=none→x.d.ways.length=0):=by
  intro hA
  rcases(h.way x (List.mem_of_getElem? hx)).2 with⟨_,h0⟩|⟨g,cap,cur,hv,_⟩
  ·exact h0
  ·unfold Nh.row at hv;rw[hA]at hv;cases hv
 obtain⟨m,hm⟩:∃m,x.d.ways.length=m:=⟨_,rfl⟩;rw[hm]at n2 hcx HSL HN hsm⊢;have q1:decide ((i:Int)<0)=false:=by simp
 have q2:decide ((i:Int)≥(n:Int))=false:=by simp;omega
 have q3:decide (n≤i)=false:=by simp;omega
 clear hnode h hx hm;go_enter Tryz.func47,Tryz.ntmps47
 have HONE:Hid (∀u∈waysC x.d.ways,u.oneCell'=true):=by
  intro u hu
  unfold waysC at hu;obtain⟨y,_,hy⟩:=List.mem_flatMap.1 hu;simp only[wayC,List.mem_cons,List.not_mem_nil,or_false]at hy;rcases hy with rfl|rfl|rfl<;>rfl
 go_wp2_with (at_builtin;refine zad (base:=w.heap.size+1+1) _ _ rfl _ _ _ rfl zJ2 _ 0 [] rfl (zc1 _ _ _ (by simp) (by simp)) rfl (((HSL.out.alloc (Nat.le_refl _) _).alloc (by simp) _).alloc (by simp;omega) _) HN.out HONE.out (by unfold maxLen;omega) (by omega) (by simp) (Below.refl _ _) ?_;intro v3 w3 hown3 hb3 _ _;obtain⟨A3,c3,rfl,_⟩:=za1 hown3;have HB3:=Lib.hid hb3;have HO3:=Lib.hid hown3;obtain⟨k0,k1,hsz⟩:=zv3 hb3;have e0:=cell_of_row w3 _ 0 _ _ (0,0) k0;have e1:=cell_of_row w3 _ 1 _ _ (0,0) k0;have e2:=cell_of_row w3 _ 2 _ _ (0,0) k0;have f0:=cell_of_row w3 _ 0 _ _ (0,0) k1;have f1:=cell_of_row w3 _ 1 _ _ (0,0) k1;have f2:=cell_of_row w3 _ 2 _ _ (0,0) k1;simp at e0 e1 e2 f0 f1 f2;have HK0:=Lib.hid k0;have g1:=free_at k1 2;have g0:=free_at k0 0;have g01:=free_at k0 1;have g02:=free_at k0 2;clear hb3 hown3 k0 k1)
 have hB:Below w.heap.size w w3:=(bnew (bnew (bnew (za0 w) _) _) _).trans (HB3.out.mono (by omega));have hO:=HO3.out;rw[Nat.zero_add,List.nil_append]at hO;have hOO:=own_lower (own_set (k:=w.heap.size) (j:=2) (u:=.slice A3 m c3) (own_set (k:=w.heap.size) (j:=1) (u:=.int .i64 x.d.out) (own_set (k:=w.heap.size) (j:=0) (u:=.bool x.d.fin) (own_set (k:=w.heap.size+1) (j:=2) (u:=.slice A3 m c3) hO (by omega)) (by omega)) (by omega)) (by omega)) (show w.heap.size≤_ by omega);have hBB:=below_set (k:=w.heap.size) (j:=2) (u:=.slice A3 m c3) (below_set (k:=w.heap.size) (j:=1) (u:=.int .i64 x.d.out) (below_set (k:=w.heap.size) (j:=0) (u:=.bool x.d.fin) (below_set (k:=w.heap.size+1) (j:=2) (u:=.slice A3 m c3) hB (by omega) (Nat.le_refl _)) (Nat.le_refl _) (Nat.le_refl _)) (Nat.le_refl _) (Nat.le_refl _)) (Nat.le_refl _) (Nat.le_refl _);have k1:(w3.setCell ⟨w.heap.size+1,2,none⟩ (.slice A3 m c3)).heap[w.heap.size]? =_:=(Below.heap_setCell _ _ _ _ (by simp)).trans HK0.out;have k4:=blk_set (j:=2) (blk_set (j:=1) (blk_set (j:=0) k1 (.bool x.d.fin)) (.int .i64 x.d.out)) (.slice A3 m c3);have d0:=cell_of_row _ _ 0 _ _ (0,0) k4;have d1:=cell_of_row _ _ 1 _ _ (0,0) k4;have d2:=cell_of_row _ _ 2 _ _ (0,0) k4;simp at d0 d1 d2
 clear k1 k4 hO hB HO3 HB3 HK0;generalize(((w3.setCell ⟨w.heap.size+1,2,none⟩ (.slice A3 m c3)).setCell ⟨w.heap.size,0,none⟩ (.bool x.d.fin)).setCell ⟨w.heap.size,1,none⟩ (.int .i64 x.d.out)).setCell ⟨w.heap.size,2,none⟩ (.slice A3 m c3)=W4 at*;exact bodyPost_ret (v:=.tuple #[.agg #[.bool x.d.fin,.int .i64 x.d.out,.slice A3 m c3],.bool true]) (by simp[results,Tryz.results47,go_sem,d0,d1,d2]) rfl ⟨_,rfl,hOO,hBB⟩
end F
section
open Go.RowKit
def Tab(w:World):Prop:=Lib.TabIs Tryz.prog w "internal/strconv.uint64pow10" .u64 Lib.pow10Tab
theorem zr3:Tryz.prog.globalNamed "internal/strconv.uint64pow10" =some 0:=by kernel_rfl
theorem Tab.keep{w w':World}{B:Nat}(h:Tab w)(hB:0<B)(hb:Below B w w'):Tab w':=by
 unfold Tab Lib.TabIs World.var? at h⊢;rw[zr3]at h⊢;simp only[Option.bind_some]at h⊢;rw[hb.block _ hB];exact h
theorem Tab.lt{w:World}(h:Tab w):0<w.heap.size:=by
 unfold Tab Lib.TabIs World.var? at h;rw[zr3]at h;simp only[Option.bind_some]at h;rcases Nat.lt_or_ge 0 w.heap.size with h'|h'
 ·exact h'
 ·rw[Array.getElem?_eq_none h']at h;cases h
theorem Tab.below{w w':World}(h:Tab w)(hb:Below w.heap.size w w'):Tab w':=h.keep h.lt hb
theorem zec(n:Int)(h0: -9223372036854775808≤n)(h1:n≤9223372036854775807)(w:World)(ht:Tab w):
  Calls Tryz.prog 51 #[.int .i64 n] w fun e w'=>e=.returned (.string ⟨(Lib.itoa n).toArray⟩)∧Below w.heap.size w w':=by
 refine(Tryz.strconv_Itoa n h0 h1 w ht).mono ?_;rintro e w' ⟨rfl,k,os,rfl⟩;exact⟨rfl,Lib.below_grow _ w (Nat.le_refl _) k os⟩
structure SgR(w W:World)(b:Nat)(l:List UInt8):Prop where
 sb:Sb W b b l
 tab:Tab W
 bel:Below w.heap.size w W
 le:w.heap.size≤b
 lt:b<W.heap.size
theorem SgR.keep{w W W':World}{b:Nat}{l:List UInt8}(h:SgR w W b l)(hb:Below W.heap.size W W'):SgR w W' b l:=by
 refine⟨?_,h.tab.below hb,za9 h.bel hb,h.le,Nat.lt_of_lt_of_le h.lt hb.size⟩;rcases h.sb with⟨h1,v,h2,h3,h4⟩|⟨h1,v,h2,h3,h4⟩
 ·exact .inl ⟨h1,v,(hb.block b h.lt).trans h2,za2 h3 hb,h4⟩
 ·exact .inr ⟨h1,v,(hb.block b h.lt).trans h2,za2 h3 hb,h4⟩
theorem SgR.write{w W:World}{b:Nat}{l:List UInt8}(h:SgR w W b l)(hb0:0<b)(s:List UInt8)(hl:l.length+s.length≤4611686018427):
  Calls Tryz.prog 50 #[.pointer (some ⟨b,0,none⟩),.string ⟨s.toArray⟩] W fun e w'=>e=.returned (.tuple #[.int .i64 (⟨s.toArray⟩:ByteArray).size,.nilIface])∧SgR w w' b (l++s)∧Below b W w'∧zbi b W w':=by
 refine(zqk b b (Lib.byteCells l) ⟨s.toArray⟩ W h.sb (by rw[Lib.byteCells_length];show _+s.toArray.size≤_;simp;omega) (Nat.le_of_lt h.lt)).mono ?_;rintro e w' ⟨rfl,h1,h2,h3⟩;refine⟨rfl,⟨?_,h.tab.keep hb0 h2,h.bel.trans (h2.mono h.le),h.le,Nat.lt_of_lt_of_le h.lt h2.size⟩,h2,h3⟩;have e1:Lib.byteCells l++Lib.strCells ⟨s.toArray⟩=Lib.byteCells (l++s):=by
  simp[Lib.byteCells,Lib.strCells]
 unfold Sb;rw[←e1];exact h1
theorem SgR.start(w:World)(ht:Tab w){W:World}{b:Nat}(hb:Below w.heap.size w W)(hs:W.heap.size=b):SgR w (W.alloc (.cells #[.pointer none,.slice none 0 0] 113)) b []:=by
 subst hs;refine⟨.inl ⟨Nat.le_refl _,.slice none 0 0,heap_alloc_new _ _,⟨rfl,.inl ⟨rfl,rfl⟩⟩,by simp[Value.ownBlock]⟩,ht.below (bnew hb _),bnew hb _,hb.size,by simp⟩
theorem size_mk(l:List UInt8):(⟨l.toArray⟩:ByteArray).size=l.length:=by show l.toArray.size=_;simp
theorem zB0(l m:List UInt8):(⟨l.toArray⟩:ByteArray)++⟨m.toArray⟩=⟨(l++m).toArray⟩:=by
 apply ByteArray.ext
 simp
theorem zGd(l m:List UInt8)(h:l.length+m.length≤4611686018427)(w:World):(Op.stringOp .add (⟨l.toArray⟩:ByteArray) ⟨m.toArray⟩).run Tryz.prog w=.ok (.string ⟨(l++m).toArray⟩) w:=by
 rw[←zB0];exact run_string_add_sum w _ _ (by rw[size_mk,size_mk];omega)
end
section
open Go.RowKit
theorem own:ownKnob Tryz.prog.godebug=none:=by kernel_rfl
theorem laidOut:laidOutB Tryz.prog=true:=by kernel_rfl
theorem zDa:(Tryz.prog.globals[0]?).map (·.type)=some 173:=by kernel_rfl
theorem zw5{P:Program}{x:String×DataW Unit}{r:List (String×DataW Unit)}{w:World}(h:laidMet P (x::r) w):laidMet P r w:=by
 obtain⟨ps,⟨g,t,cs,fuel,p,q,_,_,_,_,hq,rfl⟩,hn,hc⟩:=h;exact⟨q,hq,(List.nodup_append.1 hn).2.1,fun b off hm=>hc b off (List.mem_append_right _ hm)⟩
theorem table{W:World}(h:laidMetH Tryz.prog Rows.walkFromRow.laid W):Tab W:=
 Lib.tabIs_of_head (rest:=[]) zr3 zDa Tryz.underlying173 Tryz.underlying141 (by kernel_rfl) (by kernel_rfl) (zw5 (zw5 h))
def zEe:DataW Unit→Array Value
 | .agg l=>(l.map fun d=>match d with
  | .lit (.int k z)=>Value.int k z
  |_=>.nilIface).toArray
 |_=> #[]
def put0(o:Obj)(d:DataW Unit):Obj:=match o with
 | .cells _ t frozen=>.cells (zEe d) t frozen
 |o=>o
noncomputable def laidWorld(os:Os):World:=
 {World.holding Tryz.prog os ⟨#[], #[],[]⟩with heap:=(((World.holding Tryz.prog os ⟨#[], #[],[]⟩).heap.modify 0 fun o=>put0 o Rows.laid_internal_strconv_uint64pow10).modify 1 fun o=>put0 o Rows.laid_math_bits_deBruijn32tab).modify 2 fun o=>put0 o Rows.laid_math_bits_deBruijn64tab}
end
end Go.Proofs.YtaociahafamncaaGreatDoor
