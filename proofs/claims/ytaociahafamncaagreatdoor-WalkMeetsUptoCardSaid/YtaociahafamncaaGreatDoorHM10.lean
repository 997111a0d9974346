/- Folded. -/
import Derived.Test.YtaociahafamncaaGreatDoorHM9
set_option maxRecDepth 100000
set_option maxHeartbeats 40000000
namespace Go.Proofs.YtaociahafamncaaGreatDoor
namespace F
open Go.RowKit Go.Maps
theorem zCi(f:Nat)(w:World)(p kb base B:Nat)(v:Value)(hs:List Nh)(l:List Ent)(A:Option Addr)(n c at_:Nat)(told:Int)(hfb:FbAt w p kb base v hs)(hE:Ents w B A n c l)(hB:B≤base)(hok:Okl at_ told l)(hat:at_≤64)(hl:l.length≤65536)(hcap:hs.length+1+cost at_ l≤CAP)(ht:Tab w)(htb:0<base)
  (ih:∀(W:World) (v:Value) (hs:List Nh) (g:List Ent) (A:Option Addr) (n c:Nat) (m:Int),FbAt W p kb base v hs→Ents W B A n c g→Okl (at_+1) m g→g.length≤65536→hs.length+1+cost (at_+1) g≤CAP→Tab W→Calls Tryz.prog 36 #[.pointer (some ⟨p,0,none⟩),.slice A n c,.int .i64 ((at_:Int)+1),.int .i64 m] W (zd7 f W p kb base v hs g (at_+1) m)) (hfin:zj3 l=at_):
  Calls Tryz.prog 36 #[.pointer (some ⟨p,0,none⟩),.slice A n c,.int .i64 (at_:Int),.int .i64 told] w (zd7 (f+1) w p kb base v hs l at_ told):=by
 have hlen:=hE.len;have hcm:=hE.cm;have hn:0<n:=by
  have:=List.length_pos_iff.2 hok.ne;omega
 obtain⟨b,off,rfl,hb,hcell⟩:=hE.at_ hn;obtain⟨e0,he0⟩:∃e,l[0]? =some e:=⟨l[0]'(by omega),List.getElem?_eq_getElem _⟩;have hhl:zj3 l=e0.1.length:=by
  cases l with
  |nil=>simp at he0
  |cons x r=>simp at he0;rw[←he0];rfl
 obtain⟨c0,c1⟩:=hcell 0 e0 he0;rw[Nat.zero_mul,Nat.add_zero]at c0 c1;have hbw:=(lt_of_cell c0).1;simp only at hbw;have hob:=z7j hok;have HFB:=Lib.hid hfb;have HE:=Lib.hid hE;have HOK:=Lib.hid hok;have HT:=Lib.hid ht;have HIH:=Lib.hid ih;have hpl:=hfb.lt;have HFIN:Hid (∀q,zgg (fun ds g m=>zc2 f ds g (at_+1) m) at_ told (zbc at_ l).length (hs.map (·.d)) [] (zbc at_ l)=q→zc2 (f+1) (hs.map (·.d)) l at_ told=addN q.1 ⟨isFin at_ l,outOf at_ told l,q.2⟩):=fun q hq=>zrd hq
 have hnew:=bnew (za0 w) (.cells #[.bool (isFin at_ l),.int .i64 (outOf at_ told l),.slice none 0 0] 88);have HL0:∀(A1:Option Addr) (n1 c1:Nat),Ents (w.alloc (.cells #[.bool (isFin at_ l),.int .i64 (outOf at_ told l),.slice none 0 0] 88)) B A1 n1 c1 (zbc at_ l)→(zbc at_ l).length≤65536→Hid (LoopR f w (w.alloc (.cells #[.bool (isFin at_ l),.int .i64 (outOf at_ told l),.slice none 0 0] 88)) p kb base B w.heap.size v v hs [] (isFin at_ l) (outOf at_ told l) [] none 0 (zbc at_ l) A1 n1 c1 at_ told (zgg (fun ds g m=>zc2 f ds g (at_+1) m) at_ told (zbc at_ l).length (hs.map (·.d)) [] (zbc at_ l))):=by
  intro A1 n1 c1 hE1 hr1
  have hcr:=zpd at_ l;refine⟨by rw[List.append_nil];exact HFB.out.below hnew,hE1,heap_alloc_new w _,⟨rfl,.inl ⟨rfl,rfl⟩⟩,Fk.of_below hnew,zj4.refl _ _,by simp,fun _ _=>zj8 _,?_,by simp[Value.ownBlock],Nat.le_refl _,HOK.out.rest,by simp,by simp;omega,by rw[List.append_nil],by rw[List.append_nil];omega,HT.out.below hnew⟩;intro e
  have:=(HFB.out.nod.lt _ e).2;omega
 have hkeep:∀(A1:Option Addr) (n1 c1:Nat) (r:List Ent),Ents w B A1 n1 c1 r→Ents (w.alloc (.cells #[.bool (isFin at_ l),.int .i64 (outOf at_ told l),.slice none 0 0] 88)) B A1 n1 c1 r:=fun A1 n1 c1 r h=>h.keep (hnew.mono (Nat.le_trans hB (Nat.le_trans hfb.lp (Nat.le_of_lt hpl.1)))) (Nat.le_refl _)
 have hlr:(zbc at_ l).length≤65536:=by
  unfold zbc;split
  ·rw[List.length_tail];omega
  ·omega
 have HK:=Lib.hid hkeep;have HLL:=Lib.hid HL0;clear hfb hok ht ih hcell HL0 hnew hkeep;have q0:((e0.1.length:Int)==(at_:Int))=true:=by
  rw[hhl]at hfin;simp
  omega
 have hrest:zbc at_ l=l.drop 1:=by
  unfold zbc;rw[if_pos hfin];cases l<;>rfl
 have e1:isFin at_ l=true:=decide_eq_true hfin;have hho:zl0 l=e0.2:=by
  cases l with
  |nil=>simp at he0
  |cons x r=>simp at he0;rw[←he0];rfl
 have e2:outOf at_ told l=e0.2-told:=by
  unfold outOf;rw[if_pos hfin,hho]
 have heo:=HOK.out.out e0 (List.mem_of_getElem? he0);have ht0:=HOK.out.t0;have hnc:=hE.nc;have HS0:=HLL.out _ _ _ (by rw[hrest];exact HK.out _ _ _ _ (hE.drop (k:=1) hn)) hlr;rw[Option.map_some,Addr.add_lit,e1,e2,Nat.one_mul]at HS0;obtain⟨A1,hA1⟩:∃A1,(if c=1 then some (⟨b,off,none⟩:Addr)else some ⟨b,off+2,none⟩)=A1:=⟨_,rfl⟩;rw[hA1]at HS0;have hsl:∀w:World,(Instr.slice 22 (.slice (some ⟨b,off,none⟩) n c) (some (.int .i64 1)) none none).run Tryz.prog w=.ok (.slice A1 (n-1) (c-1)) w:=fun w=>by
  rw[←hA1];exact z71 b off n c (by omega) hnc w
 clear hA1;rw[e1,e2]at HFIN;have hob:zbd (e0.2-told):=by unfold zbd;omega
 clear hE HLL HK;generalize zgg (fun ds g m=>zc2 f ds g (at_+1) m) at_ told (zbc at_ l).length (hs.map (·.d)) [] (zbc at_ l)=res at*;generalize zbc at_ l=rl at*;obtain⟨t0,o0⟩:=e0;simp only at c0 c1 q0 heo hob HS0 HFIN;have hwo:IntKind.i64.wrap (o0-told)=o0-told:=IntWalk.i64_in _ (by omega);have s0:(1:Int)≤(n:Int):=by omega
 have s1:(n:Int)≤(c:Int):=by omega
 clear e1 e2 hho hrest hfin;go_enter Tryz.func36,Tryz.ntmps36
 go_wp2_with fail;go_region
 go_wp2_with fail;have HS0:=Lib.hid HS0.out.drew;generalize(w.alloc (.cells #[.bool true,.int .i64 (o0-told),.slice none 0 0] 88)).drew=W0 at*;obtain⟨fb,e1⟩:∃x,x=true:=⟨_,rfl⟩;obtain⟨ob,e2⟩:∃x:Int,x=o0-told:=⟨_,rfl⟩;rw[←e1,←e2]at HS0 HFIN;rw[←e2]at hob;clear e1 e2 q0 c0 c1 hwo heo ht0 s0 s1;go_loopw [1] (fun lv wr=>∃(A:Option Addr) (n c:Nat) (r:List Ent) (ws:List (Int×Int×Int)) (v':Value) (more:List Nh) (Aw:Option Addr) (cw:Nat),lv=.slice A n c∧Hid (LoopR f w wr p kb base B w.heap.size v v' hs more fb ob ws Aw cw r A n c at_ told res)) (fun lv _=>match lv with| .slice _ n _=>n|_=>0)
 case atStart=>exact⟨_,_,_,_,[],v,[],none,0,rfl,HS0⟩
 case round=>
  obtain⟨A1,n1,c1,r,ws,v1,more,Aw,cw,rfl,HR⟩:=hrel;by_cases hn1:0<n1
  ·have q1:decide (n1>0)=true:=by simpa using hn1
   have hrl:=HR.out.ents.len;have hncm:=HR.out.ents.cm;have hnc1:=HR.out.ents.nc;obtain⟨b1,off1,hA1,hb1,hcell1⟩:=HR.out.ents.at_ hn1;subst hA1;cases hrr:r with
   |nil=>rw[hrr]at hrl;simp at hrl;omega
   |
    cons e1 r1=>
    subst hrr;have hbw1:b1<wr.heap.size:=by
     obtain⟨x,_⟩:=hcell1 0 e1 rfl;exact(lt_of_cell x).1
    obtain⟨c0,c1'⟩:=hcell1 0 e1 rfl;rw[Nat.zero_mul,Nat.add_zero]at c0 c1';have hlong:=HR.out.okr.long;have hat1:=hlong e1 (List.mem_cons_self ..);have hgp:=zl2 at_ e1 r1;rw[hrl]at hgp;have HLG:=Lib.hid hlong;have HC1:=Lib.hid hcell1;have i0:(0:Int)≤(at_:Int):=by omega
    have i1:(at_:Int)<(e1.1.length:Int):=by omega
    obtain⟨t1,o1⟩:=e1;simp only at c0 c1' i1 hat1;clear hlong hcell1;go_wp2_with fail;go_loopw [10] (fun kv wq=>∃(k q:Nat),kv=.int .i64 k∧1≤k∧k≤grpN at_ ((t1,o1)::r1)∧wq=wr.drewN q) (fun kv _=>n1-(intOf kv).toNat)
    case atStart=>exact⟨1,0,rfl,Nat.le_refl _,hgp.1,rfl⟩
    case round=>
     obtain⟨k,q,rfl,hk1,hkg,rfl⟩:=hrel;by_cases hkl:k<grpN at_ ((t1,o1)::r1)
     ·obtain⟨x,hx,hbx⟩:=zGa hk1 hkl;obtain⟨d0,_⟩:=HC1.out k x hx;have hxl:=HLG.out x (List.mem_of_getElem? hx);have i2:(at_:Int)<(x.1.length:Int):=by omega
      have g1:decide ((k:Int)<(n1:Int))=true:=by simp;omega
      have j0:(0:Int)≤(k:Int):=by omega
      have j1:(k:Int)<(n1:Int):=by omega
      obtain⟨t2,o2⟩:=x;simp only at d0 i2 hbx;have hz2:=zfi t2 at_ (by rw[size_mk];omega);have hz1:=zfi t1 at_ (by rw[size_mk];omega);rw[hbx]at hz2;generalize hzz:byteAt t1 at_=z1 at*;have zz:(z1==z1)=true:=by simp
      go_wp2_with fail;go_quiet (fail)
      go_wp2_with fail;go_roundw;case rel=>exact⟨k+1,q+nq,by go_num,by omega,by omega,by first|rfl|exact World.drewN_drewN _ _ _⟩
      case measure=>simp[intOf];omega
     ·obtain rfl:k=grpN at_ ((t1,o1)::r1):=by omega
      generalize hgk:grpN at_ ((t1,o1)::r1)=k at*;have hout:(decide ((k:Int)<(n1:Int))=false)∨(decide ((k:Int)<(n1:Int))=true∧∃(t2:List UInt8) (o2:Int),((t1,o1)::r1)[k]? =some (t2,o2)∧byteAt t2 at_≠byteAt t1 at_):=by
       by_cases hkn:k<n1
       ·have hh:=zy6 (at_:=at_) (e:=(t1,o1)) (r:=r1) (by rw[hgk,hrl];exact hkn);rw[hgk]at hh;obtain⟨⟨t2,o2⟩,hx,hne⟩:=hh;exact .inr ⟨by simp;omega,t2,o2,hx,hne⟩
       ·exact .inl (by simp;omega)
      have HOUT:=Lib.hid hout;clear hout;have HRK:=Lib.hid (HR.out.ents.take (k:=k) (by omega));have hz1:=zfi t1 at_ (by rw[size_mk];omega);obtain⟨z1,hzz⟩:∃z,byteAt t1 at_=z:=⟨_,rfl⟩;rw[hzz]at hz1;have HZZ:=Lib.hid hzz;clear hzz;have hk0:0<k:=by omega
      have hkn:k≤n1:=by omega
      rcases HOUT.out with g1|⟨g1,t2,o2,hx,hne⟩
      have g1':decide (k<n1)=false:=by simp at g1;simp;omega
      go_wp2_with fail;go_quiet (fail)
      go_wp2_with fail;rotate_left
      obtain⟨d0,_⟩:=HC1.out k _ hx;have hxl:=HLG.out _ (List.mem_of_getElem? hx);simp only at d0 hxl;have i2:(at_:Int)<(t2.length:Int):=by omega
      have j0:(0:Int)≤(k:Int):=by omega
      have j1:(k:Int)<(n1:Int):=by simpa using g1
      have hz2:=zfi t2 at_ (by rw[size_mk];omega);rw[HZZ.out]at hne;generalize byteAt t2 at_=z2 at*;have zz:(z2==z1)=false:=by simpa using hne
      go_wp2_with fail;go_quiet (fail)
      go_wp2_with fail;rotate_left
      all_goals
       try(have e:=World.drewN_drewN wr q nq;rw[e];clear e)
       generalize q+nq=q2;clear hkl;refine(zog (wr.drewN q2) B (by have:=HR.out.fb.lp;have:=HR.out.fb.lt.1;show B≤wr.heap.size;omega) _ k c1 _ (HRK.out.drewN q2) hk0).mono ?_;rintro e wl ⟨rfl,hbl⟩;have HBL:Hid (Below wr.heap.size wr wl):=(below_drewN (za0 wr) q2).trans hbl;clear hbl
      all_goals
       have hbs:base≤wr.heap.size:=Nat.le_trans HR.out.fb.lp (Nat.le_of_lt HR.out.fb.lt.1);have h9r:=(Array.getElem?_eq_some_iff.1 HR.out.loc).1;have hlocl:=(HBL.out.block _ h9r).trans HR.out.loc;have kl2:=cell_of_row wl _ 2 _ _ (0,0) hlocl;simp at kl2
       have cl0:=(HBL.out.cell (p:=⟨b1,off1,none⟩) hbw1).trans c0;have HC0:=Lib.hid cl0;have hfbl:=HR.out.fb.below HBL.out;have h9p:w.heap.size≠p:=by omega
       have h9k:w.heap.size≠kb:=by omega
       have hwayl:=za2 HR.out.way HBL.out;have HNE9:Hid (some w.heap.size≠(Value.slice Aw ws.length cw).ownBlock):=fun e=>by
        rcases za5 hwayl hlocl (by decide)with h|h
        ·rw[h]at e;cases e
        ·exact h e.symm
       have hbw0:base≤w.heap.size:=Nat.le_trans HFB.out.lp (Nat.le_of_lt hpl.1);have HSET:Hid (∀(W:World) (u:Value),W.cell? ⟨b1,off1,none⟩=some (.string ⟨t1.toArray⟩)→(W.setCell ⟨w.heap.size,2,none⟩ u).cell? ⟨b1,off1,none⟩=some (.string ⟨t1.toArray⟩)):=fun W u h=>by
        have hne:b1≠w.heap.size:=by
         have:=HR.out.n9;omega
        exact(World.cell?_of_block (a:=⟨b1,off1,none⟩) (Below.heap_setCell _ _ _ _ hne)).trans h
       have HNB1:Hid (some b1≠(Value.slice Aw ws.length cw).ownBlock):=fun e=>by
        have h1:=HR.out.wnew _ e.symm;omega
       have HAFTER:Hid (∀W1 Wc:World,Below wl.heap.size wl W1→Fk p kb v1 W1 Wc→Wc.heap[w.heap.size]? =some (.cells #[.bool fb,.int .i64 ob,.slice Aw ws.length cw] 88 (0,0))∧Wc.cell? ⟨b1,off1,none⟩=some (.string ⟨t1.toArray⟩)∧Wc.ownsRow base 107 3 (.slice Aw ws.length cw) ws.length (waysC ws)∧base≤Wc.heap.size):=by
        intro W1 Wc hb1 hfk
        have hl1:wl.heap.size≤W1.heap.size:=hb1.size;have h9l:=(Array.getElem?_eq_some_iff.1 hlocl).1;have hfb1:=hfbl.below hb1;refine⟨(hfk.block _ (Nat.lt_of_lt_of_le h9l hl1) h9p h9k HR.out.ap9).trans ((hb1.block _ h9l).trans hlocl),?_,?_,Nat.le_trans (Nat.le_trans hfb1.lp (Nat.le_of_lt hfb1.lt.1)) hfk.size⟩
        ·refine((hfk.below hfb1 (Nat.le_trans hfb1.lp (Nat.le_of_lt hfb1.lt.1))).cell (p:=⟨b1,off1,none⟩) (by show b1<base;omega)).trans ?_;exact(hb1.cell (p:=⟨b1,off1,none⟩) (Nat.lt_of_lt_of_le hbw1 HBL.out.size)).trans HC0.out
        ·have hw1:=za2 hwayl hb1;obtain⟨nm,N,hm,_⟩:=hfb1.kno;refine hfk.row hw1 ?_ ?_ (za4 hfb1.nod hw1 (by decide))
         ·rcases za5 hw1 hfb1.blk (by decide)with h|h
          ·rw[h];simp
          ·exact h
         ·rcases zbb hw1 hm with h|h
          ·rw[h];simp
          ·exact h
       have HOKG:=HR.out.okr.group;rw[hgk]at HOKG;have HCALL:Hid (∀W1:World,Below wl.heap.size wl W1→Calls Tryz.prog 36 #[.pointer (some ⟨p,0,none⟩),.slice (some ⟨b1,off1,none⟩) k c1,.int .i64 ((at_:Int)+1),.int .i64 (zae (((t1,o1)::r1).take k))] W1 (zd7 f W1 p kb base v1 (hs++more) (((t1,o1)::r1).take k) (at_+1) (zae (((t1,o1)::r1).take k)))):=by
        intro W1 hb1
        have hcost:=zl6 (l:=((t1,o1)::r1).take k) fun x hx=>HLG.out x (List.mem_of_mem_take hx)
        have hcost2:cost at_ ((t1,o1)::r1)=cost at_ (((t1,o1)::r1).take k)+cost at_ (((t1,o1)::r1).drop k):=by rw[←zh4,List.take_append_drop]
        have hlt:(((t1,o1)::r1).take k).length=k:=by rw[List.length_take,hrl];omega
        have hcp:=HR.out.cap;have hll:=HR.out.len;refine HIH.out W1 v1 (hs++more) _ _ _ _ _ (hfbl.below hb1) (HRK.out.keep ((HBL.out.mono (Nat.le_trans hB hbs)).trans (hb1.mono (Nat.le_trans (Nat.le_trans hB hbs) HBL.out.size))) (Nat.le_refl _)) HOKG (by omega) (by omega) ((HR.out.tab.below HBL.out).below hb1)
       have hmlo:told≤zae (((t1,o1)::r1).take k):=zhg HOKG.ne fun x hx=>(HR.out.okr.out x (List.mem_of_mem_take hx)).1
       have hmhi:zae (((t1,o1)::r1).take k)≤9223372036854775807:=by
        have hmem:(t1,o1)∈((t1,o1)::r1).take k:=by
         obtain⟨j,rfl⟩:∃j,k=j+1:=⟨k-1,by omega⟩;rw[List.take_succ_cons];exact List.mem_cons_self ..
        exact Int.le_trans (zga hmem) (HR.out.okr.out _ (List.mem_cons_self ..)).2
       have ht0:=HR.out.okr.t0;have HL:=Lib.hid hlocl;obtain⟨m,hmm⟩:∃m,zae (((t1,o1)::r1).take k)=m:=⟨_,rfl⟩;rw[hmm]at HCALL hmlo hmhi;have HMM:=Lib.hid hmm;simp only[hmm];have s1:(0:Int)≤(k:Int):=by omega
       have s2:(k:Int)≤(c1:Int):=by omega
       have s3:(k:Int)≤(n1:Int):=by omega
       have hw1:IntKind.i64.wrap ((at_:Int)+1)=(at_:Int)+1:=IntWalk.i64_in _ (by omega);have hw3:IntKind.i64.wrap z1=z1:=IntWalk.i64_in _ (by have:=zpk t1 at_;rw[HZZ.out]at this;omega);have hw2:IntKind.i64.wrap (m-told)=m-told:=IntWalk.i64_in _ (by omega);clear hmm HOKG hlocl hwayl hfbl;go_wp2_with fail
      all_goals
       go_region_law (first
        |(
          refine zc4 (base:=base) _ #[.int .i64 z1,.int .i64 (m-told),.int .i64 (ii:Nat)] ?gd (.tmp 63) (.tmp 83) 86 ?ho z24 (.slice Aw ws.length cw) ws.length (waysC ws) ?hs ?own (nb:=wc.heap.size) (m:=1) ?hx ?hxc ?hl ?h1 ?hm ?h63 ?hby ?hba ?_;case gd=>rfl
          case ho=>rfl
          case hs=>rfl
          case own=>exact za2 HWC.out (by repeat(first|exact za0 _|refine Below.drew ?_|refine bnew ?_ _))
          case hx=>rfl
          case hxc=>first|exact heap_alloc_new _ _|(simp;done)
          case hl=>rfl
          case h1=>simp[Value.oneCell']
          case hm=>omega
          case h63=>unfold maxLen;have:=HR.out.len;omega
          case hby=>have:=HR.out.len;omega
          case hba=>exact Nat.le_trans hbc (Below.size (B:=wc.heap.size) (by repeat(first|exact za0 _|refine Below.drew ?_|refine bnew ?_ _)))
          intro g cap w4 hown4 hg4 hgm
          have HG4:=Lib.hid hg4;have HGM:=Lib.hid hgm;have HO4:=Lib.hid hown4;have HG4W:=Lib.hid (grown_through (a:=wc) (by repeat(first|exact za0 _|refine Below.drew ?_|refine bnew ?_ _)) hg4);have hb4:w4.heap[w.heap.size]? =some (.cells #[.bool fb,.int .i64 ob,.slice Aw ws.length cw] 88 (0,0)):=((grown_through (a:=wc) (by repeat(first|exact za0 _|refine Below.drew ?_|refine bnew ?_ _)) hg4).block _ (Array.getElem?_eq_some_iff.1 HLC.out).1 HNE9.out).trans HLC.out;have f2:=cell_of_row w4 _ 2 _ _ (0,0) hb4;have fz:w4.frozen? ⟨w.heap.size,2,none⟩=false:=by simp[World.frozen?,hb4]
          simp at f2
          clear hb4 hg4 hgm hown4)
        |(
          go_simp
          go_at_call 36
          refine(HCALL.out _ ?hb).mono ?_;case hb=>first|exact za0 _|exact(za0 _).drew|exact(za0 _).drew.drew|exact(za0 _).drew.drew.drew
          rintro e wc ⟨v2,new2,rfl,hfb2,hmap2,hfk2,hmv2,hnew2,htab2⟩;obtain⟨hlc,hcc,hwc,hbc⟩:=HAFTER.out _ _ (by first|exact za0 _|exact(za0 _).drew|exact(za0 _).drew.drew|exact(za0 _).drew.drew.drew) hfk2;have hlt9:=(Array.getElem?_eq_some_iff.1 hlc).1;have hltb:=(lt_of_cell hcc).1;simp only at hltb;have HLC:=Lib.hid hlc;have HWC:=Lib.hid hwc;have kc2:=cell_of_row wc _ 2 _ _ (0,0) hlc;simp at kc2
          have HP2:=Lib.hid (And.intro hfb2 (And.intro hmap2 (And.intro hfk2 (And.intro hmv2 hnew2))));clear hlc hwc hfb2 hmap2 hfk2 hmv2 hnew2 htab2;obtain⟨ii,hii⟩:∃i,(zc2 f ((hs++more).map (·.d)) (((t1,o1)::r1).take k) (at_+1) m).1=i:=⟨_,rfl⟩;have HII:=Lib.hid hii;rw[hii];clear hii))
      all_goals
       go_wp2_with fail;have eA:(if c1=k then some (⟨b1,off1,none⟩:Addr)else some ⟨b1,off1+k*2,none⟩)=(if c1=k then some ⟨b1,off1,none⟩else(some (⟨b1,off1,none⟩:Addr)).map (·.add (k*2))):=by
        rw[Option.map_some,Addr.add_lit]
       have hown':=HO4.out;rw[←HZZ.out,←HMM.out]at hown';have hmap':=HP2.out.2.1;have hii':=HII.out;rw[←HMM.out]at hmap' hii';refine⟨⟨_,_,_,((t1,o1)::r1).drop k,ws++[(byteAt t1 at_,zae (((t1,o1)::r1).take k)-told,(ii:Int))],v2,more++new2,some ⟨g,0,none⟩,cap,rfl,Lib.hid ?_⟩,?_⟩
       ·first
         |rw[eA]
         |(
           have hck:¬c1=k:=by omega
           rw[if_neg hck]at eA;rw[eA])
        exact LoopR.next HR.out hB hpl htb hgk hkn hk0 (za9 HBL.out (by first|exact za0 _|exact(za0 _).drew|exact(za0 _).drew.drew|exact(za0 _).drew.drew.drew)) HP2.out.1 hmap' HP2.out.2.2.1 HP2.out.2.2.2.1 HP2.out.2.2.2.2 (by repeat(first|exact za0 _|refine Below.drew ?_|refine bnew ?_ _)) hii' HG4.out HGM.out hown'
       ·show n1-k<n1;omega
  ·obtain rfl:n1=0:=by omega
   have q1:decide ((0:Nat)>0)=false:=by simp
   have hr0:r=[]:=List.eq_nil_of_length_eq_zero HR.out.ents.len;subst hr0;have hres:(((hs++more).map (·.d)),ws)=res:=HR.out.eq;have HN:=Lib.hid (HFIN.out);have hnd:NdOk ⟨fb,ob,ws⟩:=⟨hob,HR.out.wsok,by have:=HR.out.len;simpa using this⟩;obtain⟨d,hd⟩:∃d:Nd,⟨fb,ob,ws⟩=d:=⟨_,rfl⟩;have hdf:d.fin=fb:=by rw[←hd]
   have hdo:d.out=ob:=by rw[←hd]
   have hdw:d.ways=ws:=by rw[←hd]
   rw[hd]at hnd;have k0:=cell_of_row wr _ 0 _ _ (0,0) HR.out.loc;have k1:=cell_of_row wr _ 1 _ _ (0,0) HR.out.loc;have k2:=cell_of_row wr _ 2 _ _ (0,0) HR.out.loc;simp at k0 k1 k2
   have HSG:=Lib.hid (zzf wr d Aw ws.length cw (by rw[hdw];exact Sl.of_own HR.out.way) (by rw[hdw]) (by have:=HR.out.len;omega) (fun x hx=>zt2 (hnd.ways x hx)) (zd9 hnd.out) HR.out.tab);rw[hdf,hdo]at HSG;have hsl:=z6h hnd;go_wp2_with fail;refine HSG.out.mono ?_;rintro e w2 ⟨rfl,hb2⟩;have HF2:=Lib.hid (HR.out.fb.below hb2);have j0:=cell_of_row w2 _ 0 _ _ (0,0) HF2.out.blk;have j1:=cell_of_row w2 _ 1 _ _ (0,0) HF2.out.blk;simp at j0 j1
   obtain⟨nm,N,hm,hnm,hkn⟩:=HF2.out.kno;have hlook:=zjd hm (sgn d) (by unfold maxLen;omega);have hix:=hkn.2 (sgn d);have hmm:(hs++more).map (fun h=>sgn h.d)=((hs++more).map (·.d)).map sgn:=by rw[List.map_map];rfl
   have hnf:zc2 (f+1) (hs.map (·.d)) l at_ told=addN ((hs++more).map (·.d)) d:=by
    have:=HN.out _ hres.symm;rw[this,hd]
   cases hi:idx ((hs++more).map (fun h=>sgn h.d)) (sgn d)with
   |
    some i=>
    rw[hi]at hix;rw[hix.1,hix.2]at hlook;have hadd:addN ((hs++more).map (·.d)) d=(i,(hs++more).map (·.d)):=by
     unfold addN;rw[←hmm,hi]
    have HPOST:Hid (zd7 (f+1) w p kb base v hs l at_ told (.returned (.int .i64 (i:Nat))) w2):=
     ⟨v1,more,by rw[hnf,hadd],HF2.out,by rw[hnf,hadd],HR.out.fk.trans (Fk.of_below hb2) HR.out.mv,HR.out.mv,HR.out.new,HR.out.tab.below hb2⟩
    clear hi hix hm hnm hkn hmm hnf hadd hd hdf hdo hdw hnd HSG HN hres;generalize(⟨(sgn d).toArray⟩:ByteArray)=K at*;go_wp2_with fail;go_ret;exact HPOST.out
   |
    none=>
    rw[hi]at hix;rw[hix]at hlook;have hadd:addN ((hs++more).map (·.d)) d=(((hs++more).map (·.d)).length,(hs++more).map (·.d)++[d]):=by
     unfold addN;rw[←hmm,hi]
    have hcp:=HR.out.cap;obtain⟨Av,cv,hv1,hvc⟩:=za1 HF2.out.nod;subst hv1;have hlnm:((hs++more).map (·.d)).length=(hs++more).length:=List.length_map _;have HNH:Hid (zc2 (f+1) (hs.map (·.d)) l at_ told=((hs++more).length,(hs++more).map (·.d)++[d])):=by
     show _=_;rw[hnf,hadd,hlnm]
    have HKN:=Lib.hid hkn;have HM:=Lib.hid hm;obtain⟨K,hK⟩:∃K:ByteArray,⟨(sgn d).toArray⟩=K:=⟨_,rfl⟩;have hKd:K.data.toList=sgn d:=by rw[←hK]
    have hKz:K.size≤maxLen:=by rw[←hK,size_mk];unfold maxLen;omega
    unfold CAP at hcp;generalize hln:(hs++more).length=ln at*;obtain⟨w3,run3,ho3,ht3⟩:=World.ownsMap.store (w:=w2) hm lawS Tryz.underlying66 (by unfold maxLen;omega) (key:=.string K) (val:=.int .i64 (ln:Nat)) (Go.WideMaps.keyOf_string_mk Tryz.underlying9 hKz) (plainElem_int Tryz.underlying3 (WalkArith.wf_i64 (by omega)));rw[hK]at hlook⊢;have HO3:=Lib.hid ho3;have HG3:=Lib.hid ht3.grown;have HI:=Lib.hid hi;have HNM:=Lib.hid hnm;have hpk:=HF2.out.ne;have hblk2:=HF2.out.blk;have hlt2:=HF2.out.lt;have hl9:=(Array.getElem?_eq_some_iff.1 HR.out.loc).1;have h9k:w.heap.size≠kb:=by omega
    have h9p:w.heap.size≠p:=by omega
    have hg3:=ht3.grown;have hloc3:w3.heap[w.heap.size]? =some (.cells #[.bool fb,.int .i64 ob,.slice Aw ws.length cw] 88 (0,0)):=
     (hg3.block _ (Nat.lt_of_lt_of_le hl9 hb2.size) (by simpa using h9k)).trans ((hb2.block _ hl9).trans HR.out.loc)
    have hblk3:w3.heap[p]? =some (.cells #[.slice Av ln cv,.map (some kb)] 83 (0,0)):=(hg3.block p hlt2.1 (by simpa using hpk)).trans hblk2;have hnod3:w3.ownsRow base 88 3 (.slice Av ln cv) ln ((hs++more).flatMap Nh.hdr):=by
     have:=HF2.out.nod;rw[hln]at this;exact this.kept hg3 (zbb this hm)
    have hway3:∀h∈hs++more,w3.ownsRow base 107 3 h.row h.d.ways.length (waysC h.d.ways):=fun h hh=>(HF2.out.way h hh).kept hg3 (zbb (HF2.out.way h hh) hm)
    have hws3:w3.ownsRow base 107 3 (.slice Aw ws.length cw) ws.length (waysC ws):=by
     have:=za2 HR.out.way hb2;exact this.kept hg3 (zbb this hm)
    have g0:=cell_of_row w3 _ 0 _ _ (0,0) hloc3;have g1:=cell_of_row w3 _ 1 _ _ (0,0) hloc3;have g2:=cell_of_row w3 _ 2 _ _ (0,0) hloc3;have r0:=cell_of_row w3 _ 0 _ _ (0,0) hblk3;simp at g0 g1 g2 r0
    have HB3:=Lib.hid hblk3;have HL3:=Lib.hid hloc3;have HND3:=Lib.hid hnod3;have HWY3:=Lib.hid hway3;have HWS3:=Lib.hid hws3;clear hi hix hm hnm hkn hmm hnf hadd hres ho3 ht3 hg3 hblk3 hloc3 hnod3 hway3 hws3 hblk2;have HP3:=Lib.hid (Array.getElem?_eq_some_iff.1 HB3.out).1;have HNE:Hid (some p≠(Value.slice Av ln cv).ownBlock):=fun e=>by
     rcases za5 HND3.out HB3.out (by decide)with h|h
     ·rw[h]at e;cases e
     ·exact h e.symm
    go_wp2_with fail;have hp3:=HP3.out;have hbs3:base≤w3.heap.size:=Nat.le_trans (Nat.le_trans HF2.out.lp (Nat.le_of_lt hlt2.1)) HG3.out.size;go_region_law (
     refine zc4 (base:=base) _ #[.bool fb,.int .i64 ob,.slice Aw ws.length cw] ?gd (.tmp 117) (.tmp 119) 81 ?ho zyf (.slice Av ln cv) ln ((hs++more).flatMap Nh.hdr) ?hs ?own (nb:=w3.heap.size) (m:=1) ?hx ?hxc ?hl ?h1 ?hm ?h63 ?hby ?hba ?_;case gd=>rfl
     case ho=>rfl
     case hs=>rfl
     case own=>exact za2 HND3.out (by repeat(first|exact za0 _|refine Below.drew ?_|refine bnew ?_ _))
     case hx=>rfl
     case hxc=>first|exact heap_alloc_new _ _|(simp;done)
     case hl=>rfl
     case h1=>simp[Value.oneCell']
     case hm=>omega
     case h63=>unfold maxLen;omega
     case hby=>omega
     case hba=>exact Nat.le_trans hbs3 (Below.size (B:=w3.heap.size) (by repeat(first|exact za0 _|refine Below.drew ?_|refine bnew ?_ _)))
     intro g cap w4 hown4 hg4 hgm
     have HG4:=Lib.hid (grown_through (a:=w3) (by repeat(first|exact za0 _|refine Below.drew ?_|refine bnew ?_ _)) hg4);have hb4:w4.heap[p]? =some (.cells #[.slice Av ln cv,.map (some kb)] 83 (0,0)):=(HG4.out.block p HP3.out HNE.out).trans HB3.out;have f0:=cell_of_row w4 p 0 _ _ (0,0) hb4;have fz:w4.frozen? ⟨p,0,none⟩=false:=by simp[World.frozen?,hb4]
     simp at f0
     clear hb4)
    all_goals
     have HPOST:Hid (zd7 (f+1) w p kb base v hs l at_ told (.returned (.int .i64 (ln:Nat))) (w4.setCell ⟨p,0,none⟩ (.slice (some ⟨g,0,none⟩) (ln+1) cap))):=by
      have hkn2:=HKN.out.snoc HI.out;rw[List.length_map,hln]at hkn2;have ho3:=HO3.out;rw[hKd]at ho3;have hmv1:zj4 w3 (.slice Av ln cv) (.slice (some ⟨g,0,none⟩) (ln+1) cap):=by
       rcases hgm with h|h
       ·exact .inl h.symm
       ·exact .inr ⟨g,rfl,Nat.le_trans (Below.size (B:=w3.heap.size) (by repeat(first|exact za0 _|refine Below.drew ?_|refine bnew ?_ _))) h⟩
      have hfk2:=HR.out.fk.trans (Fk.of_below hb2) HR.out.mv;have hs2:=hfk2.size;have hfk3:=hfk2.trans (Fk.of_grown (p:=p) (kb:=kb) (v:=.slice Av ln cv) HG3.out (.inr (.inr (.inl rfl)))) HR.out.mv;have hfk4:=hfk3.trans (Fk.of_grown (p:=p) (kb:=kb) (v:=.slice Av ln cv) HG4.out (.inr (.inr (.inr rfl)))) HR.out.mv;have hs3:=hfk3.size;have hmv2:=HR.out.mv.trans hmv1 hs3;have hfk5:=hfk4.trans (Fk.of_grown (p:=p) (kb:=kb) (v:=.slice (some ⟨g,0,none⟩) (ln+1) cap) (za7 w4 ⟨p,0,none⟩ (.slice (some ⟨g,0,none⟩) (ln+1) cap)) (.inr (.inl rfl))) hmv2;have hpush:=z9b (hs:=hs++more) (hn:=⟨d,Aw,cw⟩) (v5:=.slice (some ⟨g,0,none⟩) (ln+1) cap) HB3.out (by rw[hln];exact HND3.out) HWY3.out (by show w3.ownsRow base 107 3 (.slice Aw d.ways.length cw) d.ways.length (waysC d.ways);rw[hdw];exact HWS3.out) ho3 (by rw[hln];have:=HNM.out;omega) (by rw[List.map_append];exact hkn2) HF2.out.ok hnd HF2.out.lp HF2.out.lk hpk HG4.out (by
       rw[hln];have e:Nh.hdr ⟨d,Aw,cw⟩=[.bool fb,.int .i64 ob,.slice Aw ws.length cw]:=by rw[←hd];rfl
       rw[e];exact hown4)
      rw[List.append_assoc]at hpush;refine⟨_,more++[⟨d,Aw,cw⟩],by rw[HNH.out],hpush,?_,hfk5,hmv2,?_,?_⟩
      ·rw[HNH.out,←List.append_assoc,List.map_append];rfl
      ·intro h hh g' hg'
       rcases List.mem_append.1 hh with hh|hh
       ·exact HR.out.new h hh g' hg'
       ·rw[List.mem_singleton]at hh;subst hh;have e:Nh.row ⟨d,Aw,cw⟩=.slice Aw ws.length cw:=by unfold Nh.row;rw[hdw]
        rw[e]at hg';exact HR.out.wnew g' hg'
      ·exact HT.out.keep htb (hfk5.below HFB.out (Nat.le_trans HFB.out.lp (Nat.le_of_lt hpl.1)))
     go_wp2_with fail;go_ret;exact HPOST.out
end F
namespace F
open Go.RowKit Go.Maps
theorem Okl.at_le{at_:Nat}{told:Int}{l:List Ent}(h:Okl at_ told l):at_≤64:=by
 obtain⟨p,hp,hq⟩:=h.pre;cases hl:l with
 |nil=>exact absurd hl h.ne
 |
  cons e r=>
  have he:e∈l:=by rw[hl];exact List.mem_cons_self ..
  obtain⟨q,e1⟩:=hq e he;have h64:=h.len e he;rw[e1,List.length_append]at h64;omega
theorem z0g(p kb base B:Nat)(hB:B≤base)(htb:0<base):∀(f at_:Nat),65≤at_+f→∀(w:World) (v:Value) (hs:List Nh) (l:List Ent) (A:Option Addr) (n c:Nat) (told:Int),FbAt w p kb base v hs→Ents w B A n c l→Okl at_ told l→l.length≤65536→hs.length+1+cost at_ l≤CAP→Tab w→
  Calls Tryz.prog 36 #[.pointer (some ⟨p,0,none⟩),.slice A n c,.int .i64 (at_:Int),.int .i64 told] w (zd7 f w p kb base v hs l at_ told)
 |0,at_,hf,w,v,hs,l,A,n,c,told,hfb,hE,hok,hl,hcap,ht=>absurd hok.at_le (by omega)
 |
  f+1,at_,hf,w,v,hs,l,A,n,c,told,hfb,hE,hok,hl,hcap,ht=>by
  have ih:∀(W:World) (v:Value) (hs:List Nh) (g:List Ent) (A:Option Addr) (n c:Nat) (m:Int),FbAt W p kb base v hs→Ents W B A n c g→Okl (at_+1) m g→g.length≤65536→hs.length+1+cost (at_+1) g≤CAP→Tab W→Calls Tryz.prog 36 #[.pointer (some ⟨p,0,none⟩),.slice A n c,.int .i64 ((at_:Int)+1),.int .i64 m] W (zd7 f W p kb base v hs g (at_+1) m):=by
   intro W v hs g A n c m h1 h2 h3 h4 h5 h6
   have:=z0g p kb base B hB htb f (at_+1) (by omega) W v hs g A n c m h1 h2 h3 h4 h5 h6;rwa[show((at_+1:Nat):Int)=(at_:Int)+1 by omega]at this
  by_cases hfin:zj3 l=at_
  ·exact zCi f w p kb base B v hs l A n c at_ told hfb hE hB hok hok.at_le hl hcap ht htb ih hfin
  ·exact z43 f w p kb base B v hs l A n c at_ told hfb hE hB hok hok.at_le hl hcap ht htb ih hfin
end F
end Go.Proofs.YtaociahafamncaaGreatDoor
