/- Folded. -/
import Derived.Test.YtaociahafamncaaGreatDoorHM24
set_option maxRecDepth 100000
set_option maxHeartbeats 40000000
namespace Go.Proofs.YtaociahafamncaaGreatDoor
section
open Go.RowKit
theorem alive_any(w:World)(B:Nat)(hB:B≤w.heap.size)(A:Option Addr)(n c:Nat)(H:List Sh)(h:StsIn w B A n c H)(hn:0<n)(hgood:Good (H.map (·.d))):
  Calls Tryz.prog 54 #[.slice A n c] w fun e w'=>∃(Ao:Option Addr) (co:Nat) (L:List Bool),e=.returned (.slice Ao n co)∧w'.ownsRow w.heap.size 4 1 (.slice Ao n co) n (L.map .bool)∧L.length=n∧(∀(x:Nat) b,L[x]? =some b→(b=true↔(auOf (H.map (·.d))).live x))∧Below w.heap.size w w':=by
 have HS:=Lib.hid h;have hdl:(H.map (·.d)).length=n:=by rw[List.length_map];exact h.len
 have hn2:n≤20000:=by rw[←hdl];exact hgood.few
 have HG:=Lib.hid hgood;obtain⟨d,hd⟩:∃d,H.map (·.d)=d:=⟨_,rfl⟩;have HD:=Lib.hid hd;rw[hd]at hdl HG;rw[hd];have HDL:=Lib.hid hdl;have hlen:=h.len;clear h hgood hd hdl;have i0:(0:Int)≤(n:Int):=by omega
 have m1:=fun w=>z8b n (by omega) w
 have m2:=fun w=>zob n (by omega) w
 go_enter Tryz.func54,Tryz.ntmps54
 go_wp2_with fail;clear m1 m2;have HST:=Lib.hid (AlR.start w n (by omega) rfl);have HBP:=Lib.hid (BackP.start d);have HTP:=Lib.hid (TodoP.start d);rw[HDL.out]at HBP HTP;go_loopw [4,6,22] (fun tv xv iv wr=>∃(k:Nat) (F:List Rw) (L:List Bool) (Ta:Option Addr) (tc:Nat) (T:List Int) (p:Nat),k≤n∧iv=.int .i64 k∧tv=.slice Ta p tc∧Hid (p=T.length∧AlR w wr n w.heap.size (w.heap.size+1+1) F L ⟨Ta,tc,T⟩)∧Hid (BackP d k 0 (F.map (·.l)))∧Hid (TodoP d k L T (fun _ _=>False)∧∀x,k≤x→x<n→L[x]? =some false)) (fun _ _ iv _=>n-(intOf iv).toNat)
 case atStart=>exact⟨0,_,_,_,_,_,_,Nat.zero_le _,rfl,rfl,⟨rfl,HST.out⟩,by rw[List.map_replicate];exact HBP,HTP.out,fun x _ h=>by rw[List.getElem?_replicate,if_pos h]⟩
 case round=>
  clear HST HBP HTP;obtain⟨k,F,L,Ta,tc,T,p,hk,rfl,rfl,HR,HP,HT⟩:=hrel;by_cases hlt:k<n
  ·have HW:=Lib.hid (HS.out.keep (HR.out.2.bel.mono hB) (Nat.le_refl _));obtain⟨x,hx⟩:∃x,H[k]? =some x:=⟨H[k]'(by omega),List.getElem?_eq_getElem _⟩;obtain⟨b,off,rfl,hb,hcell⟩:=HW.out.at_ (by omega);obtain⟨k0,k1⟩:=hcell k x hx;have hxm:=List.mem_of_getElem? hx;obtain⟨m,hm⟩:∃m,x.d.2.length=m:=⟨_,rfl⟩;obtain⟨fin,hfin⟩:∃f,x.d.1=f:=⟨_,rfl⟩;have hm47:=(HS.out.ar x hxm).2.2;have hmc:=(HS.out.ar x hxm).2.1;have hdk:d[k]? =some x.d:=by rw[←HD.out,List.getElem?_map,hx];rfl
   have hm256:m≤256:=by rw[←hm];exact asc_few (HG.out.asc _ (List.mem_of_getElem? hdk))
   rw[hm]at k1 hm47 hmc;rw[hfin]at k0;have HM:=Lib.hid hm;have HXM:=Lib.hid hxm;have HDK:=Lib.hid hdk;have HF:=Lib.hid hfin;have i2:(0:Int)≤(k:Int):=by omega
   have i3:(k:Int)<(n:Int):=by omega
   have hbw:b<wr.heap.size:=Nat.lt_of_lt_of_le hb (Nat.le_trans hB HR.out.2.bel.size);clear hx hxm hcell hm hfin hdk;go_wp2_with fail;have HR0:=Lib.hid (HR.out.2.keep (bnew (za0 wr) (.cells #[.bool fin,.slice x.A m x.c] 74)));have HC0:=Lib.hid (heap_alloc_new wr (.cells #[.bool fin,.slice x.A m x.c] 74));have HP0:=Lib.hid HR.out.1;clear hbw k0 k1 HW HR;generalize wr.heap.size=pw at*;generalize wr.alloc (.cells #[.bool fin,.slice x.A m x.c] 74)=W0 at*;go_loopw [30] (fun jv wj=>∃(j:Nat) (F:List Rw),j≤m∧jv=.int .i64 j∧Hid (AlR w wj n w.heap.size (w.heap.size+1+1) F L ⟨Ta,tc,T⟩)∧Hid (wj.heap[pw]? =some (.cells #[.bool fin,.slice x.A m x.c] 74 (0,0)))∧Hid (BackP d k j (F.map (·.l)))) (fun jv _=>m-(intOf jv).toNat)
   case atStart=>exact⟨0,F,Nat.zero_le _,rfl,HR0,HC0,HP⟩
   case round=>
    clear HR0 HC0 HP;clear F;obtain⟨j,F,hj,rfl,HR,HC,HP⟩:=hrel;by_cases hjm:j<m
    ·have HWJ:=Lib.hid (HS.out.keep (HR.out.bel.mono hB) (Nat.le_refl _));obtain⟨ab,aoff,hxA,hab,hac⟩:=HWJ.out.arc HXM.out (by rw[HM.out];omega);obtain⟨a,ha⟩:∃a,x.d.2[j]? =some a:=⟨x.d.2[j]'(by rw[HM.out];exact hjm),List.getElem?_eq_getElem _⟩;obtain⟨a0,a1,a2⟩:=hac j a ha;have habw:ab<wr.heap.size:=Nat.lt_of_lt_of_le hab (Nat.le_trans hB HR.out.bel.size);have hat:=HG.out.to_ x.d (List.mem_of_getElem? HDK.out) a (List.mem_of_getElem? ha);rw[HDL.out]at hat
     have HA:=Lib.hid ha;obtain⟨lo,hi,tt⟩:=a;simp only at a0 a1 a2 hat
     obtain⟨t,rfl⟩:=Int.eq_ofNat_of_zero_le hat.1;have htn:t<n:=by omega
     obtain⟨f,hf⟩:∃f,F[t]? =some f:=⟨F[t]'(by rw[HR.out.len];exact htn),List.getElem?_eq_getElem _⟩;obtain⟨fA,fc,fl⟩:=f;have HF2:=Lib.hid hf;have hfb:fl.length≤6000000:=by
      have:=HP.out.bnd fl (by rw[List.mem_map];exact⟨_,List.mem_of_getElem? hf,rfl⟩);omega
     have q0:(0:Int)≤(t:Int):=by omega
     have q1:(t:Int)<(n:Int):=by omega
     have q2:(0:Int)≤(j:Int):=by omega
     have q3:(j:Int)<(m:Int):=by omega
     have HR1:=Lib.hid (HR.out.keep (bnew (za0 wr) (.cells #[.int .i64 lo,.int .i64 hi,.int .i64 (t:Int)] 76)));have HC1:Hid ((wr.alloc (.cells #[.int .i64 lo,.int .i64 hi,.int .i64 (t:Int)] 76)).heap[pw]? =some (.cells #[.bool fin,.slice x.A m x.c] 74 (0,0))):=((bnew (za0 wr) (.cells #[.int .i64 lo,.int .i64 hi,.int .i64 (t:Int)] 76)).block _ (Array.getElem?_eq_some_iff.1 HC.out).1).trans HC.out;have HY1:=Lib.hid (heap_alloc_new wr (.cells #[.int .i64 lo,.int .i64 hi,.int .i64 (t:Int)] 76));rw[hxA];clear hac ha hat hf HWJ;go_wp2_with fail;have hy2:=cell_of_row _ wr.heap.size 2 _ _ (0,0) HY1.out;have hyl:wr.heap.size<(wr.alloc (.cells #[.int .i64 lo,.int .i64 hi,.int .i64 (t:Int)] 76)).heap.size:=by simp
     have hbt:=HR1.out.backAt HF2.out;have hbl:=(zb3 HR1.out.back).2.1;have hbs:=HR1.out.bel.size;have HFO:=Lib.hid (HR1.out.frow HF2.out);obtain⟨q,hq⟩:∃q,fl.length=q:=⟨_,rfl⟩;have hbt:(wr.alloc (.cells #[.int .i64 lo,.int .i64 hi,.int .i64 (t:Int)] 76)).cell? ⟨w.heap.size,t,none⟩=some (.slice fA q fc):=by rw[←hq];exact hbt
     have HFO:Hid ((wr.alloc (.cells #[.int .i64 lo,.int .i64 hi,.int .i64 (t:Int)] 76)).ownsRow w.heap.size 3 1 (.slice fA q fc) q (fl.map (.int .i64))):=by rw[←hq];exact HFO.out
     have HQ:=Lib.hid hq;rw[hq]at hfb;have HXA:=Lib.hid hxA;clear hq a0 a1 a2 habw hxA;generalize wr.alloc (.cells #[.int .i64 lo,.int .i64 hi,.int .i64 (t:Int)] 76)=W1 at*;generalize wr.heap.size=pa at*;simp at hy2
     obtain⟨N,hN⟩:∃N,w.heap.size=N:=⟨_,rfl⟩;rw[hN]at hbt hbl hbs;have HN:=Lib.hid hN;rw[hN];clear hN;go_region_law (
      refine zc4 (base:=w.heap.size) _ #[.int .i64 (k:Int)] ?gd (.tmp 41) (.tmp 43) 71 ?ho zf3 (.slice fA q fc) q (fl.map (.int .i64)) ?hs ?own (nb:=W1.heap.size) (m:=1) ?hx ?hxc ?hl ?h1 ?hm ?h63 ?hby ?hba ?_;case gd=>rfl
      case ho=>rfl
      case hs=>rfl
      case own=>exact za2 HFO.out (by repeat(first|exact za0 _|refine Below.drew ?_|refine bnew ?_ _))
      case hx=>rfl
      case hxc=>first|exact heap_alloc_new _ _|(simp;done)
      case hl=>rfl
      case h1=>simp[Value.oneCell']
      case hm=>omega
      case h63=>unfold maxLen;omega
      case hby=>omega
      case hba=>rw[HN.out];exact Nat.le_trans hbs (Below.size (B:=W1.heap.size) (by repeat(first|exact za0 _|refine Below.drew ?_|refine bnew ?_ _)))
      intro g cap w4 hown4 hg4 hgm
      have HG4:Hid (W1.grownBy w4 (Value.slice fA q fc).ownBlock):=grown_through (a:=W1) (by repeat(first|exact za0 _|refine Below.drew ?_|refine bnew ?_ _)) hg4;have HGM:Hid ((Value.slice fA q fc).ownBlock=some g∨W1.heap.size≤g):=hgm.imp id fun h=>Nat.le_trans (Below.size (B:=W1.heap.size) (by repeat(first|exact za0 _|refine Below.drew ?_|refine bnew ?_ _))) h
      have HO4:=Lib.hid hown4;have hy4:=zc3 HFO.out HG4.out HY1.out (by decide);have hb4:=HR1.out.back.kept HG4.out (za4 HFO.out HR1.out.back (by decide));have f2:=cell_of_row w4 pa 2 _ _ (0,0) hy4;have f0:=zn2 hb4 t;have f1:=zak (j:=t) (u:=.slice fA q fc) hb4 (by rw[List.getElem?_map,HF2.out];show some _=some _;rw[←HQ.out];rfl);simp at f2
      rw[HN.out]at f0 f1;clear hy4 hb4 hown4 hg4 hgm)
     all_goals
      have hN:=HN.out;subst hN;have hval:Rw.val ⟨fA,fc,fl⟩=.slice fA q fc:=by rw[←HQ.out];rfl
      have HGR:=Lib.hid (HR1.out.growB (y:=⟨some ⟨g,0,none⟩,cap,fl++[(k:Int)]⟩) HF2.out (by rw[hval];exact HG4.out) (by
       have h1:=HO4.out;have e1:(fl++[(k:Int)]).length=q+1:=by rw[List.length_append,HQ.out];rfl
       have e2:(fl++[(k:Int)]).map (Value.int .i64)=fl.map (.int .i64)++[.int .i64 (k:Int)]:=by rw[List.map_append];rfl
       show World.ownsRow _ _ _ _ (.slice _ _ _) _ _;rw[e1,e2];exact h1) (by
       rw[hval];rcases HGM.out with h1|h1
       ·exact .inl (by rw[h1];rfl)
       ·exact .inr ⟨g,rfl,h1⟩))
      have HVAL:Hid (Rw.val ⟨some ⟨g,0,none⟩,cap,fl++[(k:Int)]⟩=.slice (some ⟨g,0,none⟩) (q+1) cap):=by
       show Value.slice _ _ _=_;rw[List.length_append,HQ.out];rfl
      have HR9:=Lib.hid HGR.out.1;have HC9:=Lib.hid (HGR.out.2.2.2.2 _ _ _ _ (by decide) (by decide) HC1.out).2;rw[HVAL.out]at HR9 HC9;rw[HXA.out]at HC9;have HP9:=Lib.hid (HP.out.arc HDK.out HA.out rfl (f:=fl) (by rw[List.getElem?_map,HF2.out];rfl));have HSE:Hid ((F.map (·.l)).set t (fl++[(k:Int)])=(F.set t ⟨some ⟨g,0,none⟩,cap,fl++[(k:Int)]⟩).map (·.l)):=by
       show _=_;rw[List.map_set]
      clear HGR HG4 HGM HO4 f0 f1 f2 hbt hy2 hyl hbl hbs hval;go_wp2_with fail;go_roundw;case rel=>exact⟨j+1,_,by omega,by go_num,HR9,HC9,by rw[←HSE.out];exact HP9⟩
      case measure=>simp[intOf];omega
    ·obtain rfl:j=m:=by omega
     have HP9:=Lib.hid (BackP.next HDK.out (by rw[HM.out];exact hm256) (by rw[HM.out];exact HP.out));have hc0:=cell_of_row _ pw 0 _ _ (0,0) HC.out;simp at hc0
     cases fin with
     |
      false=>
      have HT9:=Lib.hid (HT.out.1.off HDK.out HF.out);go_wp2_with fail;go_roundw;case rel=>exact⟨k+1,F,L,Ta,tc,T,p,by omega,by go_num,rfl,⟨HP0.out,HR.out⟩,HP9,HT9.out,fun x h1 h2=>HT.out.2 x (by omega) h2⟩
      case measure=>simp[intOf];omega
     |
      true=>
      have HSO:=Lib.hid (HR.out.setO (t:=k));have hok:=HR.out.outAt (HT.out.2 k (Nat.le_refl _) hlt);have hof:=HSO.out.2.1;have hol:=HSO.out.2.2.1;have HOT:Hid ((wr.setCell ⟨w.heap.size+1+1,k,none⟩ (.bool true)).ownsRow w.heap.size 3 1 (.slice Ta p tc) p (T.map (.int .i64))):=by rw[HP0.out];exact HSO.out.1.todo
      have hpn:p≤n:=by have:=HT.out.1.few;rw[←HP0.out,HDL.out]at this;omega
      have hbs9:=HSO.out.1.bel.size;have HTN:=Lib.hid (HT.out.1.put (i':=k+1) (HT.out.2 k (Nat.le_refl _) hlt) (zD6 HDK.out HF.out) (fun y s h1 h2 h3 h4=>HT.out.1.fin y s (by omega) h3 h4));have HLN:Hid (∀y,k+1≤y→y<n→(L.set k true)[y]? =some false):=fun y h1 h2=>by
       rw[List.getElem?_set,if_neg (by omega)];exact HT.out.2 y (by omega) h2
      have HAL:=Lib.hid HSO.out.1;have HSB:=Lib.hid HSO.out.1.bel;clear HR;go_wp2_with (at_builtin;refine zab w (wr.setCell ⟨w.heap.size+1+1,k,none⟩ (.bool true)) _ rfl _ _ _ rfl zf3 _ _ _ rfl HOT.out rfl (by simp) rfl (by simp[Value.oneCell']) (by unfold maxLen;omega) (by omega) hbs9 HSB.out ?_;intro v9 w9 hown9 _ hg9 hor9;obtain⟨A9,c9,rfl,_⟩:=za1 hown9;have HO9:=Lib.hid hown9;have HG9:=Lib.hid hg9;have HOR9:=Lib.hid hor9;clear hown9 hg9 hor9)
      have HVT:Hid ((Rw.mk Ta tc T).val=.slice Ta p tc):=by show Value.slice _ _ _=_;rw[HP0.out]
      have HVN:Hid ((Rw.mk A9 c9 (T++[(k:Int)])).val=.slice A9 (p+1) c9):=by show Value.slice _ _ _=_;rw[List.length_append,HP0.out];rfl
      have HRN:=Lib.hid (HAL.out.growT (W':=w9) (y:=⟨A9,c9,T++[(k:Int)]⟩) (by rw[HVT.out];exact HG9.out) (by
       have h1:=HO9.out;have e1:(T++[(k:Int)]).length=p+1:=by rw[List.length_append,HP0.out];rfl
       have e2:(T++[(k:Int)]).map (Value.int .i64)=T.map (.int .i64)++[.int .i64 (k:Int)]:=by rw[List.map_append];rfl
       show World.ownsRow _ _ _ _ (.slice _ _ _) _ _;rw[e1,e2];exact h1) (by rw[HVT.out,HVN.out];exact HOR9.out)).1
      have HPN:Hid (p+1=(T++[(k:Int)]).length):=by show _=_;rw[List.length_append,HP0.out];rfl
      clear HAL HO9 HG9 HOR9 HOT HSO;go_wp2_with fail;go_roundw;case rel=>exact⟨k+1,F,L.set k true,A9,c9,T++[(k:Int)],p+1,by omega,by go_num,rfl,⟨HPN.out,HRN.out⟩,HP9,HTN.out,HLN.out⟩
      case measure=>simp[intOf];omega
  ·obtain rfl:k=n:=by omega
   have HPA:Hid (BackP d d.length 0 (F.map (·.l))):=by rw[HDL.out];exact HP.out
   have HTA:Hid (TodoP d d.length L T (fun _ _=>False)):=by rw[HDL.out];exact HT.out.1
   clear HP HT;go_wp2_with fail;have HP0:=Lib.hid HR.out.1;have HRR:=Lib.hid HR.out.2;clear HR;go_loopg [4] (offs L+T.length) (fun gk tv wr=>∃(L:List Bool) (Ta:Option Addr) (tc:Nat) (T:List Int) (p:Nat),tv=.slice Ta p tc∧Hid (p=T.length∧AlR w wr k w.heap.size (w.heap.size+1+1) F L ⟨Ta,tc,T⟩)∧Hid (TodoP d d.length L T (fun _ _=>False)∧offs L+T.length≤gk))
   case atStart=>exact⟨L,Ta,tc,T,p,rfl,⟨HP0.out,HRR.out⟩,HTA.out,Nat.le_refl _⟩
   case round=>
    clear HTA HRR HP0;obtain⟨L,Ta,tc,T,p,rfl,HR,HT⟩:=hrel;by_cases hp:p=0
    ·subst hp;have hT:T=[]:=List.eq_nil_of_length_eq_zero HR.out.1.symm;have HLV:Hid (∀(x:Nat) b,L[x]? =some b→(b=true↔(auOf d).live x)):=fun x b hx=>zBd HG.out (by have:=HT.out.1;rw[hT]at this;exact this) hx
     clear HT hT;go_wp2_with fail;go_ret;exact⟨_,_,L,rfl,HR.out.2.out,HR.out.2.llen,HLV.out,HR.out.2.bel⟩
    ·obtain⟨p',rfl⟩:∃q,p=q+1:=⟨p-1,by omega⟩;have hpk:p'+1≤k:=by have:=HT.out.1.few;rw[←HR.out.1,HDL.out]at this;omega
     obtain⟨T',y,rfl⟩:∃T' y,T=T'++[y]:=⟨T.dropLast,T.getLast (fun e=>by have:=HR.out.1;rw[e]at this;cases this),(List.dropLast_concat_getLast _).symm⟩;have hp':p'=T'.length:=by have:=HR.out.1;rw[List.length_append,List.length_singleton]at this;omega
     have HP':=Lib.hid hp';obtain⟨x,rfl,hxl,hxL⟩:=HT.out.1.tin y (by simp);have HXL:=Lib.hid (HT.out.1.snd x hxL);clear hxL;rw[HDL.out]at hxl;have hrow:wr.ownsRow w.heap.size 3 1 (.slice Ta (p'+1) tc) (p'+1) ((T'++[(x:Int)]).map (.int .i64)):=by rw[HR.out.1];exact HR.out.2.todo
     obtain⟨tg,rfl,htb,htl⟩:=zah hrow (by omega);have ht0:=zak (j:=p') (u:=.int .i64 (x:Int)) hrow (by rw[List.map_append,List.getElem?_append_right (by rw[List.length_map];omega),List.length_map,hp',Nat.sub_self];rfl);have htc:=(za1 hrow);have htcc:p'+1≤tc:=by
      obtain⟨A1,c1,e1,h1⟩:=htc;injection e1 with _ _ e1
      omega
     have HRC:=Lib.hid (HR.out.2.cutT rfl);obtain⟨f,hf⟩:∃f,F[x]? =some f:=⟨F[x]'(by rw[HRC.out.len];exact hxl),List.getElem?_eq_getElem _⟩;obtain⟨fA,fc,fl⟩:=f;have HFX:=Lib.hid hf;have HTX:=Lib.hid (HT.out.1.pop fl (fun z=>HPA.out.all (t:=x) (f:=fl) (by rw[List.getElem?_map,hf];rfl)));have HFEW:Hid (offs L+T'.length+1≤gk):=by have:=HT.out.2;rw[List.length_append,List.length_singleton]at this;show _≤_;omega
     obtain⟨q,hq⟩:∃q,fl.length=q:=⟨_,rfl⟩;have hbt:wr.cell? ⟨w.heap.size,x,none⟩=some (.slice fA q fc):=by rw[←hq];exact HRC.out.backAt hf
     have HFO:Hid (fl.length=q):=hq;have hfb:q≤6000000:=by
      have:=HPA.out.bnd fl (by rw[List.mem_map];exact⟨_,List.mem_of_getElem? hf,rfl⟩);rw[HDL.out,hq]at this;omega
     have i1:(0:Int)≤(x:Int):=by omega
     have i2:(x:Int)<(k:Int):=by omega
     have hqc:=za1 (HRC.out.frow hf);have hqcc:q≤fc:=by
      obtain⟨A1,c1,e1,h1⟩:=hqc;injection e1 with _ e2 e1
      have h2:fl.length≤c1:=h1;have h3:fc=c1:=e1;omega
     clear hq hf hrow htc hqc HT HR hp';go_wp2_with fail;go_loopw [4,76] (fun tv jv wj=>∃(L:List Bool) (Ta:Option Addr) (tc:Nat) (T:List Int) (p j:Nat),j≤q∧jv=.int .i64 j∧tv=.slice Ta p tc∧Hid (p=T.length∧AlR w wj k w.heap.size (w.heap.size+1+1) F L ⟨Ta,tc,T⟩)∧Hid (TodoP d d.length L T (fun z y=>z=x∧y∈fl.drop j)∧offs L+T.length+1≤gk)) (fun _ jv _=>q-(intOf jv).toNat)
     case atStart=>exact⟨L,_,tc,T',p',0,Nat.zero_le _,rfl,rfl,⟨HP'.out,HRC.out⟩,HTX.out,HFEW.out⟩
     case round=>
      clear HTX HRC HP' HFEW ht0 hbt htb htl;obtain⟨L,Ta,tc,T,p,j,hj,rfl,rfl,HR,HT⟩:=hrel;by_cases hjq:j<q
      ·obtain⟨y,hy⟩:∃y,fl[j]? =some y:=⟨fl[j]'(by rw[HFO.out];exact hjq),List.getElem?_eq_getElem _⟩;have hdrop:fl.drop j=y::fl.drop (j+1):=by
        obtain⟨h1,h2⟩:=List.getElem?_eq_some_iff.1 hy;rw[List.drop_eq_getElem_cons h1,h2]
       obtain⟨z,rfl,hzk,_⟩:=HPA.out.snd x fl (by rw[List.getElem?_map,HFX.out];rfl) y (List.mem_of_getElem? hy);rw[HDL.out]at hzk;have hrow:wr.ownsRow w.heap.size 3 1 (.slice fA q fc) q (fl.map (.int .i64)):=by rw[←HFO.out];exact HR.out.2.frow HFX.out
       obtain⟨fg,rfl,hgb,hgl⟩:=zah hrow (by omega);have hf0:=zak (j:=j) (u:=.int .i64 (z:Int)) hrow (by rw[List.getElem?_map,hy];rfl);obtain⟨lv,hlv⟩:∃b,L[z]? =some b:=⟨L[z]'(by rw[HR.out.2.llen];exact hzk),List.getElem?_eq_getElem _⟩;have ho0:=HR.out.2.outAt hlv;have hol:=(zb3 HR.out.2.out).2.1;have hlead:Lead d z x:=(HPA.out.all (t:=x) (f:=fl) (by rw[List.getElem?_map,HFX.out];rfl)).1 (List.mem_of_getElem? hy);have HTJ:Hid (TodoP d d.length L T (fun u y=>u=x∧y∈(z:Int)::fl.drop (j+1))∧offs L+T.length+1≤gk):=by rw[←hdrop];exact HT
       have HLE:=Lib.hid hlead;have HLV:=Lib.hid hlv;have i3:(0:Int)≤(z:Int):=by omega
       have i4:(z:Int)<(k:Int):=by omega
       have i5:(0:Int)≤(j:Int):=by omega
       have i6:(j:Int)<(q:Int):=by omega
       clear hdrop hy hlead hlv HT hrow;cases lv with
       |
        true=>
        have HTN:=Lib.hid (HTJ.out.1.drop HLV.out);go_wp2_with fail;go_roundw;case rel=>exact⟨L,Ta,tc,T,p,j+1,by omega,by go_num,rfl,HR,HTN.out,HTJ.out.2⟩
        case measure=>simp[intOf];omega
       |
        false=>
        have HSO:=Lib.hid (HR.out.2.setO (t:=z));have hof:=HSO.out.2.1;have HP0:=Lib.hid HR.out.1;have HOT:Hid ((wr.setCell ⟨w.heap.size+1+1,z,none⟩ (.bool true)).ownsRow w.heap.size 3 1 (.slice Ta p tc) p (T.map (.int .i64))):=by rw[HP0.out];exact HSO.out.1.todo
        have hpn:p≤k:=by have:=HTJ.out.1.few;rw[←HP0.out,HDL.out]at this;omega
        have hbs9:=HSO.out.1.bel.size;have HTN:Hid (TodoP d d.length (L.set z true) (T++[(z:Int)]) (fun u y=>u=x∧y∈fl.drop (j+1))∧offs (L.set z true)+(T++[(z:Int)]).length+1≤gk):=by
         have h1:=HTJ.out.1.put (i':=d.length) HLV.out (z8i HG.out HLE.out HXL.out) (fun y s h1 _ h3 h4=>HTJ.out.1.fin y s h1 h3 h4);refine⟨h1.drop (by rw[List.getElem?_set,if_pos rfl,if_pos (List.getElem?_eq_some_iff.1 HLV.out).1]),?_⟩;have h2:=z0d HLV.out;have h3:=HTJ.out.2;rw[List.length_append,List.length_singleton];omega
        have HAL:=Lib.hid HSO.out.1;have HSB:=Lib.hid HSO.out.1.bel;clear HR;go_wp2_with (at_builtin;refine zab w (wr.setCell ⟨w.heap.size+1+1,z,none⟩ (.bool true)) _ rfl _ _ _ rfl zf3 _ _ _ rfl HOT.out rfl (by simp) rfl (by simp[Value.oneCell']) (by unfold maxLen;omega) (by omega) hbs9 HSB.out ?_;intro v9 w9 hown9 _ hg9 hor9;obtain⟨A9,c9,rfl,_⟩:=za1 hown9;have HO9:=Lib.hid hown9;have HG9:=Lib.hid hg9;have HOR9:=Lib.hid hor9;clear hown9 hg9 hor9)
        have HVT:Hid ((Rw.mk Ta tc T).val=.slice Ta p tc):=by show Value.slice _ _ _=_;rw[HP0.out]
        have HVN:Hid ((Rw.mk A9 c9 (T++[(z:Int)])).val=.slice A9 (p+1) c9):=by show Value.slice _ _ _=_;rw[List.length_append,HP0.out];rfl
        have HRN:=Lib.hid (HAL.out.growT (W':=w9) (y:=⟨A9,c9,T++[(z:Int)]⟩) (by rw[HVT.out];exact HG9.out) (by
         have h1:=HO9.out;have e1:(T++[(z:Int)]).length=p+1:=by rw[List.length_append,HP0.out];rfl
         have e2:(T++[(z:Int)]).map (Value.int .i64)=T.map (.int .i64)++[.int .i64 (z:Int)]:=by rw[List.map_append];rfl
         show World.ownsRow _ _ _ _ (.slice _ _ _) _ _;rw[e1,e2];exact h1) (by rw[HVT.out,HVN.out];exact HOR9.out)).1
        have HPN:Hid (p+1=(T++[(z:Int)]).length):=by show _=_;rw[List.length_append,HP0.out];rfl
        clear HAL HO9 HG9 HOR9 HOT HSO HTJ;go_wp2_with fail;go_roundw;case rel=>exact⟨L.set z true,A9,c9,T++[(z:Int)],p+1,j+1,by omega,by go_num,rfl,⟨HPN.out,HRN.out⟩,HTN.out⟩
        case measure=>simp[intOf];omega
      ·obtain rfl:j=q:=by omega
       have HTE:Hid (TodoP d d.length L T (fun _ _=>False)∧offs L+T.length+1≤gk):=by
        have h1:=HT.out.1;rw[List.drop_of_length_le (by rw[HFO.out];exact Nat.le_refl _)]at h1;exact⟨h1.done,HT.out.2⟩
       clear HT;go_wp2_with fail;go_roundg (offs L+T.length)
       case rel=>exact⟨L,Ta,tc,T,p,rfl,HR,HTE.out.1,Nat.le_refl _⟩
       case measure=>have:=HTE.out.2;omega
end
end Go.Proofs.YtaociahafamncaaGreatDoor
