/- Folded. -/
import Derived.Test.YtaociahafamncaaGreatDoorHM32
import Derived.Test.YtaociahafamncaaGreatDoorHM33
set_option maxRecDepth 100000
set_option maxHeartbeats 40000000
namespace Go.Proofs.YtaociahafamncaaGreatDoor
section
open Go.RowKit Go.Maps
structure NuArgs(w:World)(B:Nat)(A:Option Addr)(n c:Nat)(H:List Sh)(Al:Option Addr)(L:List Bool)(Ac:Option Addr)(C:List Int):Prop where
 sts:StsIn w B A n c H
 pos:0<n
 lv:zxb w B Al n L
 cl:Ints w B Ac n C
 good:Good (H.map (·.d))
 live:∀(x:Nat) b,L[x]? =some b→(b=true↔(auOf (H.map (·.d))).live x)
 cin:∀x∈C,0≤x∧x<(n:Int)
 iff:∀x,x<n→∀y,y<n→((C.getD x 0).toNat=(C.getD y 0).toNat↔Leq (auOf (H.map (·.d))) x (auOf (H.map (·.d))) y)
theorem NuArgs.keep{w w':World}{B B' n c:Nat}{A Al Ac:Option Addr}{H:List Sh}{L:List Bool}{C:List Int}(h:NuArgs w B A n c H Al L Ac C)(hb:Below B w w')(hB:B≤B'):NuArgs w' B' A n c H Al L Ac C:=
 ⟨h.sts.keep hb hB,h.pos,h.lv.keep hb hB,h.cl.keep hb hB,h.good,h.live,h.cin,h.iff⟩
theorem NuArgs.dead{w:World}{B n c:Nat}{A Al Ac:Option Addr}{H:List Sh}{L:List Bool}{C:List Int}(h:NuArgs w B A n c H Al L Ac C)(h0:L[0]? =some false):¬(auOf (H.map (·.d))).live 0:=fun hl=>by
 have:=(h.live 0 false h0).2 hl;cases this
theorem zvj(w:World)(B:Nat)(hB:B≤w.heap.size)(A:Option Addr)(n c:Nat)(H:List Sh)(Al:Option Addr)(cl:Nat)(L:List Bool)(Ac:Option Addr)(cc:Nat)(C:List Int)(h:NuArgs w B A n c H Al L Ac C):
  Calls Tryz.prog 56 #[.slice A n c,.slice Al n cl,.slice Ac n cc] w fun e w'=>∃v hs,e=.returned v∧OwnSts w' w.heap.size v hs∧zcg (auOf (H.map (·.d))) 0 (hs.map (·.d))∧hs.length≤n∧Below w.heap.size w w':=by
 have hpos:=h.pos;obtain⟨lb,loff,rfl,hlb,hlc⟩:=h.lv.at_ (by omega);obtain⟨cb,coff,rfl,hcb,hcc⟩:=h.cl.at_ (by omega);obtain⟨l0,hl0⟩:∃x,L[0]? =some x:=⟨L[0]'(by have:=h.lv.1;omega),List.getElem?_eq_getElem _⟩;obtain⟨c0,hc0⟩:∃x,C[0]? =some x:=⟨C[0]'(by have:=h.cl.1;omega),List.getElem?_eq_getElem _⟩;have k0:=hlc 0 _ hl0;have k1:=hcc 0 _ hc0;simp only[Nat.add_zero]at k0 k1;have HA:=Lib.hid h;have i0:(0:Int)<(n:Int):=by omega
 have hlbw:lb<w.heap.size:=Nat.lt_of_lt_of_le hlb hB;have hcbw:cb<w.heap.size:=Nat.lt_of_lt_of_le hcb hB;cases l0 with
 |
  false=>
  have HD:=Lib.hid (h.dead hl0);clear h hlc hcc hl0 hc0;go_enter Tryz.func56,Tryz.ntmps56
  go_wp2_with fail;go_ret;refine⟨_,[⟨(false,[]),none,0⟩],rfl,⟨zg1 _ #[.bool false,.slice none 0 0] 74 2 1 rfl (by unfold maxLen;omega) rfl (Nat.le_refl _),(GFam.nil _ _ _ _).cons_nil⟩,.inr ⟨HD.out,rfl⟩,hpos,bnew (za0 w) _⟩
 |
  true=>
  have hlv:=(h.live 0 true hl0).1 rfl;have HLV:=Lib.hid hlv;have hc00:=h.cin c0 (List.mem_of_getElem? hc0);obtain⟨ck,rfl⟩:=Int.eq_ofNat_of_zero_le hc00.1;have hn2:n≤20000:=by have:=h.good.few;rw[List.length_map,h.sts.len]at this;exact this
  have hckn:ck<n:=by omega
  have hmk:= @run_makeMap Tryz.prog;have hm0:=World.ownsMap_made (H:=Unit) w Tryz.prog 3 (plainElem Tryz.prog 3);obtain⟨w1,run1,ho1,ht1⟩:=World.ownsMap.store (w:=w.alloc (.map #[] 0)) hm0 lawI Tryz.underlying139 (by unfold maxLen;omega) (key:=.int .i64 (ck:Nat)) (val:=.int .i64 0) (keyOf_int_mk Tryz.underlying3 (WalkArith.wf_i64 (by omega))) (plainElem_int Tryz.underlying3 (WalkArith.wf_i64 (by omega)));obtain⟨d,hd⟩:∃d,H.map (·.d)=d:=⟨_,rfl⟩;have HD:=Lib.hid hd;rw[hd]at HLV;rw[hd];have hdl:d.length=n:=by rw[←hd,List.length_map];exact HA.out.sts.len
  have HDL:=Lib.hid hdl;obtain⟨cls,hcls⟩:∃f:Nat→Nat,f=fun x=>(C.getD x 0).toNat:=⟨_,rfl⟩
  have HCLS:=Lib.hid hcls;have HC0:Hid (cls 0=ck):=by
   show _=_;rw[hcls];show(C.getD 0 0).toNat=ck;rw[List.getD_eq_getElem?_getD,hc0];rfl
  have HIFF:Hid (∀x,x<d.length→∀y,y<d.length→(cls x=cls y↔Leq (auOf d) x (auOf d) y)):=by
   show∀x,_;rw[hcls,hdl,←hd];exact HA.out.iff
  have HGD:Hid (Good d):=by rw[←hd];exact HA.out.good
  clear hd hdl hcls;clear h hlc hcc hl0 hc0 hlv;have HO1:=Lib.hid ho1;have HT1:=Lib.hid ht1;clear ho1 ht1 hm0;go_enter Tryz.func56,Tryz.ntmps56
  go_wp2_with fail;clear hmk run1 k0 k1;have hb1:Below w.heap.size w w1:=(bnew (za0 w) (.map #[] 0)).grown HT1.out.grown (by simp) (fun r hr=>by injection hr with hr;omega);have HB1:=Lib.hid hb1;have hws:=hb1.size;have HN1:Hid (NumIs ((DataW.map []).put (Lit.int IntKind.i64 (ck:Int)) (DataW.lit (Lit.int IntKind.i64 0))) cls [0]):=NumIs.put (met:=[]) (z:=0) ⟨⟨[],rfl⟩,fun _=>rfl,fun k i hk=>by cases hk⟩ rfl HC0.out;have HST:Hid (NuR w (((w1.alloc (.cells #[.int .i64 0] 3)).alloc (.cells #[] 74)).alloc (.map #[] 0)) w.heap.size 1 (w1.heap.size+1+1) 0 ((DataW.map []).put (Lit.int IntKind.i64 (ck:Int)) (DataW.lit (Lit.int IntKind.i64 0))) (.map []) (some ⟨w1.heap.size,0,none⟩) 1 1 [0] (some ⟨w1.heap.size+1,0,none⟩) 0 0 GRow.nil [] []):=by
   have hlt:w.heap.size<w1.heap.size:=HO1.out.lt;have b1:=bnew hb1 (.cells #[.int .i64 0] 3);have b2:=bnew b1 (.cells #[] 74);refine⟨bnew b2 _,((HO1.out.alloc _).alloc _).alloc _,?_,by omega,Nat.le_refl _,by omega,?_,?_,(GFam.nil _ _ _ _).cons_nil⟩
   ·have:=World.ownsMap_made (H:=Unit) ((w1.alloc (.cells #[.int .i64 0] 3)).alloc (.cells #[] 74)) Tryz.prog 3 (plainElem Tryz.prog 3);simpa using this
   ·have h1:=zg1 w1 #[.int .i64 0] 3 1 1 rfl (by unfold maxLen;omega) rfl hws;exact za2 (za2 h1 (bnew (za0 _) _)) (bnew (za0 _) _)
   ·have h1:=zc1 (w1.alloc (.cells #[.int .i64 0] 3)) 74 2 (nb:=w1.heap.size+1) (by simp) b1.size;exact za2 h1 (bnew (za0 _) _)
  clear hb1 HO1 HT1;generalize(DataW.map []).put (Lit.int IntKind.i64 (ck:Int)) (DataW.lit (Lit.int IntKind.i64 0))=N1 at*;generalize((w1.alloc (.cells #[.int .i64 0] 3)).alloc (.cells #[] 74)).alloc (.map #[] 0)=W3 at*;clear hws HB1;generalize w1.heap.size=fb at*;go_loopw [35] (fun iv wr=>∃(k mn:Nat) (N2:DataW Unit),k≤n∧iv=.int .i64 k∧mn≤k∧Hid (NuR w wr w.heap.size 1 (fb+1+1) mn N1 N2 (some ⟨fb,0,none⟩) 1 1 [0] (some ⟨fb+1,0,none⟩) 0 0 GRow.nil [] [])∧Hid (IsMap N2∧∀x,x<k→(auOf d).live x→∃y:Nat,y<n∧numI N2 (cls x:Nat)=(y:Int)∧cls y=cls x)) (fun iv _=>n-(intOf iv).toNat)
  case atStart=>exact⟨0,0,_,Nat.zero_le _,rfl,Nat.le_refl _,HST,⟨[],rfl⟩,fun x hx=>absurd hx (Nat.not_lt_zero _)⟩
  case round=>
   clear HST;obtain⟨k,mn,N2,hk,rfl,hmn,HR,HM⟩:=hrel;by_cases hkn:k<n
   ·have HWA:=Lib.hid (HA.out.keep (HR.out.bel.mono hB) (Nat.le_refl _));obtain⟨lb',loff',e1,_,hlc⟩:=HWA.out.lv.at_ (by omega);injection e1 with e1
    injection e1 with e1 e2 _
    subst e1 e2;obtain⟨cb',coff',e1,_,hcc⟩:=HWA.out.cl.at_ (by omega);injection e1 with e1
    injection e1 with e1 e2 _
    subst e1 e2;obtain⟨lv,hlv⟩:∃x,L[k]? =some x:=⟨L[k]'(by have:=HA.out.lv.1;omega),List.getElem?_eq_getElem _⟩;obtain⟨cv,hcv⟩:∃x,C[k]? =some x:=⟨C[k]'(by have:=HA.out.cl.1;omega),List.getElem?_eq_getElem _⟩;have k0:=hlc k _ hlv;have k1:=hcc k _ hcv;have hcv0:=HA.out.cin cv (List.mem_of_getElem? hcv);obtain⟨cj,rfl⟩:=Int.eq_ofNat_of_zero_le hcv0.1;have hcjn:cj<n:=by omega
    have HCK:Hid (cls k=cj):=by
     show _=_;rw[HCLS.out];show(C.getD k 0).toNat=cj;rw[List.getD_eq_getElem?_getD,hcv];rfl
    have HLK:Hid (lv=true↔(auOf d).live k):=by rw[←HD.out];exact HA.out.live k lv hlv
    have i1:(0:Int)≤(k:Int):=by omega
    have i2:(k:Int)<(n:Int):=by omega
    clear hlc hcc hlv hcv;cases lv with
    |
     false=>
     go_wp2_with fail;go_roundw;case rel=>exact⟨k+1,mn,N2,by omega,by go_num,by omega,HR,HM.out.1,fun x hx hl=>HM.out.2 x (by
      apply Classical.byContradiction
      intro hn
      obtain rfl:x=k:=by omega
      have:=HLK.out.2 hl;cases this) hl⟩
     case measure=>simp[intOf];omega
    |
     true=>
     obtain⟨w4,run4,ho4,ht4⟩:=World.ownsMap.store (w:=wr) HR.out.mem lawI Tryz.underlying139 (by unfold maxLen;omega) (key:=.int .i64 (cj:Nat)) (val:=.int .i64 (k:Nat)) (keyOf_int_mk Tryz.underlying3 (WalkArith.wf_i64 (by omega))) (plainElem_int Tryz.underlying3 (WalkArith.wf_i64 (by omega)));have HR4:=Lib.hid (HR.out.putM ho4 ht4.grown).1;have HM4:Hid (IsMap (N2.put (Lit.int IntKind.i64 (cj:Int)) (DataW.lit (Lit.int IntKind.i64 (k:Int))))∧∀x,x<k+1→(auOf d).live x→∃y:Nat,y<n∧numI (N2.put (Lit.int IntKind.i64 (cj:Int)) (DataW.lit (Lit.int IntKind.i64 (k:Int)))) (cls x:Nat)=(y:Int)∧cls y=cls x):=by
      refine⟨HM.out.1.put _ _,fun x hx hl=>?_⟩;rw[z0e HM.out.1];by_cases e:((cls x:Nat):Int)=(cj:Int)
      ·rw[if_pos e];exact⟨k,hkn,rfl,by rw[HCK.out];omega⟩
      ·rw[if_neg e];refine HM.out.2 x (by
        apply Classical.byContradiction
        intro hn
        obtain rfl:x=k:=by omega
        exact e (by rw[HCK.out])) hl
     clear ho4 ht4;go_wp2_with fail;go_roundw;case rel=>exact⟨k+1,mn+1,_,by omega,by go_num,by omega,HR4,HM4⟩
     case measure=>simp[intOf];omega
   ·obtain rfl:n=k:=by omega
    obtain⟨rep,hrep⟩:∃f:Nat→Nat,f=fun z=>(numI N2 (z:Nat)).toNat:=⟨_,rfl⟩
    have HCL:Hid (Cls d cls rep):=by
     refine⟨HGD.out,HIFF.out,fun x hx hl=>?_⟩;obtain⟨y,h1,h2,h3⟩:=HM.out.2 x (by rw[←HDL.out];exact hx) hl;rw[hrep];show(numI N2 _).toNat<_∧cls (numI N2 _).toNat=_;rw[h2,Int.toNat_natCast,HDL.out];exact⟨h1,h3⟩
    have HREP:Hid (∀x,x<n→(auOf d).live x→numI N2 (cls x:Nat)=(rep (cls x):Int)):=by
     intro x hx hl
     obtain⟨y,h1,h2,h3⟩:=HM.out.2 x hx hl;rw[hrep];show numI N2 _=(((numI N2 _).toNat:Nat):Int);rw[h2,Int.toNat_natCast]
    have HCN:Hid (∀z,z<n→cls z<n):=fun z hz=>by
     rw[HCLS.out];show(C.getD z 0).toNat<n;obtain⟨v,hv⟩:∃v,C[z]? =some v:=⟨C[z]'(by have:=HA.out.cl.1;omega),List.getElem?_eq_getElem _⟩;rw[List.getD_eq_getElem?_getD,hv];have:=HA.out.cin v (List.mem_of_getElem? hv);show v.toNat<n;omega
    have HNP:=Lib.hid (NumP.start HCL.out);have HLED:Hid (∀(x:Nat) s,d[x]? =some s→ledA (ledF L C) s.2=runs (gOf d cls x) 256):=fun x s hs=>by
     rw[HCLS.out];refine z91 HGD.out (fun x b hb=>by rw[←HD.out];exact HA.out.live x b hb) (by rw[HDL.out];exact HA.out.lv.1) hs
    clear hrep HM HIFF HC0;go_wp2_with fail;go_loopw [8,9,12] (fun fv ov iv wr=>∃(i p cf co:Nat) (Af Ao:Option Addr) (met:List Nat) (hs:List Sh) (N1:DataW Unit),iv=.int .i64 i∧fv=.slice Af p cf∧ov=.slice Ao i co∧i≤p∧p≤n∧Hid (NuR w wr w.heap.size p (fb+1+1) mn N1 N2 Af p cf met Ao i co GRow.nil [] hs)∧Hid (NumIs N1 cls met∧p=met.length∧hs.length=i)∧Hid (NumP d cls rep i met (hs.map (·.d)))) (fun _ _ iv _=>n-(intOf iv).toNat)
    case atStart=>exact⟨0,1,1,0,_,_,[0],[],N1,rfl,rfl,rfl,by omega,by omega,HR,⟨HN1.out,rfl,rfl⟩,HNP⟩
    case round=>
     clear HR HN1 HNP;obtain⟨i,p,cf,co,Af,Ao,met,hs,N1,rfl,rfl,rfl,hip,hpn,HR,HI,HP⟩:=hrel;by_cases hlt:i<p
     ·obtain⟨x,hx⟩:∃x,met[i]? =some x:=⟨met[i]'(by rw[←HI.out.2.1];exact hlt),List.getElem?_eq_getElem _⟩;have hxn:=HP.out.lt x (List.mem_of_getElem? hx);rw[HDL.out]at hxn;obtain⟨fg,rfl,hfb,hfl⟩:=zah HR.out.fst (by omega);have hf0:=zak (j:=i) (u:=.int .i64 (x:Int)) HR.out.fst (by rw[List.getElem?_map,hx];rfl);obtain⟨X,hX⟩:∃X,H[x]? =some X:=⟨H[x]'(by have:=HA.out.sts.len;omega),List.getElem?_eq_getElem _⟩;have HW:=Lib.hid (HA.out.sts.keep (HR.out.bel.mono hB) (Nat.le_refl _));obtain⟨ab,aoff,rfl,hab,hcell⟩:=HW.out.at_ (by omega);obtain⟨s0,s1⟩:=hcell x X hX;have hXm:=List.mem_of_getElem? hX;obtain⟨m,hm⟩:∃m,X.d.2.length=m:=⟨_,rfl⟩;obtain⟨fin,hfin⟩:∃f,X.d.1=f:=⟨_,rfl⟩;have hm47:=(HA.out.sts.ar X hXm).2.2;have hmc:=(HA.out.sts.ar X hXm).2.1;have hdx:d[x]? =some X.d:=by rw[←HD.out,List.getElem?_map,hX];rfl
      have hxs:=HGD.out.asc _ (List.mem_of_getElem? hdx);have hxt:=HGD.out.to_ _ (List.mem_of_getElem? hdx);have hm256:m≤256:=by rw[←hm];exact asc_few hxs
      rw[hm]at s1 hm47 hmc;rw[hfin]at s0;have HAI:Hid (ArcsIn wr B X.A m X.c X.d.2):=⟨hm,by rw[←hm];exact(HW.out.ar X hXm).1,hm47⟩;have HDX:=Lib.hid hdx;have HFIN:=Lib.hid hfin;have HX:=Lib.hid hx;have HXS:=Lib.hid hxs;have HXT:Hid (∀a∈X.d.2,0≤a.2.2∧a.2.2<(n:Int)):=by rw[←HDL.out];exact hxt
      have i1:(0:Int)≤(x:Int):=by omega
      have i2:(x:Int)<(n:Int):=by omega
      have i3:(0:Int)≤(i:Int):=by omega
      have i4:(i:Int)<(p:Int):=by omega
      have hpc:=(za1 HR.out.fst);have hpcf:p≤cf:=by
       obtain⟨A1,c1,e1,h1⟩:=hpc;injection e1 with _ _ e1
       omega
      have habw:ab<wr.heap.size:=Nat.lt_of_lt_of_le hab (Nat.le_trans hB HR.out.bel.size);clear hx hX hcell hXm hm hfin hdx hxs hxt hpc;go_wp2_with fail;have HAL:=Lib.hid (bnew (za0 wr) (.cells #[.bool fin,.slice X.A m X.c] 74));have HC0:=Lib.hid (heap_alloc_new wr (.cells #[.bool fin,.slice X.A m X.c] 74));have HRA:=Lib.hid (HR.out.keep HAL.out);have HLV1:=Lib.hid (HA.out.lv.keep (HRA.out.bel.mono hB) (Nat.le_refl _));have HCL1:=Lib.hid (HA.out.cl.keep (HRA.out.bel.mono hB) (Nat.le_refl _));have HAI1:=Lib.hid (HAI.out.keep (HAL.out.mono (Nat.le_trans hB HR.out.bel.size)) (Nat.le_refl _));have hbs1:=HRA.out.bel.size;refine(zrg _ B (Nat.le_trans hB hbs1) X.A m X.c X.d.2 HAI1.out HXS.out (by omega) _ n cl L HLV1.out _ cc C HCL1.out HXT.out (fun y hy=>(HA.out.cin y hy).1)).mono ?_;rintro e w5 ⟨v5,rfl,hown5,hb5⟩;obtain⟨M,hM⟩:∃M,ledA (ledF L C) X.d.2=M:=⟨_,rfl⟩;have HM0:Hid (M=runs (gOf d cls x) 256):=by rw[←hM];exact HLED.out x X.d HDX.out
      have hMl:M.length≤256:=by rw[←hM];exact Nat.le_trans (zn5 _ _) (asc_few HXS.out)
      rw[hM]at hown5;obtain⟨ml,hml⟩:∃ml,M.length=ml:=⟨_,rfl⟩;have HML:=Lib.hid hml;rw[hml]at hown5 hMl;obtain⟨A5,c5,rfl,hmlc⟩:=za1 hown5;have HR5:=Lib.hid (HRA.out.enter hb5 (y:=⟨.slice A5 ml c5,ml,zaa M⟩) hown5);have HC5:Hid (w5.heap[wr.heap.size]? =some (.cells #[.bool fin,.slice X.A m X.c] 74 (0,0))):=(hb5.block _ (by simp)).trans HC0.out;clear hown5 hb5 hM hml HAI HAI1 HLV1 HCL1 HAL HC0 HRA HR hf0 s0 s1 hbs1 HW;generalize wr.heap.size=sp at*;go_wp2_with fail;go_loopw [8,14,68] (fun fv av jv wj=>∃(j p cf pc:Nat) (Af Ac:Option Addr) (met':List Nat) (N1:DataW Unit),jv=.int .i64 j∧fv=.slice Af p cf∧av=.slice Ac j pc∧j≤ml∧p≤n∧Hid (NuR w wj w.heap.size p (fb+1+1) mn N1 N2 Af p cf met' Ao i co ⟨.slice Ac j pc,j,zaa (numA cls met' (M.take j))⟩ [⟨.slice A5 ml c5,ml,zaa M⟩] hs)∧Hid (wj.heap[sp]? =some (.cells #[.bool fin,.slice X.A m X.c] 74 (0,0)))∧Hid (NumIs N1 cls met'∧p=met'.length∧met'=metA cls rep met (M.take j))) (fun _ _ jv _=>ml-(intOf jv).toNat)
      case atStart=>exact⟨0,p,cf,0,_,none,met,N1,rfl,rfl,rfl,Nat.zero_le _,hpn,HR5,HC5,HI.out.1,HI.out.2.1,rfl⟩
      case round=>
       clear HR5 HC5;obtain⟨j,p',cf',pc,Af,Ac,met',N1',rfl,rfl,rfl,hjm,hpn',HR,HC,HI'⟩:=hrel;by_cases hjl:j<ml
       ·obtain⟨a,ha⟩:∃a,M[j]? =some a:=⟨M[j]'(by rw[HML.out];exact hjl),List.getElem?_eq_getElem _⟩;have hmr:wr.ownsRow w.heap.size 76 3 (.slice A5 ml c5) ml (zaa M):=HR.out.fam.own ⟨.slice A5 ml c5,ml,zaa M⟩ (by simp);obtain⟨mg,rfl,hmb,hmgl⟩:=zah hmr (by omega);have gg:∀q u,(arcC a)[q]? =some u→q<3→wr.cell? ⟨mg,j*3+q,none⟩=some u:=fun q u hu hq=>z7i hmr ha hu hq
        have a0:=gg 0 _ rfl (by omega);have a1:=gg 1 _ rfl (by omega);have a2:=gg 2 _ rfl (by omega);rw[Nat.add_zero]at a0;obtain⟨ac,k,hg,hak⟩:=zic (d:=d) (cls:=cls) (x:=x) a (by rw[←HM0.out];exact List.mem_of_getElem? ha);obtain⟨y,hy1,hy2,hy3,hy4,hy5,hy6⟩:=zm0 HCL.out (by rw[HDL.out];exact hxn) hg;have HK:Hid (cls (rep k)=k∧rep k<n∧numI N2 (k:Int)=(rep k:Int)):=⟨hy6,by rw[←HDL.out];exact hy5,by rw[←hy4];exact HREP.out y (by rw[←HDL.out];exact hy2) hy3⟩;have hkn:k<n:=by rw[←hy4];exact HCN.out y (by rw[←HDL.out];exact hy2)
        have HTK:Hid (M.take (j+1)=M.take j++[a]):=by show _=_;rw[List.take_add_one,ha];rfl
        obtain⟨lo,hi,tt⟩:=a;simp only at hak;subst hak;simp only at a0 a1 a2;have hao:0≤lo∧lo≤1000000∧0≤hi∧hi≤1000000:=by
         have h1:=(zf4 (gOf d cls x) 256).1.ok (lo,hi,(k:Int)) (by rw[←HM0.out];exact List.mem_of_getElem? ha);simp only at h1;omega
        have hrow:=HR.out.fam.own ⟨.slice Ac j pc,j,zaa (numA cls met' (M.take j))⟩ (List.mem_cons_self ..);clear gg ha hy1 hy2 hy3 hy4 hy5 hy6 hg hmr hrow;have HAL:=Lib.hid (bnew (za0 wr) (.cells #[.int .i64 lo,.int .i64 hi,.int .i64 (k:Int)] 76));have HY1:=Lib.hid (heap_alloc_new wr (.cells #[.int .i64 lo,.int .i64 hi,.int .i64 (k:Int)] 76));have HR1:=Lib.hid (HR.out.keep HAL.out);have HC1:Hid ((wr.alloc (.cells #[.int .i64 lo,.int .i64 hi,.int .i64 (k:Int)] 76)).heap[sp]? =some (.cells #[.bool fin,.slice X.A m X.c] 74 (0,0))):=(HAL.out.block _ (Array.getElem?_eq_some_iff.1 HC.out).1).trans HC.out;have hbs1:=HR1.out.bel.size;have i5:(0:Int)≤(j:Int):=by omega
        have i6:(j:Int)<(ml:Int):=by omega
        cases hfk:zai (fun z=>decide (cls z=k)) met' with
        |
         some q=>
         have hhas:hasI N1' (k:Int)=true:=by rw[HI'.out.1.has k,hfk];rfl
         have hnum:numI N1' (k:Int)=(q:Int):=HI'.out.1.num k q hfk;have hlk:=z8g HR1.out.num (k:Int) (by omega) (by omega);have hlk1:=zu4 HR1.out.num (k:Int) (by omega) (by omega);rw[hhas,hnum]at hlk;rw[hnum]at hlk1;have HNX:=Lib.hid (z87 (rep:=rep) (T:=M.take j) (lo:=lo) (hi:=hi) hfk);have HOC:Hid ((wr.alloc (.cells #[.int .i64 lo,.int .i64 hi,.int .i64 (k:Int)] 76)).ownsRow w.heap.size 76 3 (.slice Ac j pc) j (zaa (numA cls met' (M.take j)))):=HR1.out.fam.own _ (List.mem_cons_self ..);have HB1:=Lib.hid HR1.out.bel;have HNM:Hid (numA cls met' (M.take (j+1))=numA cls met' (M.take j)++[(lo,hi,(q:Int))]):=by show _=_;rw[HTK.out];exact HNX.out.2
         have HMT:Hid (met'=metA cls rep met (M.take (j+1))):=by
          show _=_;rw[HTK.out,ze0,←HI'.out.2.2];exact HNX.out.1.symm
         clear hfk hhas hnum HAL HNX;go_wp2_with (at_builtin;refine zab w (wr.alloc (.cells #[.int .i64 lo,.int .i64 hi,.int .i64 (k:Int)] 76)) _ rfl _ _ _ rfl zhi _ _ _ rfl HOC.out rfl (by simp) rfl (by simp[Value.oneCell']) (by unfold maxLen;omega) (by omega) hbs1 HB1.out ?_;intro v9 w9 hown9 _ hg9 hor9;obtain⟨A9,c9,rfl,_⟩:=za1 hown9;have HO9:=Lib.hid hown9;have HG9:=Lib.hid hg9;have HOR9:=Lib.hid hor9;clear hown9 hg9 hor9)
         have HY:Hid ((⟨.slice A9 (j+1) c9,j+1,zaa (numA cls met' (M.take j))++[Value.int .i64 lo,Value.int .i64 hi,Value.int .i64 (q:Int)]⟩:GRow)=⟨.slice A9 (j+1) c9,j+1,zaa (numA cls met' (M.take (j+1)))⟩):=by
          show _=_;rw[HNM.out,zge];rfl
         have HGR:=Lib.hid (HR1.out.growC (y:=⟨.slice A9 (j+1) c9,j+1,zaa (numA cls met' (M.take j))++[Value.int .i64 lo,Value.int .i64 hi,Value.int .i64 (q:Int)]⟩) HG9.out HO9.out HOR9.out);rw[HY.out]at HGR;have HR9:=Lib.hid HGR.out.1;have HC9:=Lib.hid (HGR.out.2 _ _ _ _ (by decide) HC1.out);clear HGR HY HG9 HO9 HOR9 HR1 HR HC1 HC hlk hlk1 a0 a1 a2;go_wp2_with fail;go_roundw;case rel=>exact⟨j+1,p',cf',c9,Af,A9,met',N1',by go_num,rfl,rfl,by omega,hpn',HR9,HC9,HI'.out.1,HI'.out.2.1,HMT.out⟩
         case measure=>simp[intOf];omega
        |
         none=>
         have hhas:hasI N1' (k:Int)=false:=by rw[HI'.out.1.has k,hfk];rfl
         have hlk:=z8g HR1.out.num (k:Int) (by omega) (by omega);rw[hhas]at hlk;obtain⟨w6,run6,ho6,ht6⟩:=World.ownsMap.store (w:=wr.alloc (.cells #[.int .i64 lo,.int .i64 hi,.int .i64 (k:Int)] 76)) HR1.out.num lawI Tryz.underlying139 (by unfold maxLen;omega) (key:=.int .i64 (k:Nat)) (val:=.int .i64 (p':Nat)) (keyOf_int_mk Tryz.underlying3 (WalkArith.wf_i64 (by omega))) (plainElem_int Tryz.underlying3 (WalkArith.wf_i64 (by omega)));have HR6:=Lib.hid (HR1.out.putN ho6 ht6.grown);have hy6:=HR6.out.2 _ _ _ _ HY1.out;have HC6:=Lib.hid (HR6.out.2 _ _ _ _ HC1.out);have HY6:=Lib.hid hy6;have hlk2:=zu4 HR6.out.1.mem (k:Int) (by omega) (by omega);rw[HK.out.2.2]at hlk2;have b0:=cell_of_row _ wr.heap.size 0 _ _ (0,0) hy6;have b1:=cell_of_row _ wr.heap.size 1 _ _ (0,0) hy6;have b2:=cell_of_row _ wr.heap.size 2 _ _ (0,0) hy6;have hbs6:=HR6.out.1.bel.size;have hyl:=(Array.getElem?_eq_some_iff.1 hy6).1;have HNI:Hid (NumIs (N1'.put (.int .i64 (k:Int)) (.lit (.int .i64 (p':Nat)))) cls (met'++[rep k])):=by
          rw[HI'.out.2.1];exact HI'.out.1.put hfk HK.out.1
         have hhave:=z0k HCL.out (by rw[HDL.out];exact hxn) (met:=met) (M.take j) (fun b hb=>zic b (by rw[←HM0.out];exact List.mem_of_mem_take hb));rw[←HI'.out.2.2]at hhave;have HNX:=Lib.hid (z88 (T:=M.take j) (lo:=lo) (hi:=hi) hfk HK.out.1 hhave);have HNM:Hid (numA cls (met'++[rep k]) (M.take (j+1))=numA cls met' (M.take j)++[(lo,hi,(p':Int))]):=by show _=_;rw[HTK.out,HI'.out.2.1];exact HNX.out.2
         have HMT:Hid (met'++[rep k]=metA cls rep met (M.take (j+1))):=by
          show _=_;rw[HTK.out,ze0,←HI'.out.2.2];exact HNX.out.1.symm
         have HNK:Hid (numI (N1'.put (.int .i64 (k:Int)) (.lit (.int .i64 (p':Nat)))) (k:Int)=(p':Int)):=by
          refine HNI.out.num k p' ?_;rw[zba,hfk,HI'.out.2.1];simp[zai,HK.out.1]
         have HPN:Hid (p'+1=(met'++[rep k]).length∧p'+1≤n):=by
          have hl:p'+1=(met'++[rep k]).length:=by rw[List.length_append,HI'.out.2.1];rfl
          refine⟨hl,?_⟩;rw[hl,HMT.out];have hgo:∀b∈M.take (j+1),∃c k,gOf d cls x c=some k∧b.2.2=(k:Int):=fun b hb=>zic b (by rw[←HM0.out];exact List.mem_of_mem_take hb)
          refine zq4 (zrf HCL.out (by rw[HDL.out];exact hxn) HP.out.ap _ hgo) fun z hz=>HCN.out z ?_
          rw[←HDL.out];exact zI8 HCL.out (by rw[HDL.out];exact hxn) HP.out.lt _ hgo z hz
         have HOF:=Lib.hid HR6.out.1.fst;have HB6:=Lib.hid HR6.out.1.bel;have hrk:=HK.out.2.1;clear hfk hhas HAL HNX ho6 ht6 hhave hy6;simp at b0 b1 b2
         go_wp2_with (first
          |(at_builtin;refine zab w w6 _ rfl _ _ _ rfl zf3 _ _ _ rfl HOF.out rfl (by simp) rfl (by simp[Value.oneCell']) (by unfold maxLen;omega) (by omega) hbs6 HB6.out ?_;intro v8 w8 hown8 _ hg8 _;obtain⟨A8,c8,rfl,_⟩:=za1 hown8;have HR8:=Lib.hid (HR6.out.1.growF (z:=rep k) hg8 hown8);have hy8:=HR8.out.2 _ _ _ _ (by decide) HY6.out;have e0:=cell_of_row _ wr.heap.size 0 _ _ (0,0) hy8;have e1:=cell_of_row _ wr.heap.size 1 _ _ (0,0) hy8;have e2:=cell_of_row _ wr.heap.size 2 _ _ (0,0) hy8;simp at e0 e1 e2;have hlk8:=zu4 HR8.out.1.num (k:Int) (by omega) (by omega);rw[HNK.out]at hlk8;have hbs8:=HR8.out.1.bel.size;have hyl8:=(Array.getElem?_eq_some_iff.1 hy8).1;have HOC8:Hid (w8.ownsRow w.heap.size 76 3 (.slice Ac j pc) j (zaa (numA cls met' (M.take j)))):=HR8.out.1.fam.own _ (List.mem_cons_self ..);have HB8:=Lib.hid HR8.out.1.bel;clear hown8 hg8 hy8 b0 b1 b2)
          |(at_builtin;refine zab w w8 _ rfl _ _ _ rfl zhi _ _ _ rfl HOC8.out rfl (by simp) rfl (by simp[Value.oneCell']) (by unfold maxLen;omega) (by omega) hbs8 HB8.out ?_;intro v9 w9 hown9 _ hg9 hor9;obtain⟨A9,c9,rfl,_⟩:=za1 hown9;have HO9:=Lib.hid hown9;have HG9:=Lib.hid hg9;have HOR9:=Lib.hid hor9;clear hown9 hg9 hor9))
         have HY:Hid ((⟨.slice A9 (j+1) c9,j+1,zaa (numA cls met' (M.take j))++[Value.int .i64 lo,Value.int .i64 hi,Value.int .i64 (p':Int)]⟩:GRow)=⟨.slice A9 (j+1) c9,j+1,zaa (numA cls (met'++[rep k]) (M.take (j+1)))⟩):=by
          show _=_;rw[HNM.out,zge];rfl
         have HGR:=Lib.hid (HR8.out.1.growC (y:=⟨.slice A9 (j+1) c9,j+1,zaa (numA cls met' (M.take j))++[Value.int .i64 lo,Value.int .i64 hi,Value.int .i64 (p':Int)]⟩) HG9.out HO9.out HOR9.out);rw[HY.out]at HGR;have HR9:=Lib.hid HGR.out.1;have HC9:=Lib.hid (HGR.out.2 _ _ _ _ (by decide) (HR8.out.2 _ _ _ _ (by decide) HC6.out));clear HGR HY HG9 HO9 HOR9 HR1 HR HC1 HC hlk hlk2 hlk8 a0 a1 a2 e0 e1 e2 HR8 HR6 HC6 run6 HOC8 HOF;go_wp2_with fail;go_roundw;case rel=>exact⟨j+1,p'+1,c8,c9,A8,A9,met'++[rep k],_,by go_num,rfl,rfl,by omega,HPN.out.2,HR9,HC9,HNI.out,HPN.out.1,HMT.out⟩
         case measure=>simp[intOf];omega
       ·obtain rfl:ml=j:=by omega
        have HMA:Hid (M.take ml=M):=List.take_of_length_le (by rw[HML.out];exact Nat.le_refl _);rw[HMA.out]at HR HI';have HRL:=Lib.hid HR.out.leave;have c0':=cell_of_row _ sp 0 _ _ (0,0) HC.out;simp at c0'
        have hbs:=HRL.out.bel.size;have HOO:=Lib.hid HRL.out.out;have HBO:=Lib.hid HRL.out.bel;have HNL:Hid ((numA cls met' M).length=ml):=by show _=_;unfold numA;rw[List.length_map];exact HML.out
        have hin:i≤n:=by omega
        clear HR HC;go_wp2_with (at_builtin;refine zab w wr _ rfl _ _ _ rfl z25 _ _ _ rfl HOO.out rfl (by simp) rfl (by simp[Value.oneCell']) (by unfold maxLen;omega) (by omega) hbs HBO.out ?_;intro v9 w9 hown9 _ hg9 hor9;obtain⟨A9,c9,rfl,_⟩:=za1 hown9;have HO9:=Lib.hid hown9;have HG9:=Lib.hid hg9;clear hown9 hg9 hor9)
        have HRN:Hid (NuR w w9 w.heap.size p' (fb+1+1) mn N1' N2 Af p' cf' met' A9 (i+1) c9 GRow.nil [] (hs++[⟨(fin,numA cls met' M),Ac,pc⟩])):=by
         have hrow:Sh.row ⟨(fin,numA cls met' M),Ac,pc⟩=⟨.slice Ac ml pc,ml,zaa (numA cls met' M)⟩:=by
          unfold Sh.row;simp only[HNL.out]
         have hhdr:Sh.hdr ⟨(fin,numA cls met' M),Ac,pc⟩=[.bool fin,.slice Ac ml pc]:=by
          unfold Sh.hdr;simp only[HNL.out]
         have h1:=HRL.out;rw[←hrow]at h1;refine h1.growO HG9.out ?_;rw[hhdr];exact HO9.out
        have HNN:Hid (NumP d cls rep (i+1) met' ((hs++[(⟨(fin,numA cls met' M),Ac,pc⟩:Sh)]).map (·.d))):=by
         have h1:=HP.out.step HCL.out HX.out;rw[←HM0.out,←HI'.out.2.2]at h1;have hfx:(auOf d).fin x=fin:=by
          show((d[x]?).map (·.1)).getD false=fin;rw[HDX.out];exact HFIN.out
         rw[hfx]at h1;rw[List.map_append];exact h1
        have HLL:Hid ((hs++[(⟨(fin,numA cls met' M),Ac,pc⟩:Sh)]).length=i+1):=by show _=_;rw[List.length_append,HI.out.2.2];rfl
        have hip':i+1≤p':=by
         rw[HI'.out.2.1];have:=HNN.out.le;exact this
        clear HRL HO9 HG9 HOO c0';go_wp2_with fail;go_roundw;case rel=>exact⟨i+1,p',cf',c9,Af,A9,met',_,N1',by go_num,rfl,rfl,hip',hpn',HRN,⟨HI'.out.1,HI'.out.2.1,HLL.out⟩,HNN⟩
        case measure=>simp[intOf];omega
     ·obtain rfl:p=i:=by omega
      have HLI:=Lib.hid (HP.out.last HCL.out HI.out.2.1 HLV.out);go_wp2_with fail;go_ret;refine⟨_,hs,rfl,⟨?_,?_⟩,HLI.out,by rw[HI.out.2.2];exact hpn,HR.out.bel⟩
      ·rw[HI.out.2.2];exact HR.out.out
      ·exact HR.out.fam.tail
end
section
open Go.RowKit Go.Maps
structure LeR(w W:World)(n:Nat)(Ao:Option Addr)(co:Nat)(L:List Bool)(cb:Nat)(C:List Int)(kb nn:Nat)(N:DataW Unit)(nb:Nat)(X:List Int):Prop where
 bel:Below w.heap.size w W
 lv:W.ownsRow w.heap.size 4 1 (.slice Ao n co) n (L.map .bool)
 cl:W.ownsRow w.heap.size 3 1 (.slice (some ⟨cb,0,none⟩) n n) n (C.map (.int .i64))
 kn:zg7 W kb nn N
 nx:W.ownsRow w.heap.size 3 1 (.slice (some ⟨nb,0,none⟩) n n) n (X.map (.int .i64))
 klo:w.heap.size≤kb
 ne:cb≠nb
theorem LeR.keep{w W W':World}{n:Nat}{Ao:Option Addr}{co:Nat}{L:List Bool}{cb:Nat}{C:List Int}{kb nn:Nat}{N:DataW Unit}{nb:Nat}{X:List Int}(h:LeR w W n Ao co L cb C kb nn N nb X)(hb:Below W.heap.size W W'):LeR w W' n Ao co L cb C kb nn N nb X:=
 ⟨za9 h.bel hb,za2 h.lv hb,za2 h.cl hb,zn3 h.kn hb,za2 h.nx hb,h.klo,h.ne⟩
theorem LeR.putK{w W W':World}{n:Nat}{Ao:Option Addr}{co:Nat}{L:List Bool}{cb:Nat}{C:List Int}{kb nn:Nat}{N N':DataW Unit}{nb:Nat}{X:List Int}(h:LeR w W n Ao co L cb C kb nn N nb X)(hm:zg7 W' kb (nn+1) N')(hg:W.grownBy W' (some kb)):LeR w W' n Ao co L cb C kb (nn+1) N' nb X:=
 ⟨h.bel.grown hg h.bel.size (fun r hr=>by injection hr with hr;have:=h.klo;omega),h.lv.kept hg (zbb h.lv h.kn),h.cl.kept hg (zbb h.cl h.kn),hm,h.nx.kept hg (zbb h.nx h.kn),h.klo,h.ne⟩
theorem LeR.setN{w W:World}{n:Nat}{Ao:Option Addr}{co:Nat}{L:List Bool}{cb:Nat}{C:List Int}{kb nn:Nat}{N:DataW Unit}{nb:Nat}{X:List Int}(h:LeR w W n Ao co L cb C kb nn N nb X)(i:Nat)(z:Int):LeR w (W.setCell ⟨nb,i,none⟩ (.int .i64 z)) n Ao co L cb C kb nn N nb (X.set i z):=by
 obtain⟨q1,q2,cs,q3⟩:=zb3 h.nx;refine⟨below_set h.bel q1 (Nat.le_refl _),zb9 h.lv q3 (by decide),h.cl.kept (za7 _ _ _) (.inr ?_),h.kn.kept (za7 _ _ _) ?_,?_,h.klo,h.ne⟩
 ·intro e
  simp only[Value.ownBlock,Option.some.injEq]at e;exact h.ne e
 ·intro e
  injection e with e
  obtain⟨es,clock,hb,_⟩:=h.kn;rw[e,q3]at hb;cases hb
 ·rw[List.map_set];exact zf0 h.nx
theorem zGj{d:List St}{L:List Bool}{C:List Int}(hg:Good d)(hcp:∀x∈C,0≤x∧x≤1000000)(x:Nat):(txt d L C x).length≤30000:=by
 unfold txt;split
 ·have hasc:Asc (d.getD x (false,[])).2 256:=by
   rw[List.getD_eq_getElem?_getD];cases hx:d[x]? with
   |none=>exact⟨List.Pairwise.nil,fun a ha=>absurd ha List.not_mem_nil⟩
   |some s=>exact hg.asc s (List.mem_of_getElem? hx)
  have hl:=zx5 (z90 (L:=L) hasc hcp);have h256:=Nat.le_trans (zn5 (ledF L C) (d.getD x (false,[])).2) (asc_few hasc);have hc:0≤C.getD x 0∧C.getD x 0≤1000000:=by
   rw[List.getD_eq_getElem?_getD];cases hx:C[x]? with
   |none=>exact⟨by simp,by simp⟩
   |some z=>exact hcp z (List.mem_of_getElem? hx)
  have hi:=Lib.itoa_length_le (C.getD x 0) (by omega) (by omega);unfold sigT;rw[List.length_append,List.length_append];have:(if(d.getD x (false,[])).1=true then[(33:UInt8)]else[]).length≤1:=by split<;>simp
  omega
 ·simp
theorem zs3(w:World)(B:Nat)(hB:B≤w.heap.size)(A:Option Addr)(n c:Nat)(H:List Sh)(h:StsIn w B A n c H)(hn:0<n)(hgood:Good (H.map (·.d)))(ht:Tab w):
  Calls Tryz.prog 33 #[.slice A n c] w fun e w'=>∃v hs,e=.returned v∧OwnSts w' w.heap.size v hs∧zcg (auOf (H.map (·.d))) 0 (hs.map (·.d))∧hs.length≤n∧Below w.heap.size w w':=by
 have HS:=Lib.hid h;have HG:=Lib.hid hgood;have HT:=Lib.hid ht;have hdl:(H.map (·.d)).length=n:=by rw[List.length_map];exact h.len
 obtain⟨d,hd⟩:∃d,H.map (·.d)=d:=⟨_,rfl⟩;have HD:=Lib.hid hd;rw[hd]at hdl HG;rw[hd];have HDL:=Lib.hid hdl;have hn2:n≤20000:=by rw[←hdl];exact HG.out.few
 have m1:=fun w=>zD2 n (by omega) w
 have hmm:= @run_makeMap Tryz.prog;clear h hgood ht hd hdl;go_enter Tryz.func33,Tryz.ntmps33
 go_wp2_with fail;refine(alive_any w B hB A n c H HS.out hn (by rw[HD.out];exact HG.out)).mono ?_;rintro e w1 ⟨Ao,co,L,rfl,hown1,hlen1,hlive1,hb1⟩;rw[HD.out]at hlive1;have HL1:=Lib.hid hown1;have HLL:=Lib.hid hlen1;have HLV:=Lib.hid hlive1;have HB1:=Lib.hid hb1;clear hown1 hlen1 hlive1 hb1;go_wp2_with fail;have HB2:=Lib.hid (bnew HB1.out (.cells (madeCells #[.int .i64 0] n) 3));have HL2:=Lib.hid (za2 HL1.out (bnew (za0 w1) (.cells (madeCells #[.int .i64 0] n) 3)));have HC2:=Lib.hid (zgj w1 (.int .i64 0) n (by omega) 3 rfl HB1.out.size);clear HL1 HB1;generalize w1.alloc (.cells (madeCells #[.int .i64 0] n) 3)=W2 at*;generalize w1.heap.size=cb0 at*;have HCI:Hid (ClsIn n (List.replicate n 0)):=⟨by simp,fun x hx=>by rw[(List.mem_replicate.1 hx).2];omega⟩;have HCO:Hid (zmh (auOf d) n (zi1 (List.replicate n 0))):=fun x hx y hy _=>by
  unfold zi1;rw[List.getD_eq_getElem?_getD,List.getD_eq_getElem?_getD,List.getElem?_replicate,List.getElem?_replicate,if_pos hx,if_pos hy]
 have HC3:Hid (W2.ownsRow w.heap.size 3 1 (.slice (some ⟨cb0,0,none⟩) n n) n ((List.replicate n (0:Int)).map (.int .i64))):=by rw[List.map_replicate];exact HC2.out
 clear HC2;go_loopw [4,5] (fun cv nv wr=>∃(cb count:Nat) (C:List Int),cv=.slice (some ⟨cb,0,none⟩) n n∧nv=.int .i64 count∧count≤n∧Hid (Below w.heap.size w wr)∧Hid (wr.ownsRow w.heap.size 4 1 (.slice Ao n co) n (L.map .bool))∧Hid (wr.ownsRow w.heap.size 3 1 (.slice (some ⟨cb,0,none⟩) n n) n (C.map (.int .i64)))∧Hid (ClsIn n C∧zmh (auOf d) n (zi1 C)∧(count=0∨Onto n (zi1 C) count))) (fun _ nv _=>n+1-(intOf nv).toNat)
 case atStart=>exact⟨cb0,0,_,rfl,rfl,Nat.zero_le _,HB2,HL2,HC3,HCI.out,HCO.out,.inl rfl⟩
 case round=>
  clear HB2 HL2 HC3 HCI HCO;obtain⟨cb,count,C,rfl,rfl,hcn,HB,HLV1,HCL,HP⟩:=hrel;have hcbl:=(zb3 HCL.out).2.1;have hws:=HB.out.size;have i0:(0:Int)≤(n:Int):=by omega
  have hm0:=World.ownsMap_made (H:=Unit) wr Tryz.prog 9 (plainElem Tryz.prog 3);have HR0:Hid (LeR w ((wr.alloc (.map #[] 0)).alloc (.cells (madeCells #[.int .i64 0] n) 3)) n Ao co L cb C wr.heap.size 0 (.map []) (wr.heap.size+1) (List.replicate n 0)):=by
   refine⟨bnew (bnew HB.out _) _,za2 (za2 HLV1.out (bnew (za0 _) _)) (bnew (za0 _) _),za2 (za2 HCL.out (bnew (za0 _) _)) (bnew (za0 _) _),hm0.alloc _,?_,hws,by omega⟩;rw[List.map_replicate];exact zgj _ (.int .i64 0) n (by omega) 3 (by simp) (by simp;omega)
  clear hm0;go_wp2_with fail;have HT0:=Lib.hid (TxtP.start (txt d L C) (List.replicate n 0));have HX0:Hid ((List.replicate n (0:Int)).length=n):=List.length_replicate;have HK0:Hid (zq6 (.map []) []):=zs0;clear hcbl hws HB HLV1 HCL;generalize(wr.alloc (.map #[] 0)).alloc (.cells (madeCells #[.int .i64 0] n) 3)=W3 at*;generalize wr.heap.size=kb at*;go_loopw [23] (fun iv wj=>∃(i nn:Nat) (N:DataW Unit) (ss:List (List UInt8)) (X:List Int),iv=.int .i64 i∧i≤n∧nn≤i∧Hid (LeR w wj n Ao co L cb C kb nn N (kb+1) X)∧Hid (zq6 N ss)∧Hid (TxtP (txt d L C) i ss X∧X.length=n)) (fun iv _=>n-(intOf iv).toNat)
  case atStart=>exact⟨0,0,_,_,_,rfl,Nat.zero_le _,Nat.le_refl _,HR0,HK0,HT0.out,HX0.out⟩
  case round=>
   clear HR0 HK0 HT0 HX0;obtain⟨i,nn,N,ss,X,rfl,hin,hnn,HR,HK,HX⟩:=hrel;by_cases hlt:i<n
   ·obtain⟨x,hx⟩:∃x,H[i]? =some x:=⟨H[i]'(by have:=HS.out.len;omega),List.getElem?_eq_getElem _⟩;have hdx:d[i]? =some x.d:=by rw[←HD.out,List.getElem?_map,hx];rfl
    obtain⟨lv,hlv⟩:∃b,L[i]? =some b:=⟨L[i]'(by rw[HLL.out];exact hlt),List.getElem?_eq_getElem _⟩;obtain⟨cv,hcv⟩:∃z,C[i]? =some z:=⟨C[i]'(by rw[HP.out.1.len];exact hlt),List.getElem?_eq_getElem _⟩;have HTX:=Lib.hid (z64 (L:=L) (C:=C) hdx hlv hcv);have hcp:∀z∈C,0≤z∧z≤1000000:=fun z hz=>by have:=HP.out.1.in_ z hz;omega
    have hgd:=HG.out;have hxs:=hgd.asc _ (List.mem_of_getElem? hdx);have hxt:∀a∈x.d.2,0≤a.2.2∧a.2.2<(n:Int):=by rw[←HDL.out];exact hgd.to_ _ (List.mem_of_getElem? hdx)
    have hbs:=HR.out.bel.size;have HSG:=Lib.hid (z9h wr wr.heap.size (Nat.le_refl _) A n c H (HS.out.keep (HR.out.bel.mono hB) (Nat.le_trans hB hbs)) (by omega) Ao co L ⟨HLL.out,Sl.of_own HR.out.lv⟩ (some ⟨cb,0,none⟩) n C ⟨HP.out.1.len,Sl.of_own HR.out.cl⟩ hcp i x hx hxs hxt (HT.out.below HR.out.bel) cv hcv lv hlv);rw[←HTX.out]at HSG;have htl:=zGj (L:=L) hgd hcp i;obtain⟨t,ht⟩:∃t,txt d L C i=t:=⟨_,rfl⟩;have HTT:=Lib.hid ht;rw[ht]at HSG htl;have i1:(0:Int)≤(i:Int):=by omega
    have i2:(i:Int)<(n:Int):=by omega
    clear hx hdx hlv hcv hcp hgd hxs hxt ht HTX hbs;go_wp2_with fail;refine HSG.out.mono ?_;rintro e w6 ⟨rfl,hb6⟩;have HR6:=Lib.hid (HR.out.keep hb6);clear hb6 HR HSG;have hn6:=zn2 HR6.out.nx i;have hn6l:=(zb3 HR6.out.nx).2.1;have HTL:Hid (t.length≤maxLen):=by show _≤_;unfold maxLen;omega
    have hkn:=HK.out.1.2 t;obtain⟨xi,hxi⟩:∃z,X[i]? =some z:=⟨X[i]'(by rw[HX.out.2];exact hlt),List.getElem?_eq_getElem _⟩;have hn6c:=zak (j:=i) (u:=.int .i64 xi) HR6.out.nx (by rw[List.getElem?_map,hxi];rfl);have HXI:=Lib.hid hxi;clear hxi;cases hq:idx ss t with
    |
     some q=>
     rw[hq]at hkn;have hlk:=zjd HR6.out.kn t HTL.out;have hlk1:=z15 HR6.out.kn t HTL.out;rw[hkn.1,hkn.2]at hlk;rw[hkn.2]at hlk1;have HXN:Hid (TxtP (txt d L C) (i+1) ss (X.set i (q:Int))∧(X.set i (q:Int)).length=n):=⟨HX.out.1.old (by rw[HTT.out];exact hq) (by rw[HX.out.2];exact hlt),by rw[List.length_set];exact HX.out.2⟩;have HRN:=Lib.hid (HR6.out.setN i (q:Int));clear hkn hq HX;go_wp2_with fail;go_roundw;case rel=>exact⟨i+1,nn,N,ss,_,by go_num,by omega,by omega,HRN,HK,HXN⟩
     case measure=>simp[intOf];omega
    |
     none=>
     rw[hq]at hkn;have hlk:=zjd HR6.out.kn t HTL.out;rw[hkn]at hlk;have hlen:=zG8 HR6.out.kn;rw[HK.out.2]at hlen;have hss:ss.length≤20000:=by have:=HX.out.1.few;omega
     obtain⟨K,hKe⟩:∃K:ByteArray,⟨t.toArray⟩=K:=⟨_,rfl⟩;have hKd:K.data.toList=t:=by rw[←hKe]
     have hKz:K.size≤maxLen:=by rw[←hKe,size_mk];exact HTL.out
     obtain⟨w7,run7,ho7,ht7⟩:=World.ownsMap.store (w:=w6) HR6.out.kn lawS Tryz.underlying66 (by unfold maxLen;omega) (key:=.string K) (val:=.int .i64 (ss.length:Nat)) (Go.WideMaps.keyOf_string_mk Tryz.underlying9 hKz) (plainElem_int Tryz.underlying3 (WalkArith.wf_i64 (by omega)));rw[hKd]at ho7;have HR7:=Lib.hid (HR6.out.putK ho7 ht7.grown);have HKN:=Lib.hid (HK.out.snoc (HR6.out.kn.tidy lawS) hq);have hlk1:=z15 HR7.out.kn t HTL.out;have hnum:numD (N.put (.string t) (.lit (.int .i64 (ss.length:Nat)))) t=(ss.length:Int):=by
      have h1:=HKN.out.1.2 t;rw[zii,hq]at h1;simp only[if_true]at h1;exact h1.2
     rw[hnum]at hlk1;have hn7:=zn2 HR7.out.nx i;have hn7l:=(zb3 HR7.out.nx).2.1;have hn7c:=zak (j:=i) (u:=.int .i64 xi) HR7.out.nx (by rw[List.getElem?_map,HXI.out];rfl);have HXN:Hid (TxtP (txt d L C) (i+1) (ss++[t]) (X.set i (ss.length:Nat))∧(X.set i (ss.length:Nat)).length=n):=⟨by have h1:=HX.out.1.new (i:=i) (by rw[HTT.out];exact hq) (by rw[HX.out.2];exact hlt);rw[HTT.out]at h1;exact h1,by rw[List.length_set];exact HX.out.2⟩;have HRN:=Lib.hid (HR7.out.setN i (ss.length:Nat));rw[hKe]at hlk hlk1⊢;clear hkn hq HX ho7 ht7 hnum hKe hKd hKz hn6c hn6 hn6l;go_wp2_with fail;go_roundw;case rel=>exact⟨i+1,nn+1,_,ss++[t],_,by go_num,by omega,by omega,HRN,HKN,HXN⟩
     case measure=>simp[intOf];omega
   ·obtain rfl:n=i:=by omega
    have HRD:=Lib.hid (TxtP.round HG.out HLV.out (by rw[HDL.out];exact HLL.out) (by rw[HDL.out];exact HP.out.1) (by rw[HDL.out];exact HX.out.2) (by rw[HDL.out];exact HX.out.1));rw[HDL.out]at HRD;have hle:=z82 HRD.out.1.onto;have hpos:0<ss.length:=Nat.lt_of_le_of_lt (Nat.zero_le _) (HRD.out.1.onto.1 0 hn);have HPOS:=Lib.hid hpos;have HW:Hid (zq5 (auOf d) n):=by rw[←HDL.out];exact HG.out.within
    have hlen:=zG8 HR.out.kn;rw[HK.out.2]at hlen;obtain⟨m,hm⟩:∃m,ss.length=m:=⟨_,rfl⟩;rw[hm]at HRD hle hlen HPOS;clear hm hpos;by_cases he:m=count
    ·subst he;have HON:Hid (Onto n (zi1 C) m):=by
      rcases HP.out.2.2 with h0|h0
      ·have:=HPOS.out;omega
      ·exact h0
     have HARG:Hid (NuArgs wr wr.heap.size A n c H Ao L (some ⟨kb+1,0,none⟩) X):=by
      refine⟨HS.out.keep (HR.out.bel.mono hB) (Nat.le_trans hB HR.out.bel.size),hn,⟨HLL.out,Sl.of_own HR.out.lv⟩,⟨HX.out.2,Sl.of_own HR.out.nx⟩,by rw[HD.out];exact HG.out,by rw[HD.out];exact HLV.out,HRD.out.2.in_,?_⟩;rw[HD.out];intro x hx y hy
      exact HRD.out.1.last HW.out HP.out.2.1 HON.out hx hy
     go_wp2_with fail;refine(zvj wr wr.heap.size (Nat.le_refl _) A n c H Ao co L (some ⟨kb+1,0,none⟩) n X HARG.out).mono ?_;rintro e w9 ⟨v,hs,rfl,hown,hli,hln,hb9⟩;rw[HD.out]at hli;have HLI:=Lib.hid hli;have HO:=Lib.hid hown;have HB9:=Lib.hid hb9;clear hown hli hb9;go_wp2_with fail;go_ret;exact⟨_,hs,rfl,⟨own_lower HO.out.out HR.out.bel.size,fun z hz=>own_lower (HO.out.fam.own z hz) HR.out.bel.size,HO.out.fam.ap⟩,HLI.out,hln,za9 HR.out.bel HB9.out⟩
    ·have q1:((m:Int)==(count:Int))=false:=by simp;omega
     have q2:(m==count)=false:=by simpa using he
     have HCN:Hid (count<m):=by
      show _<_;rcases HP.out.2.2 with h0|h0
      ·have:=HPOS.out;omega
      ·have:=HRD.out.1.more HP.out.2.1 h0;omega
     have HCO:=Lib.hid (HRD.out.1.coarse HW.out HP.out.2.1);have HB:=Lib.hid HR.out.bel;have HL9:=Lib.hid HR.out.lv;have HX9:=Lib.hid HR.out.nx;clear he HX;go_wp2_with fail;go_roundw;case rel=>exact⟨kb+1,m,X,rfl,rfl,hle,HB,HL9,HX9,HRD.out.2,HCO.out,.inr HRD.out.1.onto⟩
     case measure=>have:=HCN.out;simp[intOf];omega
end
end Go.Proofs.YtaociahafamncaaGreatDoor
