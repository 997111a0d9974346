/- Folded. -/
import Derived.Test.YtaociahafamncaaGreatDoorHM23
import Derived.WalkArith
set_option maxRecDepth 100000
set_option maxHeartbeats 40000000
set_option linter.unusedVariables false
namespace Go.Proofs.YtaociahafamncaaGreatDoor
section
open Go.RowKit Go.Maps
theorem z5k(w:World)(B:Nat)(hB:B≤w.heap.size)(A:Option Addr)(n c:Nat)(H:List Sh)(h:StsIn w B A n c H)(hg:Good (H.map (·.d))):
  Calls Tryz.prog 28 #[.slice A n c] w fun e w'=>∃ob oc L,e=.returned (.slice (some ⟨ob,0,none⟩) n oc)∧SpR w w' ob oc n L∧Gone (H.map (·.d)) L:=by
 have HS:=Lib.hid h;have hlen:=h.len;obtain⟨d,hd⟩:∃d,H.map (·.d)=d:=⟨_,rfl⟩;have HD:=Lib.hid hd;have hll:d.length=n:=by rw[←hd,List.length_map];exact hlen
 have HLL:=Lib.hid hll;have hnp:0<n:=by rw[←hll,←hd];exact List.length_pos_iff.2 hg.ne
 rw[hd]at hg⊢;have HG:=Lib.hid hg;have hcm:n≤20000:=by rw[←hll];exact hg.few
 have hmk:=zob n (by omega);have HR1:Hid (SpR w (w.alloc (.cells (madeCells #[.bool false] n) 4)) w.heap.size n n (List.replicate n false)):=⟨by
  have h1:=zgj w (.bool false) n (by omega) 4 rfl (Nat.le_refl w.heap.size);rw[List.map_replicate];exact h1,bnew (za0 w) _⟩
 clear h hg hd hll;go_enter Tryz.func28,Tryz.ntmps28
 go_wp2_with fail;generalize w.alloc (.cells (madeCells #[.bool false] n) 4)=w1 at*;obtain⟨ob,hob⟩:∃k,w.heap.size=k:=⟨_,rfl⟩;have HR2:Hid (SpR w w1 ob n n ((d.take 0).map (fun s=> !s.1)++List.replicate (n-0) false)):=by rw[←hob];exact HR1.out
 rw[hob];clear HR1 hmk hob;go_loopw [14] (fun iv wr=>∃i:Nat,i≤n∧iv=.int .i64 i∧Hid (SpR w wr ob n n ((d.take i).map (fun s=> !s.1)++List.replicate (n-i) false))) (fun iv _=>n-(intOf iv).toNat)
 case atStart=>exact⟨0,Nat.zero_le _,rfl,HR2⟩
 case round=>
  clear HR2;obtain⟨i,hi,rfl,HR⟩:=hrel;by_cases hin:i<n
  ·obtain⟨x,hx⟩:∃x,H[i]? =some x:=⟨H[i]'(by omega),List.getElem?_eq_getElem _⟩;obtain⟨b,off,rfl,hb,hcell⟩:=(HS.out.keep (HR.out.bel.mono hB) (Nat.le_refl _)).at_ (by omega);obtain⟨k0,_⟩:=hcell i x hx;have hbs:=HR.out.bel.size;have hbw:b<wr.heap.size:=by omega
   have hi2:(i:Int)<(n:Int):=by omega
   have hdx:d[i]? =some x.d:=by rw[←HD.out,List.getElem?_map,hx];rfl
   have htl:((d.take i).map (fun s=> !s.1)).length=i:=by rw[List.length_map,List.length_take,HLL.out];omega
   have o0:=HR.out.get (t:=i) (b:=false) (by
    rw[List.getElem?_append_right (by omega),htl,Nat.sub_self,List.getElem?_replicate,if_pos (by omega)])
   have HS1:=Lib.hid (HR.out.set i (!x.d.1));have hfz:=HS1.out.2.1;have how:=HS1.out.2.2;have HRN:Hid (SpR w (wr.setCell ⟨ob,i,none⟩ (.bool (!x.d.1))) ob n n ((d.take (i+1)).map (fun s=> !s.1)++List.replicate (n-(i+1)) false)):=by
    have h1:=HS1.out.1;have h2:((d.take i).map (fun s=> !s.1)++List.replicate (n-i) false).set i (!x.d.1)=(d.take (i+1)).map (fun s=> !s.1)++List.replicate (n-(i+1)) false:=by
     rw[List.set_append_right _ _ (by omega),htl,Nat.sub_self,List.take_add_one,hdx,show n-i=(n-(i+1))+1 by omega,List.replicate_succ];simp
    rw[h2]at h1;exact h1
   obtain⟨fx,hfx⟩:∃f,x.d.1=f:=⟨_,rfl⟩;rw[hfx]at k0 HRN;clear hcell hx hdx htl HS1 HR hfx;cases fx
   all_goals
    go_wp2_with fail;go_roundw;case rel=>exact⟨i+1,by omega,by go_num,HRN⟩
    case measure=>simp[intOf];omega
  ·obtain rfl:i=n:=by omega
   have HR1:Hid (SpR w wr ob i i (d.map fun s=> !s.1)):=by
    have h1:=HR.out;rw[←HLL.out,Nat.sub_self,List.take_length,List.replicate_zero,List.append_nil]at h1;rw[←HLL.out];exact h1
   have HP1:Hid (DdP d (d.map fun s=> !s.1)∧(true=false→DdTo d (d.map fun s=> !s.1) d.length 0)):=⟨z9i,fun h=>by cases h⟩;clear HR;generalize hL0:(d.map fun s=> !s.1)=L0 at HR1 HP1;clear hL0;go_wp2_with fail;go_loopg [5] (2*ons L0+1) (fun gk mv wr=>∃(L:List Bool) (more:Bool),mv=.bool more∧Hid (SpR w wr ob i i L)∧Hid (DdP d L∧(more=false→DdTo d L d.length 0))∧Hid (2*ons L+(if more then 1 else 0)≤gk))
   case atStart=>exact⟨L0,true,rfl,HR1,⟨HP1.out.1,fun h=>by cases h⟩,Nat.le_refl _⟩
   case round=>
    clear HR1 HP1;obtain⟨L,more,rfl,HR,HP,HK⟩:=hrel;cases more
    ·have HE:=Lib.hid (zEa HP.out.1 (HP.out.2 rfl));clear HP HK;go_wp2_with fail;go_ret;exact⟨_,_,L,rfl,HR.out,HE.out⟩
    ·have HP2:Hid (DdP d L∧DdTo d L 0 0∧2*ons L+0+1≤gk):=⟨HP.out.1,.zero _ _,HK.out⟩;clear HP HK;go_wp2_with fail;go_loopw [5,30] (fun mv iv wr=>∃(q:Nat) (L:List Bool) (more:Bool),q≤i∧mv=.bool more∧iv=.int .i64 q∧Hid (SpR w wr ob i i L)∧Hid (DdP d L∧(more=false→DdTo d L q 0)∧2*ons L+(if more then 1 else 0)+1≤gk)) (fun _ iv _=>i-(intOf iv).toNat)
     case atStart=>exact⟨0,L,false,Nat.zero_le _,rfl,rfl,HR,Lib.hid ⟨HP2.out.1,fun _=>HP2.out.2.1,HP2.out.2.2⟩⟩
     case round=>
      clear HR HP2;obtain⟨q,L,more,hq,rfl,rfl,HR,HP⟩:=hrel;by_cases hqn:q<i
      ·obtain⟨x,hx⟩:∃x,H[q]? =some x:=⟨H[q]'(by omega),List.getElem?_eq_getElem _⟩;obtain⟨b,off,rfl,hb,hcell⟩:=(HS.out.keep (HR.out.bel.mono hB) (Nat.le_refl _)).at_ (by omega);obtain⟨_,k1⟩:=hcell q x hx;have hbs:=HR.out.bel.size;have hbw:b<wr.heap.size:=by omega
       have HX:=Lib.hid hx;obtain⟨m,hm⟩:∃m,x.d.2.length=m:=⟨_,rfl⟩;have HM:=Lib.hid hm;rw[hm]at k1;have hq2:(q:Int)<(i:Int):=by omega
       clear hx hcell hm;go_wp2_with fail;refine zGh w wr B hB _ i c H HS d HD HG hlen hcm q hqn x HX m HM ob i gk L more HR HP _ _ _ _ _ _ _ _ _ _ _ _ _ _ _ _ _ _ _ _ _ _ _ _ _ _ _ _ _ _ _ _ _ _ _ _ _ _ _ _ _ _ _ _ _ _ _ _ _ _ _ _ _ _ _ _ (fun c a a' w hd h=>by cases a;cases a';cases hd;exact h) ?_;intro L more W x39 u8 u40 u41 u42 u43 u44 u45 u46 u47 u48 u49 u50 u51 u52 u53 u54 u55 u56 u57 u58 HR HP
       go_wp2_with fail;go_roundw;case rel=>exact⟨q+1,L,more,by omega,rfl,by go_num,HR,HP⟩
       case measure=>simp[intOf];omega
      ·obtain rfl:q=i:=by omega
       have HPZ:Hid (DdP d L∧(more=false→DdTo d L d.length 0)):=⟨HP.out.1,by rw[HLL.out];exact HP.out.2.1⟩;have HKZ:Hid (2*ons L+(if more then 1 else 0)+1≤gk):=HP.out.2.2;clear HP;go_wp2_with fail;go_roundg (gk-1)
       case measure=>have:=HKZ.out;omega
       case rel=>exact⟨L,more,rfl,HR,HPZ,by have:=HKZ.out;show _≤_;omega⟩
end
section
open Go.RowKit Go.Maps
open F (Ent Nd Nh gath gath_s Fine byteAt DictAt waysC wayC allE entsC)
def zff(l:List Ent)(d:List St):List Ent:=l.filter fun e=>zee d e.1
theorem zG6{ds:List Nd}(hf:Fine ds){d:List St}(hg:Good d){L:List Bool}(hG:Gone d L)(base:Int)(hn:ds≠[]):mtE ds (auOf d) (fun q=>L.getD q false) ds.length (ds.length-1) [] base 0=zff (allE ds base) d:=by
 rw[z0h hf (auOf d) (dead:=fun q=>L.getD q false) (fun q hq s=>by
  have hq2:L[q]? =some true:=by
   have h1:(L[q]?).getD false=true:=by rw[←List.getD_eq_getElem?_getD];exact hq
   cases h:L[q]? with
   |none=>rw[h]at h1;cases h1
   |some b=>rw[h]at h1;simp at h1;rw[h1]
  have hl:=(List.getElem?_eq_some_iff.1 hq2).1;have h3:=(hG.2 q (by rw[←hG.1];exact hl)).1 hq2;cases hb:(auOf d).acc q s with
  |false=>rfl
  |true=>exact absurd ⟨s,hb⟩ h3)]
 unfold zff F.allE;rw[if_neg hn];refine List.filter_congr fun e _=>?_
 unfold zee;rw[decide_eq_true ((ze1 d).2 hg),Bool.true_and];rfl
def zl9(w:World)(most:Nat)(L:List Ent):Ending→World→Prop:=fun e w'=>∃v,e=.returned (.tuple #[v,.bool (decide (most<L.length))])∧w'.ownsRow w.heap.size 29 2 v (L.take most).length (entsC (L.take most))∧Below w.heap.size w w'
theorem zrh{w w':World}{most:Nat}(hb:Below w.heap.size w w'):zl9 w most [] (.returned (.tuple #[.slice none 0 0,.bool false])) w':=by
 unfold zl9;rw[List.take_nil];exact⟨_,by simp,⟨rfl,.inl ⟨rfl,rfl⟩⟩,hb⟩
theorem zi8(w:World)(p B n c:Nat)(A':Option Addr)(base cnt:Int)(hs:List Nh)(hd:DictAt w p B A' n c base cnt hs)(hf:Fine (hs.map (·.d)))(hwl:∀x∈hs,x.d.ways.length≤65536)(hn:n≤1125899906842624)(B2:Nat)(hB2:B2≤w.heap.size)(A:Option Addr)(na ca:Nat)(H:List Sh)(h:StsIn w B2 A na ca H)(z:Int)(hz: -9223372036854775808≤z∧z≤9223372036854775807)(hl:(allE (hs.map (·.d)) base).length≤1048576):
  Calls Tryz.prog 14 #[.pointer (some ⟨p,0,none⟩),.slice A na ca,.int .i64 z] w (zl9 w (max z 0).toNat (zff (allE (hs.map (·.d)) base) (H.map (·.d)))):=by
 have HR:=Lib.hid (F.root_any w p B n c A' base cnt hs hd);have HD:=Lib.hid hd;have HS:=Lib.hid h;have hlen:=hd.len;by_cases h0:n=0
 ·subst h0;have hLe:zff (allE (hs.map (·.d)) base) (H.map (·.d))=[]:=by
   have:hs=[]:=List.eq_nil_of_length_eq_zero hlen;rw[this];rfl
  rw[if_pos rfl,if_pos rfl]at HR;rw[hLe];clear hd hf hwl h hl hlen;go_enter Tryz.func14,Tryz.ntmps14
  go_wp2_with fail;refine HR.out.mono ?_;rintro e w1 ⟨rfl,hb1⟩;have HB1:=Lib.hid hb1;clear hb1;go_wp2_with fail;go_ret2;exact zrh HB1.out
 rw[if_neg h0,if_neg h0]at HR;by_cases hck:zb2 (H.map (·.d))=0
 ·have hg:=(ze1 _).1 hck;obtain⟨i,hi⟩:∃i:Nat,n=i+1:=⟨n-1,by omega⟩;have hne:hs.map (·.d)≠[]:=by
   intro e
   rw[List.map_eq_nil_iff]at e;rw[e]at hlen;exact h0 hlen.symm
  rw[show(n:Int)-1=(i:Int) by omega]at HR;obtain⟨mo,hmo⟩:∃m:Nat,max z 0=(m:Int):=⟨(max z 0).toNat,by omega⟩;rw[hmo,Int.toNat_natCast];have hmo2:mo≤9223372036854775807:=by omega
  obtain⟨R,hR⟩:∃R,zff (allE (hs.map (·.d)) base) (H.map (·.d))=R:=⟨_,rfl⟩;rw[hR];go_enter Tryz.func14,Tryz.ntmps14
  go_wp2_with fail;refine HR.out.mono ?_;rintro e w1 ⟨rfl,hb1⟩;have HB1:=Lib.hid hb1;clear hb1;go_wp2_with fail;refine(ze9 w1 B2 (by have:=HB1.out.size;omega) A na ca H (HS.out.keep (HB1.out.mono hB2) (Nat.le_refl _))).mono ?_;rintro e w2 ⟨rfl,hb2⟩;rw[hck];have HB2:=Lib.hid (za9 HB1.out hb2);clear hb2;go_wp2_with fail;refine(z5k w2 B2 (by have:=HB2.out.size;omega) A na ca H (HS.out.keep (HB2.out.mono hB2) (Nat.le_refl _)) hg).mono ?_;rintro e w3 ⟨ob,oc,L,rfl,hsp,hgo⟩;have HB3:=Lib.hid (za9 HB2.out hsp.bel);have hob:=(zb3 hsp.own).2.1;have hLl:L.length=na:=hsp.len;have hna:(H.map (·.d)).length=na:=by rw[List.length_map];exact HS.out.len
  have hna0:0<na:=by rw[←hna];exact List.length_pos_iff.2 hg.ne
  obtain⟨mb,hmb⟩:∃k,w3.heap.size=k:=⟨_,rfl⟩;have hwmb:w.heap.size≤mb:=by rw[←hmb];exact HB3.out.size
  have hS3:StsIn w3 mb A na ca H:=HS.out.keep (HB3.out.mono hB2) (by omega);have hmat:MatAt (w3.alloc (.cells #[.pointer (some ⟨p,0,none⟩),.slice A na ca,.slice (some ⟨ob,0,none⟩) na oc,.int .i64 (mo:Int),.slice none 0 0,.bool false] 62)) mb p na ca A ob oc mo (.slice none 0 0) [] false:=⟨by rw[←hmb];exact heap_alloc_new w3 _,⟨rfl,.inl ⟨rfl,rfl⟩⟩⟩;have HAL:=Lib.hid (zx6 w3 mb hmb p B n c A' base cnt hs (hd.keep HB3.out) hf hwl A na ca H hS3 _ (Lib.hid rfl) (Lib.hid hg) hna ob oc mo L hLl hsp.cap (by omega) (fun q b hb=>hsp.get hb) hmo2 (i+1) i (by omega) (by omega) (w3.alloc (.cells #[.pointer (some ⟨p,0,none⟩),.slice A na ca,.slice (some ⟨ob,0,none⟩) na oc,.int .i64 (mo:Int),.slice none 0 0,.bool false] 62)) _ [] false [] base 0 hmat (by have:=bnew (za0 w3) (.cells #[.pointer (some ⟨p,0,none⟩),.slice A na ca,.slice (some ⟨ob,0,none⟩) na oc,.int .i64 (mo:Int),.slice none 0 0,.bool false] 62);rw[hmb]at this;exact this) hna0 (by simp;omega) (by
   have e:=zG6 hf hg hgo base hne;rw[List.length_map,hlen,hi]at e;rw[Nat.add_sub_cancel]at e;rw[e];have:=List.length_filter_le (fun e=>zee (H.map (·.d)) e.1) (allE (hs.map (·.d)) base);unfold zff;simp
   omega))
  have hL:mtE (hs.map (·.d)) (auOf (H.map (·.d))) (fun q=>L.getD q false) (i+1) i [] base 0=zff (allE (hs.map (·.d)) base) (H.map (·.d)):=by
   have e:=zG6 hf hg hgo base hne;rw[List.length_map,hlen,hi,Nat.add_sub_cancel]at e;exact e
  rw[hL]at HAL;have hrun:zk5 mo ([],false) (zff (allE (hs.map (·.d)) base) (H.map (·.d)))=((zff (allE (hs.map (·.d)) base) (H.map (·.d))).take mo,decide (mo<(zff (allE (hs.map (·.d)) base) (H.map (·.d))).length)):=by
   have:=zv9 mo (zff (allE (hs.map (·.d)) base) (H.map (·.d))) [] (Nat.zero_le _);rw[List.nil_append]at this;exact this
  rw[hrun]at HAL;rw[hR]at HAL;have HBM:Hid (Below w.heap.size w (w3.alloc (.cells #[.pointer (some ⟨p,0,none⟩),.slice A na ca,.slice (some ⟨ob,0,none⟩) na oc,.int .i64 (mo:Int),.slice none 0 0,.bool false] 62))):=bnew HB3.out _;have HMT:=Lib.hid hmat
  have HMB:=Lib.hid hwmb;clear hsp hgo hLl hna hna0 hS3 hmat hL hrun hR hd hf hwl h hl hlen hne hck hg HB1 HB2 HB3 HR HD HS hob hi hz hmo hmo2 hn hwmb h0;go_wp2_with fail;refine HAL.out.mono ?_;rintro e w5 ⟨rfl,v,hm5,hbut,_⟩;obtain⟨RT,hRT⟩:∃l,R.take mo=l:=⟨_,rfl⟩;have HRT:=Lib.hid hRT
  (try simp only at hm5)
  rw[hRT]at hm5;clear hRT;obtain⟨Av,cv,rfl,_⟩:=za1 hm5.own;obtain⟨_,_,_,_,c4,c5⟩:=hm5.cells
  (try simp only at c4 c5)
  have HM5:=Lib.hid hm5;have HB5:=Lib.hid (HBM.out.trans (hbut.below HBM.out.size (fun b hb=>by
   have:=HMT.out.low hb;have:=HMB.out;omega)))
  have hmb5:=hm5.lt;clear hm5 hbut HAL;go_wp2_with fail;go_quiet (fail)
  go_wp2_with fail;go_ret2;refine⟨_,rfl,?_,below_drewN HB5.out nq⟩;rw[HRT.out];exact F.own_lower HM5.out.own (by have:=HMB.out;omega)
 ·have hcn:(zb2 (H.map (·.d)) !=0)=true:=by simpa using hck
  have hLe:zff (allE (hs.map (·.d)) base) (H.map (·.d))=[]:=by
   unfold zff;refine List.filter_eq_nil_iff.2 fun e _=>?_
   unfold zee;rw[decide_eq_false hck];simp
  rw[hLe];obtain⟨E,hE⟩:∃E,zb2 (H.map (·.d))=E:=⟨_,rfl⟩;have HE:=Lib.hid hE;rw[hE]at hcn;clear hd hf hwl h hl hlen hE hck;obtain⟨i,hi⟩:∃i:Nat,n=i+1:=⟨n-1,by omega⟩;rw[show(n:Int)-1=(i:Int) by omega]at HR;go_enter Tryz.func14,Tryz.ntmps14
  go_wp2_with fail;refine HR.out.mono ?_;rintro e w1 ⟨rfl,hb1⟩;have HB1:=Lib.hid hb1;clear hb1 hi;go_wp2_with fail;refine(ze9 w1 B2 (by have:=HB1.out.size;omega) A na ca H (HS.out.keep (HB1.out.mono hB2) (Nat.le_refl _))).mono ?_;rintro e w2 ⟨rfl,hb2⟩;rw[HE.out];have HB2:=Lib.hid (za9 HB1.out hb2);clear hb2;go_wp2_with fail;go_ret2;exact zrh HB2.out
end
section
open Go.RowKit Go.Shelf
theorem zqi:Elem Tryz.prog 108 5 1 1:=Elem.mk_ Tryz.underlying108 (z:=.int .u8 0) (by kernel_rfl) rfl (by omega)
theorem z34(B b:Nat)(bs:List Value)(ch:Int)(w:World)(h:Lib.IsBuilder 113 5 B b bs w)(hlen:bs.length+1≤1407374883553)(hBw:B≤w.heap.size):
  Calls Tryz.prog 52 #[.pointer (some ⟨b,0,none⟩),.int .u8 ch] w fun e w'=>e=.returned .nilIface∧(Lib.IsBuilder 113 5 B b (bs++[.int .u8 ch]) w'∧Below B w w'∧zbi b w w'):=by
 go_enter Tryz.func52,Tryz.ntmps52
 go_wp2_with fail;refine(check_any B b bs _ h).mono ?_;rintro e w1 ⟨rfl,h1,hb1,ho1⟩;obtain⟨hB,v,hbk,hown,hne⟩:=h1;have c0:w1.cell? ⟨b,0,none⟩=some (.pointer (some ⟨b,0,none⟩)):=by rw[Lib.cell_of_heap hbk];rfl
 have c1:w1.cell? ⟨b,1,none⟩=some v:=by rw[Lib.cell_of_heap hbk];rfl
 have hlt:b<w1.heap.size:=by
  rcases Nat.lt_or_ge b w1.heap.size with h'|h'
  ·exact h'
  ·simp[Array.getElem?_eq_none h']at hbk
 have hbw1:B≤w1.heap.size:=Nat.le_trans hBw hb1.size;obtain⟨A1,cap1,rfl,_⟩:=za1 hown;have hkeep:∀w2:World,w1.grownBy w2 (Value.slice A1 bs.length cap1).ownBlock→w2.heap[b]? =some (.cells #[.pointer (some ⟨b,0,none⟩),.slice A1 bs.length cap1] 113 (0,0)):=fun w2 hg=>by
  rw[hg.block b hlt (fun e=>hne e.symm)];exact hbk
 go_wp2_with (at_builtin;refine zab w1 w1 _ rfl _ _ _ rfl zqi (.slice A1 bs.length cap1) bs.length bs rfl hown rfl (by simp) rfl (by simp[Value.oneCell']) (by unfold maxLen;omega) (by omega) hbw1 (Below.refl _ _) ?_;intro v' w2 hown' hb2' hgrow _;obtain⟨A2,cap2,rfl,_⟩:=za1 hown';have hb2:=hkeep w2 hgrow;have d1:w2.cell? ⟨b,1,none⟩=some (.slice A1 bs.length cap1):=(Lib.cell_of_heap hb2 1).trans rfl;have f1:w2.frozen? ⟨b,1,none⟩=false:=Lib.frozen_of_heap hb2 1)
 go_ret;refine⟨rfl,.inr ?_,?_,?_⟩
 ·exact Lib.BuilderAt.put (T:=113) (e:=5) hB hb2 (bs':=bs++[.int .u8 ch]) (by simpa using hown') (by decide)
 ·exact(hb1.trans hb2').setCell (p:=⟨b,1,none⟩) hB _
 ·refine ho1.trans fun k cs t f h1 h2 h3=>?_
  rw[Below.heap_setCell _ _ _ _ h1,hgrow.block k (Array.getElem?_eq_some_iff.1 h3).1 ?_]
  ·exact h3
  ·intro e
   rcases hown.2 with⟨hv,_⟩|⟨g,cap',cur,hv,_,hg,_⟩
   ·injection hv with hv _ _
    subst hv;cases e
   ·injection hv with hv _ _
    subst hv;simp only[Value.ownBlock,Option.some.injEq]at e;subst e;rw[hg]at h3;injection h3 with h3
    injection h3 with _ h3 _
    exact h2 h3.symm
end
section
open Go.RowKit
theorem zJd{l:List Arc3}:∀n:Nat,Asc l n→l.length≤n:=by
 induction l using zhc with
 |h0=>intro n _;exact Nat.zero_le _
 |
  h1 l a ih=>
  intro n h
  have ha:=h.ok a (by simp);obtain⟨k,hk⟩:=Int.eq_ofNat_of_zero_le ha.1;have:=ih k ⟨h.pre.lt,fun b hb=>⟨(h.pre.ok b hb).1,(h.pre.ok b hb).2.1,by rw[←hk];exact(List.pairwise_append.1 h.lt).2.2 b hb a (by simp)⟩⟩;rw[List.length_append,List.length_singleton];omega
theorem asc_few{l:List Arc3}(h:Asc l 256):l.length≤256:=zJd 256 h
def arcT(a:Arc3):List UInt8:=44::(Lib.itoa a.1++45::(Lib.itoa a.2.1++58::Lib.itoa a.2.2))
def sigT(cls:Int)(fin:Bool)(l:List Arc3):List UInt8:=Lib.itoa cls++(if fin then[33]else[])++l.flatMap arcT
theorem SgR.writeb{w W:World}{b:Nat}{l:List UInt8}(h:SgR w W b l)(hb0:0<b)(c:UInt8)(hl:l.length+1≤1407374883553):
  Calls Tryz.prog 52 #[.pointer (some ⟨b,0,none⟩),.int .u8 (c.toNat:Nat)] W fun e w'=>e=.returned .nilIface∧SgR w w' b (l++[c])∧Below b W w'∧zbi b W w':=by
 refine(z34 b b (Lib.byteCells l) (c.toNat:Nat) W h.sb (by rw[Lib.byteCells_length];exact hl) (Nat.le_of_lt h.lt)).mono ?_;rintro e w' ⟨rfl,h1,h2,h3⟩;refine⟨rfl,⟨?_,h.tab.keep hb0 h2,h.bel.trans (h2.mono h.le),h.le,Nat.lt_of_lt_of_le h.lt h2.size⟩,h2,h3⟩;have e1:Lib.byteCells l++[.int .u8 (c.toNat:Nat)]=Lib.byteCells (l++[c]):=by
  simp[Lib.byteCells]
 unfold Sb;rw[←e1];exact h1
structure SgM(w W:World)(b:Nat)(l:List UInt8)(v:Value)(p:Nat)(L:List Arc3):Prop where
 r:SgR w W b l
 own:W.ownsRow w.heap.size 76 3 v p (zaa L)
theorem SgM.keep{w W W':World}{b:Nat}{l:List UInt8}{v:Value}{p:Nat}{L:List Arc3}(h:SgM w W b l v p L)(hb:Below W.heap.size W W'):SgM w W' b l v p L:=⟨h.r.keep hb,za2 h.own hb⟩
theorem zC2{w:World}{B b:Nat}{l:List UInt8}(h:Sb w B b l):∃cs,w.heap[b]? =some (.cells cs 113 (0,0)):=by
 rcases h with⟨_,v,h2,_⟩|⟨_,v,h2,_⟩
 ·exact⟨_,h2⟩
 ·exact⟨_,h2⟩
theorem SgM.stand{w W W':World}{b:Nat}{l l':List UInt8}{v:Value}{p:Nat}{L:List Arc3}(h:SgM w W b l v p L)(hr:SgR w W' b l')(ho:zbi b W W'):SgM w W' b l' v p L:=by
 refine⟨hr,h.own.1,?_⟩;rcases h.own.2 with hn|⟨g,cap,cur,rfl,hg,hh,rest⟩
 ·exact .inl hn
 ·refine .inr ⟨g,cap,cur,rfl,hg,ho g _ _ _ ?_ (by decide) hh,rest⟩;intro e
  subst e;obtain⟨cs,h2⟩:=zC2 h.r.sb;rw[hh]at h2;injection h2 with h2
  injection h2 with _ h2 _
  exact absurd h2 (by decide)
structure SgY(w W:World)(b:Nat)(l:List UInt8)(v:Value)(p:Nat)(L:List Arc3)(n:Nat)(a:Arc3):Prop where
 m:SgM w W b l v p L
 blk:W.heap[n]? =some (.cells #[.int .i64 a.1,.int .i64 a.2.1,.int .i64 a.2.2] 76 (0,0))
section
variable {w W W':World}{b n p:Nat}{l:List UInt8}{v:Value}{L:List Arc3}{a:Arc3}
theorem SgY.keep(h:SgY w W b l v p L n a)(hb:Below W.heap.size W W'):SgY w W' b l v p L n a:=⟨h.m.keep hb,(hb.block n (Array.getElem?_eq_some_iff.1 h.blk).1).trans h.blk⟩
theorem SgY.cells(h:SgY w W b l v p L n a):W.cell? ⟨n,0,none⟩=some (.int .i64 a.1)∧W.cell? ⟨n,1,none⟩=some (.int .i64 a.2.1)∧W.cell? ⟨n,2,none⟩=some (.int .i64 a.2.2):=
 ⟨cell_of_row _ n 0 _ _ (0,0) h.blk,cell_of_row _ n 1 _ _ (0,0) h.blk,cell_of_row _ n 2 _ _ (0,0) h.blk⟩
theorem SgY.write(h:SgY w W b l v p L n a)(hn:n≠b)(hb0:0<b)(s:List UInt8)(S:ByteArray)(hS:S=⟨s.toArray⟩)(hl:l.length+s.length≤4611686018427):
  Calls Tryz.prog 50 #[.pointer (some ⟨b,0,none⟩),.string S] W fun e w'=>e=.returned (.tuple #[.int .i64 S.size,.nilIface])∧SgY w w' b (l++s) v p L n a:=by
 subst hS;refine(h.m.r.write hb0 s hl).mono ?_;rintro e w' ⟨rfl,h1,_,h3⟩;exact⟨rfl,h.m.stand h1 h3,h3 n _ _ _ hn (by decide) h.blk⟩
end
theorem z2g{a:Arc3}(h:(0≤a.1∧a.1≤1000000)∧(0≤a.2.1∧a.2.1≤1000000)∧(0≤a.2.2∧a.2.2≤1000000)):(arcT a).length≤66:=by
 have l1:=Lib.itoa_length_le a.1 (by omega) (by omega);have l2:=Lib.itoa_length_le a.2.1 (by omega) (by omega);have l3:=Lib.itoa_length_le a.2.2 (by omega) (by omega);simp[arcT]
 omega
theorem zx5{l:List Arc3}(h:∀a∈l,(0≤a.1∧a.1≤1000000)∧(0≤a.2.1∧a.2.1≤1000000)∧(0≤a.2.2∧a.2.2≤1000000)):(l.flatMap arcT).length≤66*l.length:=by
 induction l with
 |nil=>simp
 |
  cons x r ih=>
  have h1:=z2g (h x (List.mem_cons_self ..));have h2:=ih fun y hy=>h y (List.mem_cons_of_mem _ hy)
  rw[List.flatMap_cons,List.length_append,List.length_cons];omega
theorem z90{L:List Bool}{C:List Int}{l:List Arc3}(hasc:Asc l 256)(hcp:∀x∈C,0≤x∧x≤1000000):∀a∈ledA (ledF L C) l,(0≤a.1∧a.1≤1000000)∧(0≤a.2.1∧a.2.1≤1000000)∧(0≤a.2.2∧a.2.2≤1000000):=by
 intro a ha
 have he:=zw4 (ledF L C) l 256 hasc;rw[he]at ha;have h1:=(zf4 (fun c:Nat=>(lookA l c).bind (ledF L C)) 256).1.ok a ha;obtain⟨c,k,_,hg,hk⟩:=zgi _ 256 a ha;have hk2:0≤a.2.2∧a.2.2≤1000000:=by
  obtain⟨t,_,h2⟩:=Option.bind_eq_some_iff.1 hg;unfold ledF at h2;split at h2
  ·injection h2 with h2
   rw[hk,←h2];have:0≤C.getD t.toNat 0∧C.getD t.toNat 0≤1000000:=by
    rw[List.getD_eq_getElem?_getD];cases hx:C[t.toNat]? with
    |none=>exact⟨by simp,by simp⟩
    |some x=>exact hcp x (List.mem_of_getElem? hx)
   omega
  ·cases h2
 have h256:a.2.1<256:=h1.2.2;exact⟨by omega,by omega,hk2⟩
theorem z9h(w:World)(B:Nat)(hB:B≤w.heap.size)(A:Option Addr)(n c:Nat)(H:List Sh)(h:StsIn w B A n c H)(hn:n≤1000000)
  (Al:Option Addr) (cl:Nat) (L:List Bool) (hL:zxb w B Al n L) (Ac:Option Addr) (cc:Nat) (C:List Int) (hC:Ints w B Ac n C) (hcp:∀x∈C,0≤x∧x≤1000000)
  (i:Nat) (x:Sh) (hx:H[i]? =some x) (hasc:Asc x.d.2 256) (hto:∀a∈x.d.2,0≤a.2.2∧a.2.2<(n:Int)) (ht:Tab w) (cv:Int) (hcv:C[i]? =some cv) (lv:Bool) (hlv:L[i]? =some lv):
  Calls Tryz.prog 55 #[.slice A n c,.slice Al n cl,.slice Ac n cc,.int .i64 i] w fun e w'=>e=.returned (.string ⟨(if lv then sigT cv x.d.1 (ledA (ledF L C) x.d.2)else[]).toArray⟩)∧Below w.heap.size w w':=by
 have HS:=Lib.hid h;have HL:=Lib.hid hL;have HC:=Lib.hid hC;have HT:=Lib.hid ht;have hin:i<n:=by rw[←h.len];exact(List.getElem?_eq_some_iff.1 hx).1
 obtain⟨lb,loff,rfl,hlb,hlc⟩:=hL.at_ (by omega);obtain⟨cb,coff,rfl,hcb,hcc⟩:=hC.at_ (by omega);have l0:=hlc i lv hlv;have c0:=hcc i cv hcv;have hcvb:=hcp cv (List.mem_of_getElem? hcv);have i0:(0:Int)≤(i:Int):=by omega
 have i1:(i:Int)<(n:Int):=by omega
 have hcbw:cb<w.heap.size:=Nat.lt_of_lt_of_le hcb hB;have hlbw:lb<w.heap.size:=Nat.lt_of_lt_of_le hlb hB;have HASC:=Lib.hid hasc;have HTO:=Lib.hid hto;have HCP:=Lib.hid hcp;have HX:=Lib.hid hx;clear hasc hto hcp;cases lv with
 |
  false=>
  clear h hL hC ht hlc hcc hcv hlv hx;go_enter Tryz.func55,Tryz.ntmps55
  go_wp2_with fail;go_ret;exact⟨rfl,za0 w⟩
 |
  true=>
  have HI:=Lib.hid (zec cv (by omega) (by omega));have li:=Lib.itoa_length_le cv (by omega) (by omega);have hb0:=ht.lt;have HB0:=Lib.hid hb0;have HST:=Lib.hid (SgR.start w HT.out (za0 w) rfl);obtain⟨b0,off0,hA0,hbB,hcell⟩:=h.at_ (by omega);obtain⟨x0,x1⟩:=hcell i x hx;subst hA0;obtain⟨hcv0,hcv1⟩:=hcvb;clear h hL hC ht hlc hcc hcv hlv hcell hx;go_enter Tryz.func55,Tryz.ntmps55
  go_wp2_with fail;refine(HI.out _ HST.out.tab).mono ?_;rintro e w1 ⟨rfl,hb1⟩;have H1:=Lib.hid (HST.out.keep hb1);clear hb1 HST HI l0 c0;obtain⟨N,hN⟩:∃N,w.heap.size=N:=⟨_,rfl⟩;rw[hN]at H1 HB0;have HN:=Lib.hid hN;rw[hN];clear hN;go_wp2_with fail;refine(SgR.write H1.out HB0.out _ (by simp;omega)).mono ?_;rintro e w2 ⟨rfl,h2,hb2,ho2⟩;rw[List.nil_append]at h2;have H2:=Lib.hid h2;clear h2 hb2 ho2 H1;have hd0:=(H2.out.bel.cell (p:=⟨b0,off0+i*2,none⟩) (Nat.lt_of_lt_of_le hbB hB)).trans x0;have hd1:=(H2.out.bel.cell (p:=⟨b0,off0+i*2+1,none⟩) (Nat.lt_of_lt_of_le hbB hB)).trans x1;clear x0 x1;obtain⟨fin,hfin⟩:∃f,x.d.1=f:=⟨_,rfl⟩;rw[hfin]at hd0;have HFIN:=Lib.hid hfin;clear hfin;obtain⟨hd,hhd⟩:∃l:List UInt8,Lib.itoa cv++(if fin then[33]else[])=l:=⟨_,rfl⟩;have HHD:=Lib.hid hhd;clear hhd;have hmx:=(HS.out.ar x (List.mem_of_getElem? HX.out)).2;obtain⟨m,hm⟩:∃m,x.d.2.length=m:=⟨_,rfl⟩;have HM:=Lib.hid hm;rw[hm]at hd1 hmx;have hm256:m≤256:=by rw[←hm];exact asc_few HASC.out
  clear hm;by_cases hf:fin=true
  focus
   subst hf;go_wp2_with fail;refine(SgR.writeb H2.out HB0.out 33 (by omega)).mono ?_;rintro e w3 ⟨rfl,h3,hb3,ho3⟩;have H3:Hid (SgR w w3 N hd):=by rw[←HHD.out];exact h3
   have hd1:=(H3.out.bel.cell (p:=⟨b0,off0+i*2+1,none⟩) (Nat.lt_of_lt_of_le hbB hB)).trans ((H2.out.bel.cell (p:=⟨b0,off0+i*2+1,none⟩) (Nat.lt_of_lt_of_le hbB hB)).symm.trans hd1);clear h3 hb3 ho3 H2 hd0;go_wp2_with fail
  rotate_left
  focus
   rw[Bool.not_eq_true]at hf;subst hf;have H3:Hid (SgR w w2 N hd):=by rw[←HHD.out];simpa using H2
   clear H2;go_wp2_with fail
  rotate_left
  all_goals
   have HLK:=Lib.hid (HL.out.keep (H3.out.bel.mono hB) (Nat.le_refl _));have HCK:=Lib.hid (HC.out.keep (H3.out.bel.mono hB) (Nat.le_refl _));have HAK:Hid (ArcsIn _ B x.A m x.c x.d.2):=⟨HM.out,by rw[←HM.out];exact((HS.out.ar x (List.mem_of_getElem? HX.out)).1.below (H3.out.bel.mono hB)),by omega⟩;refine(zrg _ B (Nat.le_trans hB H3.out.bel.size) x.A m x.c x.d.2 HAK.out HASC.out (by omega) _ n cl L HLK.out _ cc C HCK.out HTO.out (fun y hy=>(HCP.out y hy).1)).mono ?_;rintro e w4 ⟨v4,rfl,hown4,hb4⟩;have HO4:=Lib.hid (own_lower hown4 H3.out.bel.size);have HN4:=Lib.hid (zn5 (ledF L C) x.d.2);have HSM:Hid (SgM w w4 N hd v4 (ledA (ledF L C) x.d.2).length (ledA (ledF L C) x.d.2)):=⟨H3.out.keep hb4,HO4.out⟩;obtain⟨A4,c4,rfl,_⟩:=za1 hown4;clear hown4 hb4 H3 HO4 HLK HCK HAK hd1;have HIN:=Lib.hid (z90 (L:=L) (C:=C) HASC.out HCP.out);have HRES:Hid (sigT cv x.d.1 (ledA (ledF L C) x.d.2)=hd++(ledA (ledF L C) x.d.2).flatMap arcT):=by
    show _=_;rw[←HHD.out,HFIN.out];rfl
   have hlhd:hd.length≤22:=by
    rw[←HHD.out,List.length_append];refine Nat.le_trans (Nat.add_le_add li (?_:_≤1)) (by decide:21+1≤22);first|(simp;done)|(split<;>simp)
   go_wp2_with fail;obtain⟨LL,hLL⟩:∃l,ledA (ledF L C) x.d.2=l:=⟨_,rfl⟩;rw[hLL]at HSM HIN HN4 HRES⊢;obtain⟨p,hp⟩:∃p,LL.length=p:=⟨_,rfl⟩;rw[hp]at HSM HN4⊢;have hp256:p≤256:=Nat.le_trans HN4.out (by rw[HM.out];exact hm256);have HRL:=Lib.hid hLL;clear hLL;have H00:Hid (SgM w w4 N (hd++(LL.take 0).flatMap arcT) (.slice A4 p c4) p LL):=by simpa using HSM
   go_loopw [38] (fun iv wr=>∃k:Nat,k≤p∧iv=.int .i64 k∧Hid (SgM w wr N (hd++(LL.take k).flatMap arcT) (.slice A4 p c4) p LL)) (fun iv _=>p-(intOf iv).toNat)
   case atStart=>exact⟨0,Nat.zero_le _,rfl,H00⟩
   case round=>
    clear H00 HSM;obtain⟨k,hk,rfl,HR⟩:=hrel;by_cases hlt:k<p
    ·obtain⟨y,hy⟩:∃y,LL[k]? =some y:=⟨LL[k]'(by omega),List.getElem?_eq_getElem _⟩;obtain⟨g,rfl,hbg,hgl⟩:=zah HR.out.own (by omega);have gg:∀j u,(arcC y)[j]? =some u→j<3→wr.cell? ⟨g,k*3+j,none⟩=some u:=fun j u hu hj=>by
      have:=HR.out.own.cells (g:=g) rfl (k*3+j) u (by unfold zaa;rw[zc7 arcC 3 (fun _=>rfl) LL k j y hy hj];exact hu);rwa[Addr.add_lit,Nat.zero_add]at this
     have g0:=gg 0 _ rfl (by omega);have g1:=gg 1 _ rfl (by omega);have g2:=gg 2 _ rfl (by omega);rw[Nat.add_zero]at g0;obtain⟨⟨o1,o2⟩,⟨o3,o4⟩,⟨o5,o6⟩⟩:=HIN.out y (List.mem_of_getElem? hy);have hlw:(arcT y).length≤66:=z2g ⟨⟨o1,o2⟩,⟨o3,o4⟩,⟨o5,o6⟩⟩;have HNX:Hid (hd++(LL.take (k+1)).flatMap arcT=(hd++(LL.take k).flatMap arcT)++arcT y):=by
      show _=_;rw[List.take_add_one,hy,List.flatMap_append];simp
     have hlen:(hd++(LL.take k).flatMap arcT).length≤300000000000:=by
      have:=zx5 (l:=LL.take k) (fun z hz=>HIN.out z (List.mem_of_mem_take hz));rw[List.length_take]at this;rw[List.length_append];omega
     obtain⟨x1,x2,x3⟩:=y;simp only at o1 o2 o3 o4 o5 o6 g0 g1 g2;have l1:=Lib.itoa_length_le x1 (by omega) (by omega);have l2:=Lib.itoa_length_le x2 (by omega) (by omega);have l3:=Lib.itoa_length_le x3 (by omega) (by omega);obtain⟨S1,hj1⟩:∃S:ByteArray,⟨(Lib.itoa x1).toArray⟩=S:=⟨_,rfl⟩;obtain⟨S2,hj2⟩:∃S:ByteArray,⟨(Lib.itoa x2).toArray⟩=S:=⟨_,rfl⟩;obtain⟨S3,hj3⟩:∃S:ByteArray,⟨(Lib.itoa x3).toArray⟩=S:=⟨_,rfl⟩;have z1:S1.size≤21:=by rw[←hj1,size_mk];exact l1
     have z2:S2.size≤21:=by rw[←hj2,size_mk];exact l2
     have z3:S3.size≤21:=by rw[←hj3,size_mk];exact l3
     obtain⟨T1,t1⟩:∃T:ByteArray,(⟨#[44]⟩:ByteArray)++S1=T:=⟨_,rfl⟩;obtain⟨T2,t2⟩:∃T:ByteArray,T1++(⟨#[45]⟩:ByteArray)=T:=⟨_,rfl⟩;obtain⟨T3,t3⟩:∃T:ByteArray,T2++S2=T:=⟨_,rfl⟩;obtain⟨T4,t4⟩:∃T:ByteArray,T3++(⟨#[58]⟩:ByteArray)=T:=⟨_,rfl⟩;obtain⟨T5,t5⟩:∃T:ByteArray,T4++S3=T:=⟨_,rfl⟩;have y1:T1.size≤22:=by rw[←t1,ByteArray.size_append];show 1+_≤_;omega
     have y2:T2.size≤23:=by rw[←t2,ByteArray.size_append];show _+1≤_;omega
     have y3:T3.size≤44:=by rw[←t3,ByteArray.size_append];omega
     have y4:T4.size≤45:=by rw[←t4,ByteArray.size_append];show _+1≤_;omega
     have HW:Hid (T5=⟨(arcT (x1,x2,x3)).toArray⟩):=by
      show _=_;rw[←t5,←t4,←t3,←t2,←t1,←hj1,←hj2,←hj3];apply ByteArray.ext
      simp[arcT]
     have d1:∀w:World,(Op.stringOp .add (⟨#[44]⟩:ByteArray) S1).run Tryz.prog w=.ok (.string T1) w:=fun w=>by rw[←t1];exact run_string_add_sum w _ _ (by show 1+_≤_;omega)
     have d2:∀w:World,(Op.stringOp .add T1 (⟨#[45]⟩:ByteArray)).run Tryz.prog w=.ok (.string T2) w:=fun w=>by rw[←t2];exact run_string_add_sum w _ _ (by show _+1≤_;omega)
     have d3:∀w:World,(Op.stringOp .add T2 S2).run Tryz.prog w=.ok (.string T3) w:=fun w=>by rw[←t3];exact run_string_add_sum w _ _ (by omega)
     have d4:∀w:World,(Op.stringOp .add T3 (⟨#[58]⟩:ByteArray)).run Tryz.prog w=.ok (.string T4) w:=fun w=>by rw[←t4];exact run_string_add_sum w _ _ (by show _+1≤_;omega)
     have d5:∀w:World,(Op.stringOp .add T4 S3).run Tryz.prog w=.ok (.string T5) w:=fun w=>by rw[←t5];exact run_string_add_sum w _ _ (by omega)
     have HJ1:=Lib.hid hj1;have HJ2:=Lib.hid hj2;have HJ3:=Lib.hid hj3;have HO1:Hid (x1≤1000000∧x2≤1000000∧x3≤1000000∧0≤x1∧0≤x2∧0≤x3):=⟨o2,o4,o6,o1,o3,o5⟩;clear t1 t2 t3 t4 t5 y1 y2 y3 y4 z1 z2 z3 l1 l2 l3 hj1 hj2 hj3 o1 o2 o3 o4 o5 o6;generalize arcT (x1,x2,x3)=wt at*;clear gg hy;go_wp2_with fail;have H0:Hid (SgY w (wr.alloc (.cells #[.int .i64 x1,.int .i64 x2,.int .i64 x3] 76)) N (hd++(LL.take k).flatMap arcT) (.slice (some ⟨g,0,none⟩) p c4) p LL wr.heap.size (x1,x2,x3)):=⟨HR.out.keep (bnew (za0 wr) _),heap_alloc_new wr _⟩;have hnew:wr.heap.size≠N:=by have:=HR.out.r.lt;omega
     have k0:=H0.out.cells;have K0:=Lib.hid k0;simp only at k0 K0;generalize wr.alloc (.cells #[.int .i64 x1,.int .i64 x2,.int .i64 x3] 76)=W1 at*;generalize wr.heap.size=n5 at*;obtain⟨k1,k2,k3⟩:=k0;generalize hd++(LL.take k).flatMap arcT=acc at*;go_region_held3 (fun w'=>w'.cell? ⟨n5,0,none⟩=some (.int .i64 x1)∧w'.cell? ⟨n5,1,none⟩=some (.int .i64 x2)∧w'.cell? ⟨n5,2,none⟩=some (.int .i64 x3))
      (first
       |assumption
       |exact K0.out
       |(refine(SgY.keep H0.out ?_).cells;first|exact za0 _|exact(za0 _).drew|exact(za0 _).drew.drew|exact(za0 _).drew.drew.drew)
       |(refine(SgY.keep H1.out ?_).cells;first|exact za0 _|exact(za0 _).drew|exact(za0 _).drew.drew|exact(za0 _).drew.drew.drew)
       |(refine(SgY.keep H2'.out ?_).cells;first|exact za0 _|exact(za0 _).drew|exact(za0 _).drew.drew|exact(za0 _).drew.drew.drew)
       |(refine(SgY.keep H3.out ?_).cells;first|exact za0 _|exact(za0 _).drew|exact(za0 _).drew.drew|exact(za0 _).drew.drew.drew)
       |exact H4.out.cells)
      (first
       |(go_at_call 51;refine(zec x1 (by have:=HO1.out;omega) (by have:=HO1.out;omega) _ (SgY.keep H0.out (by repeat(first|exact za0 _|refine Below.drew ?_))).m.r.tab).mono ?_;rw[HJ1.out];rintro e wI ⟨rfl,hbI⟩;have H1:=Lib.hid ((SgY.keep H0.out (by repeat(first|exact za0 _|refine Below.drew ?_))).keep hbI))
       |(go_at_call 51;refine(zec x2 (by have:=HO1.out;omega) (by have:=HO1.out;omega) _ (SgY.keep H1.out (by repeat(first|exact za0 _|refine Below.drew ?_))).m.r.tab).mono ?_;rw[HJ2.out];rintro e wJ ⟨rfl,hbJ⟩;have H2':=Lib.hid ((SgY.keep H1.out (by repeat(first|exact za0 _|refine Below.drew ?_))).keep hbJ))
       |(go_at_call 51;refine(zec x3 (by have:=HO1.out;omega) (by have:=HO1.out;omega) _ (SgY.keep H2'.out (by repeat(first|exact za0 _|refine Below.drew ?_))).m.r.tab).mono ?_;rw[HJ3.out];rintro e wK ⟨rfl,hbK⟩;have H3:=Lib.hid ((SgY.keep H2'.out (by repeat(first|exact za0 _|refine Below.drew ?_))).keep hbK))
       |(go_at_call 50;refine(SgY.write (SgY.keep H3.out (by repeat(first|exact za0 _|refine Below.drew ?_))) hnew HB0.out wt T5 HW.out (by omega)).mono ?_;rintro e wS ⟨rfl,hS⟩;have H4:=Lib.hid hS))
     all_goals
      go_wp2_with fail;go_roundw;case rel=>exact⟨k+1,by omega,by go_num,by rw[HNX.out];exact Lib.hid H4.out.m⟩
      case measure=>simp[intOf];omega
    ·obtain rfl:k=p:=by omega
     have hall:LL.take k=LL:=List.take_of_length_le (by omega);rw[hall]at HR;go_wp2_with fail;refine(Tryz.Builder_String_any _ _ _ _ HR.out.r.sb (Nat.le_of_lt HR.out.r.lt)).mono ?_;rintro e w5 ⟨rfl,hb5⟩;go_wp2_with fail;go_ret;refine⟨?_,HR.out.r.bel.trans (hb5.mono HR.out.r.le)⟩;have hE:(⟨(sigT cv x.d.1 (ledA (ledF L C) x.d.2)).toArray⟩:ByteArray)=⟨(hd++LL.flatMap arcT).toArray⟩:=by rw[HRL.out,HRES.out]
     exact congrArg (fun z=>Ending.returned (Value.string z)) hE.symm
end
section
open Go.RowKit Go.Maps
theorem lawI:Keyed Tryz.prog 3:=int_keyed Tryz.underlying3
abbrev zqb{H:Type}(w:World)(b n:Nat)(N:DataW H):Prop:=w.ownsMap Tryz.prog 3 (plainElem Tryz.prog 3) b n N
def numI{H:Type}(N:DataW H)(k:Int):Int:=z19 (N.atKey (.int .i64 k) (.lit (.int .i64 0)))
def hasI{H:Type}(N:DataW H)(k:Int):Bool:=Maps.has N (.int .i64 k)
theorem z8g{H:Type}{w:World}{b n:Nat}{N:DataW H}(h:zqb w b n N)(k:Int)(h0: -9223372036854775808≤k)(h1:k≤9223372036854775807):
  (Instr.lookup 139 (.map (some b)) (.int .i64 k) true).run Tryz.prog w=.ok (.tuple #[.int .i64 (numI N k),.bool (hasI N k)]) w:=by
 obtain⟨v,ps,hrun,hR⟩:=h.look_ok lawI Tryz.underlying139 (z30 w) (plainElem_int Tryz.underlying3 (a:=0) (by decide)) (keyOf_int_mk Tryz.underlying3 (WalkArith.wf_i64 ⟨h0,h1⟩));obtain⟨c,rfl,hc,hw⟩:=plainElem_int_inv Tryz.underlying3 hR;injection hc with hc _
 have e:numI N k=c:=by
  unfold numI;rw[hc];rfl
 rw[e];exact hrun
theorem zu4{H:Type}{w:World}{b n:Nat}{N:DataW H}(h:zqb w b n N)(k:Int)(h0: -9223372036854775808≤k)(h1:k≤9223372036854775807):
  (Instr.lookup 139 (.map (some b)) (.int .i64 k) false).run Tryz.prog w=.ok (.int .i64 (numI N k)) w:=by
 obtain⟨c,hrun,hc,_⟩:=h.lookup_int lawI Tryz.underlying139 Tryz.underlying3 (z30 w) (keyOf_int_mk Tryz.underlying3 (WalkArith.wf_i64 ⟨h0,h1⟩));have e:numI N k=c:=by
  unfold numI;rw[hc];rfl
 rw[e];exact hrun
theorem z0e{N:DataW Unit}(h:IsMap N)(k z j:Int):numI (N.put (.int .i64 k) (.lit (.int .i64 z))) j=if j=k then z else numI N j:=by
 unfold numI;by_cases e:j=k
 ·rw[if_pos e,e,atKey_put_same h (by simp[Go.WideAt.IsKeyLit])];rfl
 ·rw[if_neg e,atKey_put_other (by simpa using e)]
theorem zD8{N:DataW Unit}(h:IsMap N)(k z j:Int):hasI (N.put (.int .i64 k) (.lit (.int .i64 z))) j=(decide (j=k)||hasI N j):=by
 unfold hasI;by_cases e:j=k
 ·rw[e,has_put_same h (by simp[Go.WideAt.IsKeyLit])];simp
 ·rw[has_put_other (by simpa using e)];simp[e]
theorem zw2{w w':World}{b n:Nat}{N:DataW Unit}(h:zqb w b n N)(hb:Below w.heap.size w w'):zqb w' b n N:=h.kept (grown_below hb) (by simp)
end
end Go.Proofs.YtaociahafamncaaGreatDoor
