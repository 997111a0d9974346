/- Folded. -/
import Derived.Test.YtaociahafamncaaGreatDoorChecked
import Derived.Test.YtaociahafamncaaGreatDoorHM40
import Derived.Test.YtaociahafamncaaGreatDoorHM41
import Derived.Test.YtaociahafamncaaGreatDoorHM38
set_option maxRecDepth 100000
set_option maxHeartbeats 40000000
set_option linter.unusedVariables false
namespace Go.Proofs.YtaociahafamncaaGreatDoor
section
open Go.RowKit Go.Maps
structure TextsIn(w:World)(A:Option Addr)(n c:Nat)(x:Nat→ByteArray):Prop where
 nc:n≤c
 cm:c≤maxLen
 rb:n*16≤reachBytes
 sl:Sl w w.heap.size 1 A n ((List.range n).map fun i=>.string (x i))
 sz:∀i,i<n→(x i).size≤reachBytes
theorem TextsIn.get{w W:World}{A:Option Addr}{n c:Nat}{x:Nat→ByteArray}(h:TextsIn w A n c x)(hb:Below w.heap.size w W){i:Nat}(hi:i<n):∃b off t,A=some ⟨b,off,none⟩∧b<W.heap.size∧x i=⟨(t:List UInt8).toArray⟩∧t.length≤1125899906842624∧W.cell? ⟨b,off+i,none⟩=some (.string ⟨t.toArray⟩):=by
 obtain⟨b,off,hA,hb0,hcell⟩:=h.sl.at_ hi;have hc0:=hcell i (.string (x i)) (by rw[List.getElem?_map,List.getElem?_range hi];rfl);have ht:x i=⟨(x i).data.toList.toArray⟩:=by cases x i;simp
 refine⟨b,off,(x i).data.toList,hA,Nat.lt_of_lt_of_le hb0 hb.size,ht,?_,?_⟩
 ·have h1:=h.sz i hi;have h2:(x i).data.toList.length=(x i).size:=rfl;rw[h2];unfold reachBytes at h1;omega
 ·rw[←ht];exact(hb.cell (p:=⟨b,off+i,none⟩) hb0).trans hc0
end
section
theorem z59{a e dd out:List St}(ha:Good a)(he:Good e)(hl:zcg (auOf dd) 0 out)(hq:Leq (auOf dd) 0 ⟨finP a e,zt5 a e⟩ [0,0])(hlen:out.length≤20000)(t:List UInt8):zee out t=(zee a t&&zee e t):=by
 have hg:=hl.good hlen;unfold zee;rw[decide_eq_true ((ze1 _).2 hg),decide_eq_true ((ze1 _).2 ha),decide_eq_true ((ze1 _).2 he),Bool.true_and,Bool.true_and,Bool.true_and];have h1:=(hl.leq.trans hq) (zaf t);rw[h1];exact z0a a e (zaf t) 0 0
end
section
open Go.RowKit
abbrev tArc:Ty:=.cons (.int .i64) (.cons (.int .i64) (.cons (.int .i64) .nil))
abbrev zh5:Ty:=.cons .bool (.cons (.slice tArc 24) .nil)
theorem zv2:tyOf Tryz.prog 8 35=some (.slice zh5 32):=by kernel_rfl
def zL0(d:tArc.den):Arc3:=((show Int from d.1),(show Int from d.2.1),(show Int from d.2.2.1))
def shOf(d:zh5.den):Sh:=⟨((show Bool from d.1),(List.range (show SlH from d.2.1.1).n).map fun q=>zL0 (d.2.1.2 q)),(show SlH from d.2.1.1).A,(show SlH from d.2.1.1).c⟩
def shL(n:Nat)(x:Nat→zh5.den):List Sh:=(List.range n).map fun i=>shOf (x i)
theorem z5c(m:Nat)(f:Nat→tArc.den):zaa ((List.range m).map fun q=>zL0 (f q))=(List.range m).flatMap fun q=>Ty.cells tArc (f q):=by
 unfold zaa;rw[List.flatMap_map];rfl
theorem zK4{w:World}{A:Option Addr}{n c:Nat}{x:Nat→zh5.den}{cs:List Value}(h:Reads w w.heap.size (.slice zh5 32) (⟨A,n,c⟩,x) cs):StsIn w w.heap.size A n c (shL n x):=by
 have hs:=h.sl (e:=zh5) (fun d=>rfl);have hb:n*32≤reachBytes:=h.2.1.2.2.1;have hlen:∀i,(shOf (x i)).d.2.length=(show SlH from(x i).2.1.1).n:=fun i=>by
  show((List.range _).map _).length=_;rw[List.length_map,List.length_range]
 refine⟨by unfold shL;rw[List.length_map,List.length_range],?_,h.2.1.1,by unfold reachBytes at hb;omega,fun y hy=>?_⟩
 ·have e:(shL n x).flatMap Sh.hdr=(List.range n).flatMap fun i=>Ty.cells zh5 (x i):=by
   unfold shL;rw[List.flatMap_map];refine congrArg (fun f=>(List.range n).flatMap f) (funext fun i=>?_);unfold Sh.hdr;rw[hlen];rfl
  rw[e];exact hs
 ·obtain⟨i,hi,rfl⟩:=List.mem_map.1 hy;obtain⟨cl,_,c2,_,_,_,c3,c4,_,_,hr,_⟩:=h.elem (List.mem_range.1 hi);have h1:=hr.sl (e:=tArc) (fun d=>rfl);have h2:=hr.2.1;have hb2:(show SlH from(x i).2.1.1).n*24≤reachBytes:=h2.2.2.1;refine⟨?_,by rw[hlen];exact h2.1,by rw[hlen];unfold reachBytes at hb2;omega⟩;rw[hlen];have e:=z5c (show SlH from(x i).2.1.1).n (x i).2.1.2;show Sl _ _ 3 _ _ (zaa ((List.range _).map _));rw[e];exact h1
end
section
open Go.RowKit Go.Maps
theorem OwnSts.use{W:World}{base:Nat}{v:Value}{hs:List Sh}(h:OwnSts W base v hs)(hl:hs.length≤20000)(hg:Good (hs.map (·.d))):∃A c,v=.slice A hs.length c∧StsIn W W.heap.size A hs.length c hs:=by
 obtain⟨A,c,rfl,_⟩:=za1 h.out;refine⟨A,c,rfl,h.sts rfl (by omega) fun x hx=>?_⟩;have h1:=hg.asc x.d (List.mem_map_of_mem hx);have:=asc_few h1;omega
end
section
open Go.RowKit Go.Maps
theorem zEj(w:World)(B:Nat)(hB:B≤w.heap.size)(A:Option Addr)(n c:Nat)(H:List Sh)(h:StsIn w B A n c H)(A':Option Addr)(n' c':Nat)(H':List Sh)(h':StsIn w B A' n' c' H')(hg:zb2 (H.map (·.d))≠0∨zb2 (H'.map (·.d))≠0)(most:Int):
  Calls Tryz.prog 17 #[.slice A n c,.slice A' n' c',.int .i64 most] w fun e w'=>e=.returned (.tuple #[.slice none 0 0,.int .i64 3])∧Below w.heap.size w w':=by
 have HS:=Lib.hid h;have HS':=Lib.hid h';obtain⟨ck,hck⟩:∃k,zb2 (H.map (·.d))=k:=⟨_,rfl⟩;obtain⟨ck',hck'⟩:∃k,zb2 (H'.map (·.d))=k:=⟨_,rfl⟩;have HC:=Lib.hid hck;have HC':=Lib.hid hck';rw[hck,hck']at hg;have HOR:=Lib.hid hg;clear h h' hck hck' hg;by_cases h0:ck=0
 ·subst h0;have hne:ck'≠0:=HOR.out.elim (fun h=>absurd rfl h) id;have q:(ck'==0)=false:=by simpa using hne
  have q1:(ck' !=0)=true:=by simpa using hne
  clear hne HOR;go_enter Tryz.func17,Tryz.ntmps17
  go_wp2_with fail;refine(ze9 w B hB A n c H HS.out).mono ?_;rintro e w1 ⟨rfl,hb1⟩;rw[HC.out];have HB1:=Lib.hid hb1;clear hb1;go_wp2_with fail;refine(ze9 w1 B (Nat.le_trans hB HB1.out.size) A' n' c' H' (HS'.out.keep (HB1.out.mono hB) (Nat.le_refl _))).mono ?_;rintro e w2 ⟨rfl,hb2⟩;rw[HC'.out];have HB2:=Lib.hid (za9 HB1.out hb2);clear hb2;go_wp2_with fail;go_ret2;exact⟨rfl,HB2.out⟩
 ·have q:(ck==0)=false:=by simpa using h0
  have q1:(ck !=0)=true:=by simpa using h0
  clear h0 HOR;go_enter Tryz.func17,Tryz.ntmps17
  go_wp2_with fail;refine(ze9 w B hB A n c H HS.out).mono ?_;rintro e w1 ⟨rfl,hb1⟩;rw[HC.out];have HB1:=Lib.hid hb1;clear hb1;go_wp2_with fail;go_ret2;exact⟨rfl,HB1.out⟩
def zB2(a e:List St)(most code:Int)(xs:List St):Prop:=
 ((zb2 a≠0∨zb2 e≠0)∧code=3∧xs=[])∨
 (zb2 a=0∧zb2 e=0∧(∃f,most<(((zci a e).run f 0 [[0,0]]).length:Nat))∧code=8∧xs=[])∨
 (zb2 a=0∧zb2 e=0∧(∀f,(((zci a e).run f 0 [[0,0]]).length:Nat)≤most)∧code=0∧∃d,zcg (auOf d) 0 xs∧Leq (auOf d) 0 ⟨finP a e,zt5 a e⟩ [0,0])
theorem zB2.one{a e:List St}{most c1 c2:Int}{x1 x2:List St}(h1:zB2 a e most c1 x1)(h2:zB2 a e most c2 x2):c1=c2∧x1=x2:=by
 rcases h1 with⟨b1,r1,s1⟩|⟨g1,g1',m1,r1,s1⟩|⟨g1,g1',m1,r1,d1,l1,q1⟩<;>rcases h2 with⟨b2,r2,s2⟩|⟨g2,g2',m2,r2,s2⟩|⟨g2,g2',m2,r2,d2,l2,q2⟩
 ·exact⟨by rw[r1,r2],by rw[s1,s2]⟩
 ·exact absurd b1 (by simp[g2,g2'])
 ·exact absurd b1 (by simp[g2,g2'])
 ·exact absurd b2 (by simp[g1,g1'])
 ·exact⟨by rw[r1,r2],by rw[s1,s2]⟩
 ·obtain⟨f,hf⟩:=m1;have:=m2 f;omega
 ·exact absurd b2 (by simp[g1,g1'])
 ·obtain⟨f,hf⟩:=m2;have:=m1 f;omega
 ·exact⟨by rw[r1,r2],l1.eq l2 (q1.trans q2.symm)⟩
section
variable (w:World) (B:Nat) (hB:B≤w.heap.size) (A:Option Addr) (n c:Nat) (H:List Sh) (h:StsIn w B A n c H) (A':Option Addr) (n' c':Nat) (H':List Sh) (h':StsIn w B A' n' c' H') (hfew:n*n'≤20000) (most:Int)
include hB h h' hfew
end
end
section
open F (Ent rightE)
theorem zK9{l:List Ent}(hn:l.Nodup)(q:Ent→Bool):∀e∈l,(l.filter fun f=>decide (e=f)&&q f)=if q e then[e]else[]:=by
 induction l with
 |nil=>intro e he;cases he
 |
  cons a l ih=>
  intro e he
  obtain⟨ha,hn'⟩:=List.nodup_cons.1 hn;by_cases h:e=a
  ·subst h;have h0:(l.filter fun f=>decide (e=f)&&q f)=[]:=by
    rw[List.filter_eq_nil_iff];intro f hf hc
    simp at hc
    exact ha (hc.1▸hf)
   rw[List.filter_cons,h0];simp
  ·have hel:e∈l:=by
    rcases List.mem_cons.1 he with h'|h'
    ·exact absurd h' h
    ·exact h'
   rw[List.filter_cons,if_neg (by simp[h]),ih hn' e hel]
theorem zAg{l:List Ent}(hn:l.Nodup)(p q:Ent→Bool):∀m:List Ent,(∀e∈m,e∈l)→((m.filter p).flatMap fun e=>(l.filter q).filter fun f=>decide (e=f))=m.filter fun e=>p e&&q e
 |[],_=>rfl
 |
  a::m,h=>by
  have ih:=zAg hn p q m (fun e he=>h e (List.mem_cons_of_mem _ he));have h1:=zK9 hn q a (h a List.mem_cons_self);rw[List.filter_cons,List.filter_cons];cases hp:p a with
  |false=>simpa using ih
  |
   true=>
   simp only[Bool.true_and,if_true];rw[List.flatMap_cons,ih,List.filter_filter,h1];cases q a<;>simp
theorem z5a{l:List Ent}(hn:l.Nodup)(p q:Ent→Bool):((l.filter p).flatMap fun e=>(l.filter q).filter fun f=>decide (e=f))=l.filter fun e=>p e&&q e:=zAg hn p q l fun _ h=>h
theorem z3k{l:List Ent}(h:zfg l=true):l.Nodup:=by
 unfold zfg at h;simp only[Bool.and_eq_true,decide_eq_true_eq]at h;have h1:=h.2;unfold F.rightE at h1;split at h1
 ·omega
 refine(F.rightL_ok l [] h1).2.imp fun{a b} hab he=>?_
 subst he;exact List.lt_irrefl _ hab
theorem zxe{a e dd xs:List St}(ha:Good a)(he:Good e)(hl:zcg (auOf dd) 0 xs)(hq:Leq (auOf dd) 0 ⟨finP a e,zt5 a e⟩ [0,0])(hlen:xs.length≤20000)(l:List Ent)(hn:l.Nodup):((zff l a).flatMap fun x=>(zff l e).filter fun y=>decide (x=y))=zff l xs:=by
 unfold zff;rw[z5a hn];refine List.filter_congr fun x _=>?_
 rw[z59 ha he hl hq hlen]
theorem zCe{a e:List St}(ha:Good a)(he:Good e)(hla:a.length≤20)(hle:e.length≤20):¬∃f,(20000:Int)<(((zci a e).run f 0 [[0,0]]).length:Nat):=by
 rintro⟨f,hf⟩;have h1:=z09 ha he f;have h2:a.length*e.length≤20*20:=Nat.mul_le_mul hla hle;omega
end
section
open Go.RowKit Go.Maps
theorem z6b{w:World}{A:Option Addr}{n c:Nat}{x:Nat→zh5.den}{cs:List Value}(h:Reads w w.heap.size (.slice zh5 32) (⟨A,n,c⟩,x) cs)(_:n≤1048576)(_:∀i,i<n→Few 1048576 zh5 (x i)):StsIn w w.heap.size A n c (shL n x):=zK4 h
theorem zDj{w:World}{A:Option Addr}{n c:Nat}{x:Nat→F.tEnt.den}{cs:List Value}(h:Reads w w.heap.size (.slice F.tEnt 24) (⟨A,n,c⟩,x) cs)(_:n≤1048576)(_:∀i,i<n→Few 1048576 F.tEnt (x i)):F.EntsIn w A n c (F.entL n x):=F.ents_in h
end
section
open Go.RowKit Go.Maps
open F (Ent Nd Nh Fine DictAt entsC entC Ents EntsIn rightE fits64 buildDs baseOf allE)
def Room(W:World)(g n:Nat):Prop:=∃cs,W.heap[g]? =some (.cells cs 29 (0,0))∧n*2≤cs.size
theorem Room.below{W W':World}{g n:Nat}(h:Room W g n)(hb:Below W.heap.size W W'):Room W' g n:=by
 obtain⟨cs,h1,h2⟩:=h;exact⟨cs,(hb.block g (Array.getElem?_eq_some_iff.1 h1).1).trans h1,h2⟩
theorem Room.set{W:World}{g n:Nat}(h:Room W g n)(j:Nat)(u:Value):Room (W.setCell ⟨g,j,none⟩ u) g n:=by
 obtain⟨cs,h1,h2⟩:=h;exact⟨_,F.blk_set h1 u,by simpa using h2⟩
theorem Room.free{W:World}{g n:Nat}(h:Room W g n)(j:Nat):W.frozen? ⟨g,j,none⟩=false:=by
 obtain⟨cs,h1,_⟩:=h;exact F.free_at h1 j
theorem Room.cell{W:World}{g n:Nat}(h:Room W g n){j:Nat}(hj:j<n*2):∃v,W.cell? ⟨g,j,none⟩=some v:=by
 obtain⟨cs,h1,h2⟩:=h;exact⟨_,cell_of_row _ g j _ _ (0,0) h1|>.trans (Array.getElem?_eq_getElem (by omega))⟩
end
section
open Go.RowKit Go.Maps
open F (Ent Nd Nh Fine DictAt entsC entC Ents EntsIn rightE fits64 buildDs baseOf allE)
theorem z1h(Y:List Ent):∀L:List Ent,(L.flatMap fun x=>Y.filter fun y=>decide (x=y)).length≤L.length*Y.length
 |[]=>by simp
 |
  x::L=>by
  rw[List.flatMap_cons,List.length_append,List.length_cons,Nat.succ_mul];have h1:=z1h Y L;have h2:=List.length_filter_le (fun y=>decide (x=y)) Y;omega
theorem zua{W:World}{L:List Ent}(hL:L.length≤120){f:FuncId}{args:Array Value}(h:Calls Tryz.prog f args W (zl9 W (max 1000 0:Int).toNat L)):Calls Tryz.prog f args W fun e w'=>∃v,∃b,e=.returned (.tuple #[v,.bool b])∧w'.ownsRow W.heap.size 29 2 v L.length (entsC L)∧Below W.heap.size W w':=by
 refine h.mono ?_;rintro e w' ⟨v,rfl,h1,h2⟩;have h1000:(max 1000 0:Int).toNat=1000:=rfl;have hL2:L.length≤(max 1000 0:Int).toNat:=by omega
 rw[List.take_of_length_le hL2]at h1;exact⟨v,_,rfl,h1,h2⟩
theorem zB5(w:World)(A:Option Addr)(n c:Nat)(l:List Ent)(h:EntsIn w A n c l)(ho:zfg l=true)(A2:Option Addr)(na ca:Nat)(H:List Sh)(h2:StsIn w w.heap.size A2 na ca H)(hna:na≤20)(A3':Option Addr)(nb cb:Nat)(H':List Sh)(h3:StsIn w w.heap.size A3' nb cb H')(hnb:nb≤20)(hg:Good (H.map (·.d)))(hg':Good (H'.map (·.d)))(z:Int)(hz: -9223372036854775808≤z∧z≤9223372036854775807)(hT:Tab w):
  Calls Tryz.prog 6 #[.slice A n c,.slice A2 na ca,.slice A3' nb cb,.int .i64 z] w fun e w'=>e=.returned (.bool true)∧Below w.heap.size w w':=by
 have hfew:=zCf ho;have hln:=h.ents.len;have HT:=Lib.hid hT;have HE:=Lib.hid h;have HO:=Lib.hid ho;have HS:=Lib.hid h2;have HZ:=Lib.hid hz;have HS3:=Lib.hid h3;have HG:=Lib.hid (And.intro hg hg');have q20:decide (20<na)=false:=decide_eq_false (by omega);have q20':decide (20<nb)=false:=decide_eq_false (by omega);obtain⟨mo,hmo⟩:∃m:Nat,max z 0=(m:Int):=⟨(max z 0).toNat,by omega⟩;have hmo2:mo≤9223372036854775807:=by omega
 have HMO:Hid ((max z 0).toNat=mo):=by show _=_;rw[hmo,Int.toNat_natCast]
 clear hT h ho h2 hz h3 hg hg';go_enter Tryz.func6,Tryz.ntmps6
 go_wp2_with fail;refine(zf7 w w.heap.size (Nat.le_refl _) A n c l HE.out.ents HE.out.fits HE.out.lens HT.out).mono ?_;rintro e w2 ⟨hb2,⟨hno,_⟩|⟨_,p,B,dn,k,A3,hs',rfl,hd,hm⟩⟩
 ·rw[HO.out]at hno;cases hno
 obtain⟨hf,hwl,hall,hle⟩:=zrb HO.out HE.out.fits hm;have hdl:=hd.len;have hdn:dn≤4194305:=by omega
 have HB2:=Lib.hid hb2;have HD2:=Lib.hid hd;have HFA:=Lib.hid (And.intro hf (And.intro hwl hall));clear hb2 hd hm hf hwl hall hle hdl;go_wp2_with fail;refine(zd3 w2 (HT.out.below HB2.out)).mono ?_;rintro e w3 ⟨rfl,hb3⟩;have HB3:=Lib.hid (za9 HB2.out hb3);have HD3:=Lib.hid (HD2.out.keep hb3);clear hb3 HB2 HD2;have hmul:na*nb≤20000:=by
  have:na*nb≤20*20:=Nat.mul_le_mul hna hnb;omega
 have hal:=HS.out.len;have hbl:=HS3.out.len;have HNT:=Lib.hid (zCe HG.out.1 HG.out.2 (by rw[List.length_map];omega) (by rw[List.length_map];omega));have HBO:=Lib.hid (both_any w3 w.heap.size HB3.out.size A2 na ca H (HS.out.keep HB3.out (Nat.le_refl _)) A3' nb cb H' (HS3.out.keep HB3.out (Nat.le_refl _)) HG.out.1 HG.out.2 hmul 20000 (HT.out.below HB3.out));clear hal hbl hmul;go_wp2_with fail;refine HBO.out.mono ?_;rintro e w4 (⟨hno,_⟩|⟨_,v4,hs4,d4,rfl,ho4,hle4,hleq4,hl4,hl4',hb4⟩)
 ·exact absurd hno HNT.out
 clear HBO HNT;have hl2:hs4.length≤20000:=by omega
 obtain⟨A4,c4,rfl,hst4⟩:=ho4.use hl2 (hle4.good (by rw[List.length_map];exact hl2));have HT3:=Lib.hid (zxe HG.out.1 HG.out.2 hle4 hleq4 (by rw[List.length_map];exact hl2) l (z3k HO.out));have HB4:=Lib.hid (HB3.out.trans (hb4.mono HB3.out.size));have HD4:=Lib.hid (HD3.out.keep hb4);have HST:=Lib.hid hst4;clear ho4 hle4 hleq4 hl4 hl4' hst4 hb4 HD3;have HLA:Hid ((allE (hs'.map (·.d)) (baseOf l)).length≤1048576):=by show _≤_;rw[HFA.out.2.2];omega
 have HMA:=Lib.hid (fun(W:World) (hb:Below w4.heap.size w4 W) (z:Int) (hz: -9223372036854775808≤z∧z≤9223372036854775807)=>zi8 W p B dn k A3 (baseOf l) (l.length:Int) hs' (HD4.out.keep hb) HFA.out.1 HFA.out.2.1 (by omega) w.heap.size (Nat.le_trans HB4.out.size hb.size) A2 na ca H (HS.out.keep (HB4.out.trans (hb.mono HB4.out.size)) (Nat.le_refl _)) z hz HLA.out);have HMB:=Lib.hid (fun(W:World) (hb:Below w4.heap.size w4 W)=>zi8 W p B dn k A3 (baseOf l) (l.length:Int) hs' (HD4.out.keep hb) HFA.out.1 HFA.out.2.1 (by omega) w.heap.size (Nat.le_trans HB4.out.size hb.size) A3' nb cb H' (HS3.out.keep (HB4.out.trans (hb.mono HB4.out.size)) (Nat.le_refl _)) 1000 (by omega) HLA.out);have HMC:=Lib.hid (fun(W:World) (hb:Below w4.heap.size w4 W)=>zi8 W p B dn k A3 (baseOf l) (l.length:Int) hs' (HD4.out.keep hb) HFA.out.1 HFA.out.2.1 (by omega) w4.heap.size hb.size A4 hs4.length c4 hs4 (HST.out.keep hb (Nat.le_refl _)) 1000 (by omega) HLA.out);rw[HFA.out.2.2]at HMA HMB HMC;obtain⟨X,hX⟩:∃T,zff l (H.map (·.d))=T:=⟨_,rfl⟩;obtain⟨Y,hY⟩:∃T,zff l (H'.map (·.d))=T:=⟨_,rfl⟩;obtain⟨Z,hZ⟩:∃T,zff l (hs4.map (·.d))=T:=⟨_,rfl⟩;have hXl:X.length≤120:=by rw[←hX];exact Nat.le_trans (List.length_filter_le _ _) hfew
 have hYl:Y.length≤120:=by rw[←hY];exact Nat.le_trans (List.length_filter_le _ _) hfew
 have hZl:Z.length≤120:=by rw[←hZ];exact Nat.le_trans (List.length_filter_le _ _) hfew
 rw[hX]at HMA HT3;rw[hY]at HMB HT3;rw[hZ]at HMC HT3;clear hX hY hZ;go_wp2_with fail;refine(zua hXl (HMA.out w4 (za0 _) 1000 (by omega))).mono ?_;rintro e w5 ⟨v5,bb5,rfl,hrow5,hb5⟩;have HC5:=Lib.hid hb5;have HR55:=Lib.hid hrow5;obtain⟨A5,c5,rfl,hc5⟩:=za1 hrow5;clear hb5 hrow5;go_wp2_with fail;refine(zua hYl (HMB.out w5 HC5.out)).mono ?_;rintro e w6 ⟨v6,bb6,rfl,hrow6,hb6⟩;have HC6:=Lib.hid (HC5.out.trans (hb6.mono HC5.out.size));have HR56:=Lib.hid (za2 HR55.out hb6);have HR66:=Lib.hid hrow6;obtain⟨A6,c6,rfl,hc6⟩:=za1 hrow6;clear hb6 hrow6 HC5 HR55;go_wp2_with fail;refine(zua hZl (HMC.out w6 HC6.out)).mono ?_;rintro e w7 ⟨v7,bb7,rfl,hrow7,hb7⟩;have HC7:=Lib.hid (HC6.out.trans (hb7.mono HC6.out.size));have HR57:=Lib.hid (za2 HR56.out hb7);have HR67:=Lib.hid (za2 HR66.out hb7);have HR77:=Lib.hid hrow7;obtain⟨A7,c7,rfl,hc7⟩:=za1 hrow7;clear hb7 hrow7 HC6 HR56 HR66;go_wp2_with fail;have HXE:=Lib.hid (fun(W:World) (hb:Below w7.heap.size w7 W)=>(show Ents W W.heap.size A5 X.length c5 X from⟨by have:=Sl.of_own (za2 HR57.out hb);exact this,hc5,by omega⟩));have HYE:=Lib.hid (fun(W:World) (hb:Below w7.heap.size w7 W)=>(show Ents W W.heap.size A6 Y.length c6 Y from⟨by have:=Sl.of_own (za2 HR67.out hb);exact this,hc6,by omega⟩));go_loopw [18,19] (fun ov iv wr=>∃i:Nat,i≤X.length∧iv=.int .i64 (i:Int)∧Hid (wr.ownsRow w7.heap.size 29 2 ov ((X.take i).flatMap fun x=>Y.filter fun y=>decide (x=y)).length (entsC ((X.take i).flatMap fun x=>Y.filter fun y=>decide (x=y))))∧Hid (Below w7.heap.size w7 wr)) (fun _ iv _=>X.length-(intOf iv).toNat)
 case atStart=>exact⟨0,Nat.zero_le _,rfl,⟨rfl,.inl ⟨rfl,rfl⟩⟩,za0 w7⟩
 case round=>
  obtain⟨i,hi,rfl,HO1,HB1⟩:=hrel;by_cases hlt:i<X.length
  ·obtain⟨⟨et,ez⟩,he⟩:∃e,X[i]? =some e:=⟨X[i]'(by omega),List.getElem?_eq_getElem _⟩;obtain⟨P,hP⟩:∃P,((X.take i).flatMap fun x=>Y.filter fun y=>decide (x=y))=P:=⟨_,rfl⟩;rw[hP]at HO1;have HPP:=Lib.hid hP;have hPl:P.length≤14400:=by
    rw[←hP];refine Nat.le_trans (z1h Y (X.take i)) (Nat.le_trans (Nat.mul_le_mul (?_:_≤120) hYl) (by omega));rw[List.length_take];omega
   clear hP;obtain⟨Av,cv,rfl,hcv⟩:=za1 HO1.out;go_wp2_with fail;go_loopw [18,20] (fun ov kv wr=>∃k:Nat,k≤Y.length∧kv=.int .i64 (k:Int)∧Hid (wr.ownsRow w7.heap.size 29 2 ov (P++(Y.take k).filter fun y=>decide ((et,ez)=y)).length (entsC (P++(Y.take k).filter fun y=>decide ((et,ez)=y))))∧Hid (Below w7.heap.size w7 wr)) (fun _ kv _=>Y.length-(intOf kv).toNat)
   case atStart=>exact⟨0,Nat.zero_le _,rfl,(by rw[List.take_zero,List.filter_nil,List.append_nil];exact HO1),HB1⟩
   case round=>
    obtain⟨k',hk',rfl,HO2,HB2⟩:=hrel;clear HO1;by_cases hlt2:k'<Y.length
    ·obtain⟨⟨ft,fz⟩,hf⟩:∃e,Y[k']? =some e:=⟨Y[k']'(by omega),List.getElem?_eq_getElem _⟩;obtain⟨b1,off1,rfl,hb1,hcell1⟩:=(HXE.out wr HB2.out).at_ (by omega);obtain⟨b2,off2,rfl,hb2,hcell2⟩:=(HYE.out wr HB2.out).at_ (by omega);obtain⟨d0,d1⟩:=hcell1 i _ he;obtain⟨f0,f1⟩:=hcell2 k' _ hf;simp only at d0 d1 f0 f1;have hfs:=zya (p:=fun y=>decide ((et,ez)=y)) hf;obtain⟨F1,hF1⟩:∃F,((Y.take (k'+1)).filter fun y=>decide ((et,ez)=y))=F:=⟨_,rfl⟩;obtain⟨F0,hF0⟩:∃F,((Y.take k').filter fun y=>decide ((et,ez)=y))=F:=⟨_,rfl⟩;have hF0l:F0.length≤120:=by rw[←hF0];exact Nat.le_trans (List.length_filter_le _ _) (by rw[List.length_take];omega)
     rw[hF1,hF0]at hfs;rw[hF0]at HO2;have HF1:=Lib.hid hF1;obtain⟨Q,hQ⟩:∃Q,P++F0=Q:=⟨_,rfl⟩;have hQl:Q.length≤P.length+120:=by rw[←hQ,List.length_append];omega
     rw[hQ]at HO2;obtain⟨Av2,cv2,rfl,hcv2⟩:=za1 HO2.out;have heq:=fun w=>zyc w (et,ez) (ft,fz)
     have hgu:=F.gu_ent;obtain⟨pb,hpb⟩:∃b,decide ((et,ez)=(ft,fz))=b:=⟨_,rfl⟩;simp only[hpb]at hfs heq;clear hcell1 hcell2 hF1 hF0 he hf;have hbw1:=hb1;have hbw2:=hb2;cases pb
     ·have HN:Hid (P++F1=Q):=by show _=_;rw[hfs,if_neg (by simp),List.append_nil];exact hQ
      clear hpb hfs hQ;go_wp2_with fail;go_quiet (fail)
      go_wp2_with fail;go_roundw;case rel=>exact⟨k'+1,by omega,by go_num,(by rw[HF1.out,HN.out];exact HO2),Lib.hid (below_drewN HB2.out nq)⟩
      case measure=>simp[intOf];omega
     ·have HN:Hid (P++F1=Q++[(et,ez)]):=by
       show _=_;rw[hfs,if_pos rfl,←List.append_assoc,hQ,of_decide_eq_true hpb]
      clear hpb hfs hQ;go_wp2_with fail;go_quiet (fail)
      have HO8:Hid ((wr.drewN nq).ownsRow w7.heap.size 29 2 (.slice Av2 Q.length cv2) Q.length (entsC Q)):=HO2;have HB8:Hid (Below w7.heap.size w7 (wr.drewN nq)):=below_drewN HB2.out nq;have g0:(wr.drewN nq).cell? ⟨b1,off1+i*2,none⟩=some (.string ⟨et.toArray⟩):=d0;have g1:(wr.drewN nq).cell? ⟨b1,off1+i*2+1,none⟩=some (.int .i64 ez):=d1;have hbw8:b1<(wr.drewN nq).heap.size:=hb1;clear d0 d1 f0 f1 HO2 HB2 hbw1 hbw2 hb2 heq;generalize wr.drewN nq=w8 at*;go_wp2_with (at_builtin;refine zab w8 _ _ rfl _ _ _ rfl F.el_ent _ _ _ rfl HO8.out rfl (by simp) rfl (by simp[Value.oneCell']) (by unfold maxLen;omega) (by omega) (by have:=HB8.out.size;omega) (Below.refl _ _) ?_;intro v1 w1 hown1 hb1 hg1 _;obtain⟨A1,c1,rfl,_⟩:=za1 hown1)
      have HO3:Hid (w1.ownsRow w7.heap.size 29 2 (.slice A1 (Q.length+1) c1) (P++F1).length (entsC (P++F1))):=by
       show w1.ownsRow _ _ _ _ _ _;rw[HN.out,List.length_append];have e1:entsC (Q++[(et,ez)])=entsC Q++(#[Value.string ⟨et.toArray⟩,.int .i64 ez]:Array Value).toList:=by
        unfold F.entsC;rw[List.flatMap_append];rfl
       rw[e1];exact hown1
      have HB3:=Lib.hid (HB8.out.grown hg1 HB8.out.size (fun k hk=>(HO8.out.lt k hk).1));clear hown1 hb1 hg1;go_roundw;case rel=>exact⟨k'+1,by omega,by go_num,(by rw[HF1.out];exact HO3),HB3⟩
      case measure=>simp[intOf];omega
    ·obtain rfl:k'=Y.length:=by omega
     rw[List.take_of_length_le (Nat.le_refl _)]at HO2;have hsn:((X.take (i+1)).flatMap fun x=>Y.filter fun y=>decide (x=y))=P++Y.filter fun y=>decide ((et,ez)=y):=by
      rw[List.take_add_one,he,List.flatMap_append,HPP.out];simp
     have HSN:=Lib.hid hsn;clear hsn;go_wp2_with fail;go_roundw;case rel=>exact⟨i+1,by omega,by go_num,(by rw[HSN.out];exact HO2),HB2⟩
     case measure=>simp[intOf];omega
  ·obtain rfl:i=X.length:=by omega
   have hall:X.take X.length=X:=List.take_of_length_le (Nat.le_refl _);have HO3:=HO1;rw[hall,HT3.out]at HO3;clear HO1 HMB HMC;obtain⟨Ab,cbb,rfl,hcb⟩:=za1 HO3.out;obtain⟨bm,hbm⟩:∃b,decide (mo<X.length)=b:=⟨_,rfl⟩;have HMX:=Lib.hid (HMA.out wr (HC7.out.trans (HB1.out.mono HC7.out.size)) z HZ.out);rw[HMO.out]at HMX;have HMM:Hid (max z 0=(mo:Int)):=hmo;clear hmo hall HR57 HR67;go_wp2_with fail;refine HMX.out.mono ?_;rintro e w8 ⟨v8,rfl,hrow8,hb8⟩;rw[hbm];obtain⟨S,hS⟩:∃S,X.take mo=S:=⟨_,rfl⟩;rw[hS]at hrow8;obtain⟨As,cs,rfl,hcs⟩:=za1 hrow8;have hSm:S.length=min mo X.length:=by rw[←hS,List.length_take]
   have t1:decide (X.length<S.length)=false:=decide_eq_false (by omega);have t2:decide (S.length<X.length)=bm:=by
    rw[←hbm];by_cases h:mo<X.length
    ·rw[decide_eq_true h];exact decide_eq_true (by omega)
    ·rw[decide_eq_false h];exact decide_eq_false (by omega)
   have t3:decide (mo<S.length)=false:=decide_eq_false (by omega);have hSX:S.length≤X.length:=by omega
   have hmo:=HMM.out;have HB8:=Lib.hid (HB1.out.trans (hb8.mono HB1.out.size));have HX8:=Lib.hid (HXE.out w8 HB8.out);have HO8:=Lib.hid (za2 HO3.out hb8);have HR8:=Lib.hid hrow8;have HSS:=Lib.hid hS;have HSM:=Lib.hid hSm;have HBB:=Lib.hid hbm;clear hb8 hrow8 hS hSm hbm HMX HO3 HB1;have HZ8:=Lib.hid (za2 HR77.out HB8.out);go_wp2_with fail;refine(F.Same_any w8 w8.heap.size (Nat.le_refl _) Ab A7 Z.length cbb Z.length c7 Z Z ⟨by have:=Sl.of_own HO8.out;exact this,hcb,by omega⟩ ⟨by have:=Sl.of_own HZ8.out;exact this,hc7,by omega⟩).mono ?_;rintro e w9 ⟨rfl,hb9⟩;rw[decide_eq_true rfl];have HB9:=Lib.hid (HB8.out.trans (hb9.mono HB8.out.size));have HX9:=Lib.hid (HXE.out w9 HB9.out);have HR9:=Lib.hid (za2 HR8.out hb9);have hpre:Ents w9 w9.heap.size A5 S.length c5 S:=by
    refine⟨?_,by omega,by omega⟩;have h1:=HX9.out.sl.pre hSX;have e1:(entsC X).take (S.length*2)=entsC S:=by
     have e2:(entsC (X.take mo)).length=(X.take mo).length*2:=F.entsC_len _;have e3:entsC X=entsC (X.take mo)++entsC (X.drop mo):=by
      unfold F.entsC;rw[←List.flatMap_append,List.take_append_drop]
     rw[e3,←HSS.out,←e2,List.take_left]
    rw[e1]at h1;exact h1
   have HPR:=Lib.hid hpre;clear hb9 hpre;go_wp2_with fail;refine(F.Same_any w9 w9.heap.size (Nat.le_refl _) As A5 S.length cs S.length c5 S S ⟨by have:=Sl.of_own HR9.out;exact this,hcs,by omega⟩ HPR.out).mono ?_;rintro e w10 ⟨rfl,hb10⟩;rw[decide_eq_true rfl];have HB10:=Lib.hid (HB4.out.trans ((HC7.out.trans ((HB9.out.trans (hb10.mono HB9.out.size)).mono HC7.out.size)).mono HB4.out.size));clear hb10;go_wp2_with fail;go_ret;exact⟨rfl,HB10.out⟩
theorem zGg(w:World)(A:Option Addr)(n c:Nat)(l:List Ent)(h:EntsIn w A n c l)(ho:zfg l=false)(A2:Option Addr)(na ca:Nat)(A3':Option Addr)(nb cb:Nat)(z:Int)(hT:Tab w):
  Calls Tryz.prog 6 #[.slice A n c,.slice A2 na ca,.slice A3' nb cb,.int .i64 z] w fun e w'=>e=.returned (.bool true)∧Below w.heap.size w w':=by
 have HT:=Lib.hid hT;have HE:=Lib.hid h;have HO:=Lib.hid ho;clear hT h ho;go_enter Tryz.func6,Tryz.ntmps6
 go_wp2_with fail;refine(zf7 w w.heap.size (Nat.le_refl _) A n c l HE.out.ents HE.out.fits HE.out.lens HT.out).mono ?_;rintro e w2 ⟨hb2,⟨_,rfl⟩|⟨hyes,_⟩⟩
 ·have HB2:=Lib.hid hb2;clear hb2;go_wp2_with fail;refine(zd3 w2 (HT.out.below HB2.out)).mono ?_;rintro e w3 ⟨rfl,hb3⟩;have HB3:=Lib.hid (za9 HB2.out hb3);clear hb3;go_wp2_with fail;refine(zd3 w3 (HT.out.below HB3.out)).mono ?_;rintro e w4 ⟨rfl,hb4⟩;have HB4:=Lib.hid (za9 HB3.out hb4);clear hb4;go_wp2_with fail;go_ret;exact⟨rfl,HB4.out⟩
 ·rw[HO.out]at hyes;cases hyes
theorem zz6(w:World)(A:Option Addr)(n c:Nat)(l:List Ent)(h:EntsIn w A n c l)(ho:zfg l=true)(A2:Option Addr)(na ca:Nat)(A3':Option Addr)(nb cb:Nat)(hna:20<na∨na≤20∧20<nb)(z:Int)(hT:Tab w):
  Calls Tryz.prog 6 #[.slice A n c,.slice A2 na ca,.slice A3' nb cb,.int .i64 z] w fun e w'=>e=.returned (.bool true)∧Below w.heap.size w w':=by
 have HT:=Lib.hid hT;have HE:=Lib.hid h;have HO:=Lib.hid ho;clear hT h ho;rcases hna with hna|⟨hna,hnb⟩
 ·have q20:decide (20<na)=true:=decide_eq_true hna;have q20':decide ((na:Int)>20)=true:=decide_eq_true (by omega);clear hna;go_enter Tryz.func6,Tryz.ntmps6
  go_wp2_with fail;refine(zf7 w w.heap.size (Nat.le_refl _) A n c l HE.out.ents HE.out.fits HE.out.lens HT.out).mono ?_;rintro e w2 ⟨hb2,⟨hno,_⟩|⟨_,p,B,dn,k,A3,hs',rfl,_,_⟩⟩
  ·rw[HO.out]at hno;cases hno
  have HB2:=Lib.hid hb2;clear hb2;go_wp2_with fail;refine(zd3 w2 (HT.out.below HB2.out)).mono ?_;rintro e w3 ⟨rfl,hb3⟩;have HB3:=Lib.hid (za9 HB2.out hb3);clear hb3;go_wp2_with fail;refine(zd3 w3 (HT.out.below HB3.out)).mono ?_;rintro e w4 ⟨rfl,hb4⟩;have HB4:=Lib.hid (za9 HB3.out hb4);clear hb4;go_wp2_with fail;go_ret;exact⟨rfl,HB4.out⟩
 ·have q20:decide (20<na)=false:=decide_eq_false (by omega);have q20':decide ((na:Int)>20)=false:=decide_eq_false (by omega);have q21:decide (20<nb)=true:=decide_eq_true hnb;have q21':decide ((nb:Int)>20)=true:=decide_eq_true (by omega);clear hna hnb;go_enter Tryz.func6,Tryz.ntmps6
  go_wp2_with fail;refine(zf7 w w.heap.size (Nat.le_refl _) A n c l HE.out.ents HE.out.fits HE.out.lens HT.out).mono ?_;rintro e w2 ⟨hb2,⟨hno,_⟩|⟨_,p,B,dn,k,A3,hs',rfl,_,_⟩⟩
  ·rw[HO.out]at hno;cases hno
  have HB2:=Lib.hid hb2;clear hb2;go_wp2_with fail;refine(zd3 w2 (HT.out.below HB2.out)).mono ?_;rintro e w3 ⟨rfl,hb3⟩;have HB3:=Lib.hid (za9 HB2.out hb3);clear hb3;go_wp2_with fail;refine(zd3 w3 (HT.out.below HB3.out)).mono ?_;rintro e w4 ⟨rfl,hb4⟩;have HB4:=Lib.hid (za9 HB3.out hb4);clear hb4;go_wp2_with fail;go_ret;exact⟨rfl,HB4.out⟩
theorem z5h(w:World)(A:Option Addr)(n c:Nat)(l:List Ent)(h:EntsIn w A n c l)(ho:zfg l=true)(A2:Option Addr)(na ca:Nat)(H:List Sh)(h2:StsIn w w.heap.size A2 na ca H)(hna:na≤20)(A3':Option Addr)(nb cb:Nat)(H':List Sh)(h3:StsIn w w.heap.size A3' nb cb H')(hnb:nb≤20)(hg:zb2 (H.map (·.d))≠0∨zb2 (H.map (·.d))=0∧zb2 (H'.map (·.d))≠0)(z:Int)(hT:Tab w):
  Calls Tryz.prog 6 #[.slice A n c,.slice A2 na ca,.slice A3' nb cb,.int .i64 z] w fun e w'=>e=.returned (.bool true)∧Below w.heap.size w w':=by
 have HT:=Lib.hid hT;have HE:=Lib.hid h;have HO:=Lib.hid ho;clear hT h ho;have HS:=Lib.hid h2;have HS3:=Lib.hid h3;have q20:decide (20<na)=false:=decide_eq_false (by omega);have q21:decide (20<nb)=false:=decide_eq_false (by omega);obtain⟨k1,hk1⟩:∃k,zb2 (H.map (·.d))=k:=⟨_,rfl⟩;obtain⟨k2,hk2⟩:∃k,zb2 (H'.map (·.d))=k:=⟨_,rfl⟩;have HG:=Lib.hid hg;have HK1:=Lib.hid hk1;have HK2:=Lib.hid hk2;rw[hk1,hk2]at hg;have HQ:Hid ((k1==0)=false∧(k1 !=0)=true∨k1=0∧(k2 !=0)=true):=by
  rcases hg with hg|⟨h1,h2⟩
  ·exact .inl ⟨by simpa using hg,by simpa using hg⟩
  ·exact .inr ⟨h1,by simpa using h2⟩
 clear h2 h3 hk1 hk2 hg;go_enter Tryz.func6,Tryz.ntmps6
 go_wp2_with fail;refine(zf7 w w.heap.size (Nat.le_refl _) A n c l HE.out.ents HE.out.fits HE.out.lens HT.out).mono ?_;rintro e w2 ⟨hb2,⟨hno,_⟩|⟨_,p,B,dn,k,A3,hs',rfl,_,_⟩⟩
 ·rw[HO.out]at hno;cases hno
 have HB2:=Lib.hid hb2;clear hb2;go_wp2_with fail;refine(zd3 w2 (HT.out.below HB2.out)).mono ?_;rintro e w3 ⟨rfl,hb3⟩;have HB3:=Lib.hid (za9 HB2.out hb3);clear hb3;go_wp2_with fail;refine(zEj w3 w.heap.size HB3.out.size A2 na ca H (HS.out.keep HB3.out (Nat.le_refl _)) A3' nb cb H' (HS3.out.keep HB3.out (Nat.le_refl _)) (HG.out.elim .inl fun h=>.inr h.2) 20000).mono ?_;rintro e w4 ⟨rfl,hb4⟩;have HB4:=Lib.hid (HB3.out.trans (hb4.mono HB3.out.size));clear hb4;go_wp2_with fail;refine(zr8 w4 w.heap.size HB4.out.size A2 na ca H (HS.out.keep HB4.out (Nat.le_refl _))).mono ?_;rintro e w5 ⟨rfl,hb5⟩;rw[HK1.out];have HB5:=Lib.hid (HB4.out.trans (hb5.mono HB4.out.size));clear hb5;rcases HQ.out with⟨q1,q2⟩|⟨rfl,q2⟩
 ·go_wp2_with fail;go_ret;exact⟨rfl,HB5.out⟩
 ·go_wp2_with fail;refine(zr8 w5 w.heap.size HB5.out.size A3' nb cb H' (HS3.out.keep HB5.out (Nat.le_refl _))).mono ?_;rintro e w6 ⟨rfl,hb6⟩;rw[HK2.out];have HB6:=Lib.hid (HB5.out.trans (hb6.mono HB5.out.size));clear hb6;go_wp2_with fail;go_ret;exact⟨rfl,HB6.out⟩
theorem z5g(w:World)(A:Option Addr)(n c:Nat)(x:Nat→F.tEnt.den)(h:EntsIn w A n c (F.entL n x))(A2:Option Addr)(na ca:Nat)(y:Nat→zh5.den)(h2:StsIn w w.heap.size A2 na ca (shL na y))(A3':Option Addr)(nb cb:Nat)(y':Nat→zh5.den)(h3:StsIn w w.heap.size A3' nb cb (shL nb y'))(z:Int)(hz:(Lit.int .i64 z).wf=true)(hT:Tab w):
  Calls Tryz.prog 6 #[.slice A n c,.slice A2 na ca,.slice A3' nb cb,.int .i64 z] w fun e w'=>e=.returned (.bool true)∧Below w.heap.size w w':=by
 have hz2: -9223372036854775808≤z∧z≤9223372036854775807:=by
  have hw:=hz;simp[Lit.wf]at hw
  exact⟨hw.1,hw.2⟩
 cases ho:zfg (F.entL n x)with
 |false=>exact zGg w A n c _ h ho A2 na ca A3' nb cb z hT
 |
  true=>
  by_cases hna:na≤20
  ·by_cases hnb:nb≤20
   ·by_cases h1:zb2 ((shL na y).map (·.d))=0
    ·by_cases h4:zb2 ((shL nb y').map (·.d))=0
     ·exact zB5 w A n c _ h ho A2 na ca _ h2 hna A3' nb cb _ h3 hnb ((ze1 _).1 h1) ((ze1 _).1 h4) z hz2 hT
     ·exact z5h w A n c _ h ho A2 na ca _ h2 hna A3' nb cb _ h3 hnb (.inr ⟨h1,h4⟩) z hT
    ·exact z5h w A n c _ h ho A2 na ca _ h2 hna A3' nb cb _ h3 hnb (.inl h1) z hT
   ·exact zz6 w A n c _ h ho A2 na ca A3' nb cb (.inr ⟨hna,by omega⟩) z hT
  ·exact zz6 w A n c _ h ho A2 na ca A3' nb cb (.inl (by omega)) z hT
end
end Go.Proofs.YtaociahafamncaaGreatDoor
