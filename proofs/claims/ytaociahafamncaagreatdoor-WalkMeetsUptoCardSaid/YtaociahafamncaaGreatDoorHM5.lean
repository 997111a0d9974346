/- Folded. -/
import Derived.Test.YtaociahafamncaaGreatDoorHM4
import Derived.Lib.AppendIntMem
import Derived.Lib.ItoaLen
set_option maxRecDepth 100000
set_option maxHeartbeats 40000000
namespace Go.Proofs.YtaociahafamncaaGreatDoor
namespace F
open Go.RowKit
def Tab(w:World):Prop:=Lib.TabIs Tryz.prog w "internal/strconv.uint64pow10" .u64 Lib.pow10Tab
theorem zr3:Tryz.prog.globalNamed "internal/strconv.uint64pow10" =some 0:=by kernel_rfl
theorem Tab.keep{w w':World}{B:Nat}(h:Tab w)(hB:0<B)(hb:Below B w w'):Tab w':=by
 unfold Tab Lib.TabIs World.var? at h⊢;rw[zr3]at h⊢;simp only[Option.bind_some]at h⊢;rw[hb.block _ hB];exact h
theorem Tab.lt{w:World}(h:Tab w):0<w.heap.size:=by
 unfold Tab Lib.TabIs World.var? at h;rw[zr3]at h;simp only[Option.bind_some]at h;rcases Nat.lt_or_ge 0 w.heap.size with h'|h'
 ·exact h'
 ·rw[Array.getElem?_eq_none h']at h;cases h
theorem Tab.below{w w':World}(h:Tab w)(hb:Below w.heap.size w w'):Tab w':=h.keep h.lt hb
theorem zec(n:Int)(h0: -9223372036854775808≤n)(h1:n≤9223372036854775807)(w:World)(ht:Tab w):
  Calls Tryz.prog 51 #[.int .i64 n] w fun e w'=>e=.returned (.string ⟨(Lib.itoa n).toArray⟩)∧Below w.heap.size w w':=by
 refine(Tryz.strconv_Itoa n h0 h1 w ht).mono ?_;rintro e w' ⟨rfl,k,os,rfl⟩;exact⟨rfl,Lib.below_grow _ w (Nat.le_refl _) k os⟩
structure Nd where
 fin:Bool
 out:Int
 ways:List (Int×Int×Int)
deriving DecidableEq
def wayT(x:Int×Int×Int):List UInt8:=32::Lib.itoa x.1++32::Lib.itoa x.2.1++32::Lib.itoa x.2.2
def sgn(d:Nd):List UInt8:=Lib.formatBool d.fin++Lib.itoa d.out++d.ways.flatMap wayT
def wayC(x:Int×Int×Int):List Value:=[.int .i64 x.1,.int .i64 x.2.1,.int .i64 x.2.2]
def waysC(l:List (Int×Int×Int)):List Value:=l.flatMap wayC
def fits64(z:Int):Prop:= -9223372036854775808≤z∧z≤9223372036854775807
def zBb(x:Int×Int×Int):Prop:=fits64 x.1∧fits64 x.2.1∧fits64 x.2.2
theorem zza{x:Int×Int×Int}(h:zBb x):(wayT x).length≤66:=by
 have a:=Lib.itoa_length_le x.1 h.1.1 h.1.2;have b:=Lib.itoa_length_le x.2.1 h.2.1.1 h.2.1.2;have c:=Lib.itoa_length_le x.2.2 h.2.2.1 h.2.2.2;simp[wayT]
 omega
theorem zsj{l:List (Int×Int×Int)}(h:∀x∈l,zBb x):(l.flatMap wayT).length≤66*l.length:=by
 induction l with
 |nil=>simp
 |
  cons x r ih=>
  have h1:=zza (h x (List.mem_cons_self ..));have h2:=ih fun y hy=>h y (List.mem_cons_of_mem _ hy)
  rw[List.flatMap_cons,List.length_append,List.length_cons];omega
structure SgR(w W:World)(b:Nat)(l:List UInt8):Prop where
 sb:Sb W b b l
 tab:Tab W
 bel:Below w.heap.size w W
 le:w.heap.size≤b
 lt:b<W.heap.size
theorem SgR.keep{w W W':World}{b:Nat}{l:List UInt8}(h:SgR w W b l)(hb:Below W.heap.size W W'):SgR w W' b l:=by
 refine⟨?_,h.tab.below hb,za9 h.bel hb,h.le,Nat.lt_of_lt_of_le h.lt hb.size⟩;rcases h.sb with⟨h1,v,h2,h3,h4⟩|⟨h1,v,h2,h3,h4⟩
 ·exact .inl ⟨h1,v,(hb.block b h.lt).trans h2,za2 h3 hb,h4⟩
 ·exact .inr ⟨h1,v,(hb.block b h.lt).trans h2,za2 h3 hb,h4⟩
theorem SgR.write{w W:World}{b:Nat}{l:List UInt8}(h:SgR w W b l)(hb0:0<b)(s:List UInt8)(hl:l.length+s.length≤4611686018427):
  Calls Tryz.prog 50 #[.pointer (some ⟨b,0,none⟩),.string ⟨s.toArray⟩] W fun e w'=>e=.returned (.tuple #[.int .i64 (⟨s.toArray⟩:ByteArray).size,.nilIface])∧SgR w w' b (l++s)∧Below b W w'∧zbi b W w':=by
 refine(zqk b b (Lib.byteCells l) ⟨s.toArray⟩ W h.sb (by rw[Lib.byteCells_length];show _+s.toArray.size≤_;simp;omega) (Nat.le_of_lt h.lt)).mono ?_;rintro e w' ⟨rfl,h1,h2,h3⟩;refine⟨rfl,⟨?_,h.tab.keep hb0 h2,h.bel.trans (h2.mono h.le),h.le,Nat.lt_of_lt_of_le h.lt h2.size⟩,h2,h3⟩;have e1:Lib.byteCells l++Lib.strCells ⟨s.toArray⟩=Lib.byteCells (l++s):=by
  simp[Lib.byteCells,Lib.strCells]
 unfold Sb;rw[←e1];exact h1
theorem zFh{w' w'':World}{a b c:Addr}{x y z:Value}(h:w'.cell? a=some x∧w'.cell? b=some y∧w'.cell? c=some z)(hb:Below w'.heap.size w' w''):w''.cell? a=some x∧w''.cell? b=some y∧w''.cell? c=some z:=by
 obtain⟨h1,h2,h3⟩:=h;exact⟨(hb.cell (lt_of_cell h1).1).trans h1,(hb.cell (lt_of_cell h2).1).trans h2,(hb.cell (lt_of_cell h3).1).trans h3⟩
theorem zH7{w' w'':World}{n B i j k:Nat}{x y z:Value}(h:w'.cell? ⟨n,i,none⟩=some x∧w'.cell? ⟨n,j,none⟩=some y∧w'.cell? ⟨n,k,none⟩=some z)(hn:n<B)(hb:Below B w' w''):w''.cell? ⟨n,i,none⟩=some x∧w''.cell? ⟨n,j,none⟩=some y∧w''.cell? ⟨n,k,none⟩=some z:=by
 obtain⟨h1,h2,h3⟩:=h;exact⟨(hb.cell (p:=⟨n,i,none⟩) hn).trans h1,(hb.cell (p:=⟨n,j,none⟩) hn).trans h2,(hb.cell (p:=⟨n,k,none⟩) hn).trans h3⟩
structure SgX(w W:World)(b:Nat)(l:List UInt8)(n:Nat)(x y z:Value):Prop where
 r:SgR w W b l
 blk:W.heap[n]? =some (.cells #[x,y,z] 107 (0,0))
theorem SgX.keep{w W W':World}{b n:Nat}{l:List UInt8}{x y z:Value}(h:SgX w W b l n x y z)(hb:Below W.heap.size W W'):SgX w W' b l n x y z:=
 ⟨h.r.keep hb,(hb.block n (Array.getElem?_eq_some_iff.1 h.blk).1).trans h.blk⟩
theorem SgX.cells{w W:World}{b n:Nat}{l:List UInt8}{x y z:Value}(h:SgX w W b l n x y z):W.cell? ⟨n,0,none⟩=some x∧W.cell? ⟨n,1,none⟩=some y∧W.cell? ⟨n,2,none⟩=some z:=
 ⟨cell_of_row _ n 0 _ _ (0,0) h.blk,cell_of_row _ n 1 _ _ (0,0) h.blk,cell_of_row _ n 2 _ _ (0,0) h.blk⟩
theorem SgX.write{w W:World}{b n:Nat}{l:List UInt8}{x y z:Value}(h:SgX w W b l n x y z)(hn:n≠b)(hb0:0<b)(s:List UInt8)(S:ByteArray)(hS:S=⟨s.toArray⟩)(hl:l.length+s.length≤4611686018427):
  Calls Tryz.prog 50 #[.pointer (some ⟨b,0,none⟩),.string S] W fun e w'=>e=.returned (.tuple #[.int .i64 S.size,.nilIface])∧SgX w w' b (l++s) n x y z:=by
 subst hS;refine(h.r.write hb0 s hl).mono ?_;rintro e w' ⟨rfl,h1,_,h3⟩;exact⟨rfl,h1,h3 n _ _ _ hn (by decide) h.blk⟩
theorem size_mk(l:List UInt8):(⟨l.toArray⟩:ByteArray).size=l.length:=by show l.toArray.size=_;simp
theorem zB0(l m:List UInt8):(⟨l.toArray⟩:ByteArray)++⟨m.toArray⟩=⟨(l++m).toArray⟩:=by
 apply ByteArray.ext
 simp
theorem zGd(l m:List UInt8)(h:l.length+m.length≤4611686018427)(w:World):(Op.stringOp .add (⟨l.toArray⟩:ByteArray) ⟨m.toArray⟩).run Tryz.prog w=.ok (.string ⟨(l++m).toArray⟩) w:=by
 rw[←zB0];exact run_string_add_sum w _ _ (by rw[size_mk,size_mk];omega)
theorem z1f(b:Bool):(Lib.formatBool b).length≤5:=by cases b<;>decide
theorem zzf(w:World)(d:Nd)(A:Option Addr)(m c:Nat)(hs:Sl w w.heap.size 3 A m (waysC d.ways))(hm:d.ways.length=m)(hm2:m≤4294967296)(hok:∀x∈d.ways,zBb x)(ho:fits64 d.out)(ht:Tab w):
  Calls Tryz.prog 57 #[.agg #[.bool d.fin,.int .i64 d.out,.slice A m c]] w fun e w'=>e=.returned (.string ⟨(sgn d).toArray⟩)∧Below w.heap.size w w':=by
 have HT:=Lib.hid ht;have HOK:=Lib.hid hok;have hb0:=ht.lt;have lf:=z1f d.fin;have li:=Lib.itoa_length_le d.out ho.1 ho.2;have HO:=Lib.hid ho;have c0:=fun w=>zGd (Lib.formatBool d.fin) (Lib.itoa d.out) (by omega) w
 clear ht hok ho;go_enter Tryz.func57,Tryz.ntmps57
 go_wp2_with fail;have H0:Hid (SgR w ((w.alloc (.cells #[.bool d.fin,.int .i64 d.out,.slice A m c] 88)).alloc (.cells #[.pointer none,.slice none 0 0] 113)) (w.heap.size+1) []):=by
  refine⟨.inl ⟨Nat.le_refl _,.slice none 0 0,?_,⟨rfl,.inl ⟨rfl,rfl⟩⟩,by simp[Value.ownBlock]⟩,?_,bnew (bnew (za0 w) _) _,Nat.le_succ _,by simp⟩
  ·have:=heap_alloc_new (w.alloc (.cells #[.bool d.fin,.int .i64 d.out,.slice A m c] 88)) (.cells #[.pointer none,.slice none 0 0] 113);simpa using this
  ·exact HT.out.below (bnew (bnew (za0 w) _) _)
 have k0:((w.alloc (.cells #[.bool d.fin,.int .i64 d.out,.slice A m c] 88)).alloc (.cells #[.pointer none,.slice none 0 0] 113)).cell? ⟨w.heap.size,0,none⟩=some (.bool d.fin)∧((w.alloc (.cells #[.bool d.fin,.int .i64 d.out,.slice A m c] 88)).alloc (.cells #[.pointer none,.slice none 0 0] 113)).cell? ⟨w.heap.size,1,none⟩=some (.int .i64 d.out)∧((w.alloc (.cells #[.bool d.fin,.int .i64 d.out,.slice A m c] 88)).alloc (.cells #[.pointer none,.slice none 0 0] 113)).cell? ⟨w.heap.size,2,none⟩=some (.slice A m c):=⟨by simp,by simp,by simp⟩;have K0:=Lib.hid k0;generalize(w.alloc (.cells #[.bool d.fin,.int .i64 d.out,.slice A m c] 88)).alloc (.cells #[.pointer none,.slice none 0 0] 113)=W1 at*;obtain⟨k1,k2,k3⟩:=k0;have hbb:0<w.heap.size+1:=by omega
 generalize hf:Lib.formatBool d.fin=fb at*;generalize hi:Lib.itoa d.out=io at*;have cat0:=c0 W1;go_region_held3 (fun w'=>w'.cell? ⟨w.heap.size,0,none⟩=some (.bool d.fin)∧w'.cell? ⟨w.heap.size,1,none⟩=some (.int .i64 d.out)∧w'.cell? ⟨w.heap.size,2,none⟩=some (.slice A m c))
  (first
   |assumption
   |exact K0.out
   |(refine zFh ?_ (za0 _).drew;assumption)
   |(refine zFh ?_ hbI;assumption)
   |(refine zH7 ?_ (Nat.lt_succ_self _) hbS;assumption))
  (first
   |(go_at_call 70;refine(Tryz.strconv_FormatBool _ _).mono ?_;rw[hf];rintro e wF ⟨rfl,rfl⟩)
   |(go_at_call 51;refine(zec _ HO.out.1 HO.out.2 _ (SgR.keep H0.out (by repeat(first|exact za0 _|refine Below.drew ?_))).tab).mono ?_;rw[hi];rintro e wI ⟨rfl,hbI⟩;have H1:=Lib.hid ((SgR.keep H0.out (by repeat(first|exact za0 _|refine Below.drew ?_))).keep hbI))
   |(go_at_call 50;refine(SgR.write (SgR.keep H1.out (by repeat(first|exact za0 _|refine Below.drew ?_))) hbb _ (by simp;omega)).mono ?_;rintro e wS ⟨rfl,hS,hbS,_⟩;have H2:=Lib.hid hS))
 rename_i hHeld
 have kk:=hHeld.2.2;rw[List.nil_append]at H2;clear hS hbS hHeld cat0 c0 H1 hbI H0 K0 k1 k2 k3;go_wp2_with fail;have hbase:=Lib.hid (show sgn d=(fb++io)++d.ways.flatMap wayT by unfold sgn;rw[hf,hi]);have HOK2:=Lib.hid (zsj HOK.out);have hlb:(fb++io).length≤26:=by rw[List.length_append];omega
 generalize fb++io=hd at*;clear hf hi lf li kk;go_loopw [17] (fun i wr=>∃k:Nat,k≤m∧i=.int .i64 k∧Hid (SgR w wr (w.heap.size+1) (hd++(d.ways.take k).flatMap wayT))) (fun i _=>m-(intOf i).toNat)
 case atStart=>exact⟨0,Nat.zero_le _,rfl,by simpa using H2⟩
 case round=>
  obtain⟨k,hk,rfl,HR⟩:=hrel;by_cases hlt:k<m
  ·obtain⟨bb,off,hA,hbB,hcell⟩:=hs.at_ hlt;subst hA;obtain⟨x,hx⟩:∃x,d.ways[k]? =some x:=⟨d.ways[k]'(by omega),List.getElem?_eq_getElem _⟩;obtain⟨⟨o1,o2⟩,⟨o3,o4⟩,⟨o5,o6⟩⟩:=HOK.out x (List.mem_of_getElem? hx);have g:∀j u,(wayC x)[j]? =some u→j<3→wr.cell? ⟨bb,off+(k*3+j),none⟩=some u:=fun j u hu hj=>
    (HR.out.bel.cell (p:=⟨bb,off+(k*3+j),none⟩) hbB).trans (hcell _ _ (by unfold waysC;rw[zc7 wayC 3 (fun _=>rfl) d.ways k j x hx hj];exact hu))
   have g0:=g 0 _ rfl (by omega);have g1:=g 1 _ rfl (by omega);have g2:=g 2 _ rfl (by omega);rw[←Nat.add_assoc]at g1 g2;rw[Nat.add_zero]at g0;have HN:Hid (hd++(d.ways.take (k+1)).flatMap wayT=(hd++(d.ways.take k).flatMap wayT)++wayT x):=by
    show _=_;rw[List.take_add_one,hx,List.flatMap_append];simp
   have hlen:(hd++(d.ways.take k).flatMap wayT).length≤300000000000:=by
    have:=zsj (l:=d.ways.take k) (fun y hy=>HOK.out y (List.mem_of_mem_take hy));rw[List.length_take]at this;rw[List.length_append];omega
   obtain⟨x1,x2,x3⟩:=x;simp only at o1 o2 o3 o4 o5 o6 g0 g1 g2;have l1:=Lib.itoa_length_le x1 o1 o2;have l2:=Lib.itoa_length_le x2 o3 o4;have l3:=Lib.itoa_length_le x3 o5 o6;have HW:Hid (wayT (x1,x2,x3)=(((((32::Lib.itoa x1)++[32])++Lib.itoa x2)++[32])++Lib.itoa x3)):=by
    show _=_;simp[wayT]
   obtain⟨S1,hj1⟩:∃S:ByteArray,⟨(Lib.itoa x1).toArray⟩=S:=⟨_,rfl⟩;obtain⟨S2,hj2⟩:∃S:ByteArray,⟨(Lib.itoa x2).toArray⟩=S:=⟨_,rfl⟩;obtain⟨S3,hj3⟩:∃S:ByteArray,⟨(Lib.itoa x3).toArray⟩=S:=⟨_,rfl⟩;have z1:S1.size≤21:=by rw[←hj1,size_mk];exact l1
   have z2:S2.size≤21:=by rw[←hj2,size_mk];exact l2
   have z3:S3.size≤21:=by rw[←hj3,size_mk];exact l3
   obtain⟨T1,t1⟩:∃T:ByteArray,(⟨#[32]⟩:ByteArray)++S1=T:=⟨_,rfl⟩;obtain⟨T2,t2⟩:∃T:ByteArray,T1++(⟨#[32]⟩:ByteArray)=T:=⟨_,rfl⟩;obtain⟨T3,t3⟩:∃T:ByteArray,T2++S2=T:=⟨_,rfl⟩;obtain⟨T4,t4⟩:∃T:ByteArray,T3++(⟨#[32]⟩:ByteArray)=T:=⟨_,rfl⟩;obtain⟨T5,t5⟩:∃T:ByteArray,T4++S3=T:=⟨_,rfl⟩;have y1:T1.size≤22:=by rw[←t1,ByteArray.size_append];show 1+_≤_;omega
   have y2:T2.size≤23:=by rw[←t2,ByteArray.size_append];show _+1≤_;omega
   have y3:T3.size≤44:=by rw[←t3,ByteArray.size_append];omega
   have y4:T4.size≤45:=by rw[←t4,ByteArray.size_append];show _+1≤_;omega
   have HW:Hid (T5=⟨(wayT (x1,x2,x3)).toArray⟩):=by
    show _=_;rw[←t5,←t4,←t3,←t2,←t1,←hj1,←hj2,←hj3];apply ByteArray.ext
    simp[wayT]
   have hlw:(wayT (x1,x2,x3)).length≤66:=zza ⟨⟨o1,o2⟩,⟨o3,o4⟩,⟨o5,o6⟩⟩;have d1:∀w:World,(Op.stringOp .add (⟨#[32]⟩:ByteArray) S1).run Tryz.prog w=.ok (.string T1) w:=fun w=>by rw[←t1];exact run_string_add_sum w _ _ (by show 1+_≤_;omega)
   have d2:∀w:World,(Op.stringOp .add T1 (⟨#[32]⟩:ByteArray)).run Tryz.prog w=.ok (.string T2) w:=fun w=>by rw[←t2];exact run_string_add_sum w _ _ (by show _+1≤_;omega)
   have d3:∀w:World,(Op.stringOp .add T2 S2).run Tryz.prog w=.ok (.string T3) w:=fun w=>by rw[←t3];exact run_string_add_sum w _ _ (by omega)
   have d4:∀w:World,(Op.stringOp .add T3 (⟨#[32]⟩:ByteArray)).run Tryz.prog w=.ok (.string T4) w:=fun w=>by rw[←t4];exact run_string_add_sum w _ _ (by show _+1≤_;omega)
   have d5:∀w:World,(Op.stringOp .add T4 S3).run Tryz.prog w=.ok (.string T5) w:=fun w=>by rw[←t5];exact run_string_add_sum w _ _ (by omega)
   have HJ1:=Lib.hid hj1;have HJ2:=Lib.hid hj2;have HJ3:=Lib.hid hj3;clear t1 t2 t3 t4 t5 y1 y2 y3 y4 z1 z2 z3 l1 l2 l3 hj1 hj2 hj3;generalize wayT (x1,x2,x3)=wt at*;clear hcell g hx;go_wp2_with fail;generalize hpb:w.heap.size+1=pb at*;have H0:Hid (SgX w (wr.alloc (.cells #[.int .i64 x1,.int .i64 x2,.int .i64 x3] 107)) pb (hd++(d.ways.take k).flatMap wayT) wr.heap.size (.int .i64 x1) (.int .i64 x2) (.int .i64 x3)):=⟨HR.out.keep (bnew (za0 wr) _),heap_alloc_new wr _⟩;have hnew:wr.heap.size≠pb:=by have:=HR.out.lt;omega
   have k0:(wr.alloc (.cells #[.int .i64 x1,.int .i64 x2,.int .i64 x3] 107)).cell? ⟨wr.heap.size,0,none⟩=some (.int .i64 x1)∧(wr.alloc (.cells #[.int .i64 x1,.int .i64 x2,.int .i64 x3] 107)).cell? ⟨wr.heap.size,1,none⟩=some (.int .i64 x2)∧(wr.alloc (.cells #[.int .i64 x1,.int .i64 x2,.int .i64 x3] 107)).cell? ⟨wr.heap.size,2,none⟩=some (.int .i64 x3):=⟨by simp,by simp,by simp⟩;have K0:=Lib.hid k0;generalize wr.alloc (.cells #[.int .i64 x1,.int .i64 x2,.int .i64 x3] 107)=W1 at*;generalize wr.heap.size=n5 at*;obtain⟨k1,k2,k3⟩:=k0;generalize hd++(d.ways.take k).flatMap wayT=acc at*;go_region_held3 (fun w'=>w'.cell? ⟨n5,0,none⟩=some (.int .i64 x1)∧w'.cell? ⟨n5,1,none⟩=some (.int .i64 x2)∧w'.cell? ⟨n5,2,none⟩=some (.int .i64 x3))
    (first
     |assumption
     |exact K0.out
     |(refine(SgX.keep H0.out ?_).cells;first|exact za0 _|exact(za0 _).drew|exact(za0 _).drew.drew|exact(za0 _).drew.drew.drew)
     |(refine(SgX.keep H1.out ?_).cells;first|exact za0 _|exact(za0 _).drew|exact(za0 _).drew.drew|exact(za0 _).drew.drew.drew)
     |(refine(SgX.keep H2'.out ?_).cells;first|exact za0 _|exact(za0 _).drew|exact(za0 _).drew.drew|exact(za0 _).drew.drew.drew)
     |(refine(SgX.keep H3.out ?_).cells;first|exact za0 _|exact(za0 _).drew|exact(za0 _).drew.drew|exact(za0 _).drew.drew.drew)
     |exact H4.out.cells)
    (first
     |(go_at_call 51;refine(zec x1 o1 o2 _ (SgX.keep H0.out (by repeat(first|exact za0 _|refine Below.drew ?_))).r.tab).mono ?_;rw[HJ1.out];rintro e wI ⟨rfl,hbI⟩;have H1:=Lib.hid ((SgX.keep H0.out (by repeat(first|exact za0 _|refine Below.drew ?_))).keep hbI))
     |(go_at_call 51;refine(zec x2 o3 o4 _ (SgX.keep H1.out (by repeat(first|exact za0 _|refine Below.drew ?_))).r.tab).mono ?_;rw[HJ2.out];rintro e wJ ⟨rfl,hbJ⟩;have H2':=Lib.hid ((SgX.keep H1.out (by repeat(first|exact za0 _|refine Below.drew ?_))).keep hbJ))
     |(go_at_call 51;refine(zec x3 o5 o6 _ (SgX.keep H2'.out (by repeat(first|exact za0 _|refine Below.drew ?_))).r.tab).mono ?_;rw[HJ3.out];rintro e wK ⟨rfl,hbK⟩;have H3:=Lib.hid ((SgX.keep H2'.out (by repeat(first|exact za0 _|refine Below.drew ?_))).keep hbK))
     |(go_at_call 50;refine(SgX.write (SgX.keep H3.out (by repeat(first|exact za0 _|refine Below.drew ?_))) hnew hbb wt T5 HW.out (by omega)).mono ?_;rintro e wS ⟨rfl,hS⟩;have H4:=Lib.hid hS))
   all_goals
    subst hpb;go_wp2_with fail;go_roundw;case rel=>exact⟨k+1,by omega,by go_num,by rw[HN.out];exact Lib.hid H4.out.r⟩
    case measure=>simp[intOf];omega
  ·obtain rfl:m=k:=by omega
   have hall:d.ways.take d.ways.length=d.ways:=List.take_of_length_le (Nat.le_refl _);go_wp2_with fail;refine(Tryz.Builder_String_any _ _ _ _ HR.out.sb (Nat.le_of_lt HR.out.lt)).mono ?_;rintro e w2 ⟨rfl,hb2⟩;go_wp2_with fail;go_ret;refine⟨?_,HR.out.bel.trans (hb2.mono HR.out.le)⟩;rw[hbase.out,←hm,hall];rfl
end F
namespace F
open Go.RowKit
def numI(z:Int):List Int:=numZ z.toNat
def zc5(zs:List Int):List Int:=zs.flatMap numI
def zbd(z:Int):Prop:=0≤z∧z≤9223372036854775807
theorem zch{z:Int}(h:zbd z):1≤(numI z).length∧(numI z).length≤9:=zoa (by have:=h.2;have:=h.1;omega)
theorem zfb(w:World)(A:Option Addr)(m c B:Nat)(zs:List Int)(hm:m≤1000)(hs:Sl w B 1 A m (zs.map (.int .i64)))(hB:B≤w.heap.size)(hn:∀z∈zs,zbd z):
  Calls Tryz.prog 37 #[.slice A m c] w fun e w'=>e=.returned (.string (strOfNums (zc5 zs)))∧Below w.heap.size w w':=by
 have e1:((zs.map Int.toNat).map fun n=>Value.int .i64 (n:Nat))=zs.map (.int .i64):=by
  rw[List.map_map];apply List.map_congr_left
  intro z hz
  have:=(hn z hz).1;show Value.int .i64 ((z.toNat:Nat):Int)=_;rw[Int.toNat_of_nonneg this]
 have e2:zq9 (zs.map Int.toNat)=zc5 zs:=by
  unfold zq9 zc5 numI;rw[List.flatMap_map]
 rw[←e2];refine zCg w A m c B (zs.map Int.toNat) hm (by rw[e1];exact hs) hB ?_;intro n hn'
 obtain⟨z,hz,rfl⟩:=List.mem_map.1 hn';have:=hn z hz;have h1:=this.1;have h2:=this.2;omega
def wayZ(x:Int×Int×Int):List Int:=zc5 [x.1,x.2.1,x.2.2]
def zh7(d:Nd):Int:=2*(d.ways.length:Int)+(if d.fin then 1 else 0)
def zb0(d:Nd):List Int:=numI (zh7 d)++((if d.fin then numI d.out else[])++d.ways.flatMap wayZ)
def wayP(x:Int×Int×Int):Prop:=zbd x.1∧zbd x.2.1∧zbd x.2.2
theorem zt1{x:Int×Int×Int}(h:wayP x):(wayZ x).length≤27:=by
 have a:=(zch h.1).2;have b:=(zch h.2.1).2;have c:=(zch h.2.2).2;simp[wayZ,zc5]
 omega
theorem zjg{l:List (Int×Int×Int)}(h:∀x∈l,wayP x):(l.flatMap wayZ).length≤27*l.length:=by
 induction l with
 |nil=>simp
 |
  cons x r ih=>
  have h1:=zt1 (h x (List.mem_cons_self ..));have h2:=ih fun y hy=>h y (List.mem_cons_of_mem _ hy)
  rw[List.flatMap_cons,List.length_append,List.length_cons];omega
theorem zH4(a b:List Int):strOfNums a++strOfNums b=strOfNums (a++b):=by
 apply ByteArray.ext
 simp[strOfNums]
theorem zni(a b:List Int)(h:a.length+b.length≤4611686018427387904)(w:World):(Op.stringOp .add (strOfNums a) (strOfNums b)).run Tryz.prog w=.ok (.string (strOfNums (a++b))) w:=by
 rw[←zH4];exact run_string_add_sum w _ _ (by rw[strOfNums_size,strOfNums_size];omega)
theorem znk(w:World)(cs:Array Value)(e size m:Nat){nb:Nat}(hb:w.heap.size=nb)(hm:cs.size=m*size):Sl (w.alloc (.cells cs e)) (w.alloc (.cells cs e)).heap.size size (some ⟨nb,0,none⟩) m cs.toList:=by
 subst hb;refine⟨by simpa using hm,fun _=>⟨w.heap.size,0,rfl,by simp,fun j u hu=>?_⟩⟩;have:=zu1 w cs e j u hu;rwa[Addr.add_lit]at this
theorem zej{w W W':World}{o:Obj}(h:Below w.heap.size w W)(hb:Below (W.alloc o).heap.size (W.alloc o) W'):Below w.heap.size w W':=za9 (bnew h o) hb
theorem write_any(w:World)(d:Nd)(A:Option Addr)(m c:Nat)(hs:Sl w w.heap.size 3 A m (waysC d.ways))(hm:d.ways.length=m)(hm2:m≤4294967296)(hok:∀x∈d.ways,wayP x)(ho:zbd d.out):
  Calls Tryz.prog 38 #[.agg #[.bool d.fin,.int .i64 d.out,.slice A m c]] w fun e w'=>e=.returned (.string (strOfNums (zb0 d)))∧Below w.heap.size w w':=by
 have HOK:=Lib.hid hok;have HO:=Lib.hid ho;have HS:=Lib.hid hs;have hw:IntKind.i64.wrap (2*(m:Int))=2*(m:Int):=IntWalk.i64_in _ (by omega);cases hf:d.fin
 ·obtain⟨hdz,hhd⟩:∃z,zh7 d=z:=⟨_,rfl⟩;obtain⟨pre,hpre⟩:∃p,(if d.fin then numI d.out else[])=p:=⟨_,rfl⟩;have HW:Hid (zb0 d=numI hdz++(pre++d.ways.flatMap wayZ)):=by
   show _=_;unfold zb0;rw[hhd,hpre]
  have hhz:zh7 d=2*(m:Int)+(if d.fin then 1 else 0):=by unfold zh7;rw[hm]
  rw[hhd,hf]at hhz;rw[hf]at hpre;simp at hhz hpre
  have hpl:pre.length≤9:=by
   rw[hpre];exact Nat.zero_le _
  have hph:zbd hdz:=by rw[hhz];unfold zbd;omega
  have HP:=Lib.hid hpre;clear hhd hok ho hs hpre;go_enter Tryz.func38,Tryz.ntmps38
  go_wp2_with fail;go_loopw [4,22] (fun v i wr=>∃(k:Nat),k≤m∧i=.int .i64 k∧v=.string (strOfNums (pre++(d.ways.take k).flatMap wayZ))∧Hid (Below w.heap.size w wr)) (fun _ i _=>m-(intOf i).toNat)
  case atStart=>exact⟨0,Nat.zero_le _,rfl,by rw[HP.out];rfl,Lib.hid (bnew (za0 w) _)⟩
  case round=>
   obtain⟨k,hk,rfl,rfl,HB⟩:=hrel;have hacc:(pre++(d.ways.take k).flatMap wayZ).length≤300000000000:=by
    have:=zjg (l:=d.ways.take k) (fun y hy=>HOK.out y (List.mem_of_mem_take hy));rw[List.length_take]at this;rw[List.length_append];omega
   by_cases hlt:k<m
   ·obtain⟨bb,off,hA,hbB,hcell⟩:=HS.out.at_ hlt;subst hA;obtain⟨x,hx⟩:∃x,d.ways[k]? =some x:=⟨d.ways[k]'(by omega),List.getElem?_eq_getElem _⟩;have hxp:=HOK.out x (List.mem_of_getElem? hx);have g:∀j u,(wayC x)[j]? =some u→j<3→wr.cell? ⟨bb,off+(k*3+j),none⟩=some u:=fun j u hu hj=>
     (HB.out.cell (p:=⟨bb,off+(k*3+j),none⟩) hbB).trans (hcell _ _ (by unfold waysC;rw[zc7 wayC 3 (fun _=>rfl) d.ways k j x hx hj];exact hu))
    have g0:=g 0 _ rfl (by omega);have g1:=g 1 _ rfl (by omega);have g2:=g 2 _ rfl (by omega);rw[←Nat.add_assoc]at g1 g2;rw[Nat.add_zero]at g0;have HN:pre++(d.ways.take (k+1)).flatMap wayZ=(pre++(d.ways.take k).flatMap wayZ)++zc5 [x.1,x.2.1,x.2.2]:=by
     rw[List.take_add_one,hx,List.flatMap_append];simp[wayZ]
    have hlw:(zc5 [x.1,x.2.1,x.2.2]).length≤27:=zt1 hxp;have HXP:=Lib.hid hxp;obtain⟨x1,x2,x3⟩:=x;simp only at g0 g1 g2 hlw HN;generalize pre++(d.ways.take k).flatMap wayZ=acc at*;have hcat:=zni acc (zc5 [x1,x2,x3]) (by omega);have HN2:Hid (strOfNums (acc++zc5 [x1,x2,x3])=strOfNums (pre++(d.ways.take (k+1)).flatMap wayZ)):=by show _=_;rw[HN]
    clear HN;have HNS:=Lib.hid (fun(W:World) (A:Option Addr) (hs:Sl W W.heap.size 1 A 3 [.int .i64 x1,.int .i64 x2,.int .i64 x3])=>zfb W A 3 3 W.heap.size [x1,x2,x3] (by omega) hs (Nat.le_refl _) (by
     obtain⟨p1,p2,p3⟩:=HXP.out;intro z hz
     simp only[List.mem_cons,List.not_mem_nil,or_false]at hz;rcases hz with rfl|rfl|rfl
     ·exact p1
     ·exact p2
     ·exact p3))
    generalize strOfNums acc=S at*;generalize strOfNums (zc5 [x1,x2,x3])=T at*;generalize strOfNums (acc++zc5 [x1,x2,x3])=U at*;clear hcell g hx hxp;go_wp2_with fail;refine(HNS.out _ _ (znk _ _ _ 1 3 (by simp) rfl)).mono ?_;rintro e w2 ⟨rfl,hb2⟩;go_wp2_with fail;go_roundw;case rel=>exact⟨k+1,by omega,by go_num,by rw[HN2.out],Lib.hid (zej (bnew HB.out _) hb2)⟩
    case measure=>simp[intOf];omega
   ·obtain rfl:m=k:=by omega
    have hall:d.ways.take m=d.ways:=List.take_of_length_le (by omega);rw[hall]at hacc⊢;have hcat:=zni (numI hdz) (pre++d.ways.flatMap wayZ) (by have:=(zch hph).2;omega);have HF:Hid (strOfNums (numI hdz++(pre++d.ways.flatMap wayZ))=strOfNums (zb0 d)):=by show _=_;rw[HW.out]
    have hone:zc5 [hdz]=numI hdz:=by simp[zc5]
    have HNS:=Lib.hid (fun(W:World) (A:Option Addr) (hs:Sl W W.heap.size 1 A 1 [.int .i64 hdz])=>zfb W A 1 1 W.heap.size [hdz] (by omega) hs (Nat.le_refl _) (by intro z hz;rw[List.mem_singleton]at hz;rw[hz];exact hph));rw[hone]at HNS;generalize strOfNums (numI hdz)=S at*;generalize strOfNums (pre++d.ways.flatMap wayZ)=T at*;generalize strOfNums (numI hdz++(pre++d.ways.flatMap wayZ))=U at*;subst hhz;go_wp2_with fail;refine(HNS.out _ _ (znk _ _ _ 1 1 (by simp) rfl)).mono ?_;rintro e w2 ⟨rfl,hb2⟩;go_wp2_with fail;go_ret;exact⟨by rw[←HF.out];rfl,zej HB.out hb2⟩
 ·obtain⟨hdz,hhd⟩:∃z,zh7 d=z:=⟨_,rfl⟩;obtain⟨pre,hpre⟩:∃p,(if d.fin then numI d.out else[])=p:=⟨_,rfl⟩;have HW:Hid (zb0 d=numI hdz++(pre++d.ways.flatMap wayZ)):=by
   show _=_;unfold zb0;rw[hhd,hpre]
  have hhz:zh7 d=2*(m:Int)+(if d.fin then 1 else 0):=by unfold zh7;rw[hm]
  rw[hhd,hf]at hhz;rw[hf]at hpre;simp at hhz hpre
  have hpl:pre.length≤9:=by
   rw[←hpre];exact(zch ho).2
  have hph:zbd hdz:=by rw[hhz];unfold zbd;omega
  have HP:=Lib.hid hpre;clear hhd hok ho hs hpre;go_enter Tryz.func38,Tryz.ntmps38
  go_wp2_with fail;have hone':zc5 [d.out]=pre:=by rw[←HP.out];simp[zc5]
  refine(zfb _ _ _ _ _ [d.out] (by omega) (znk _ _ _ 1 1 (by simp) rfl) (Nat.le_refl _) (by intro z hz;rw[List.mem_singleton]at hz;rw[hz];exact HO.out)).mono ?_;rw[hone'];rintro e w1 ⟨rfl,hb1⟩;have HB1:=Lib.hid (zej (bnew (za0 w) (.cells #[.bool true,.int .i64 d.out,.slice A m c] 88)) hb1);have hcc:w1.cell? ⟨w.heap.size,2,none⟩=some (.slice A m c):=by
   refine(hb1.cell (p:=⟨w.heap.size,2,none⟩) (by simp;omega)).trans ?_;simp
  clear hb1 hone';go_wp2_with fail;go_loopw [4,22] (fun v i wr=>∃(k:Nat),k≤m∧i=.int .i64 k∧v=.string (strOfNums (pre++(d.ways.take k).flatMap wayZ))∧Hid (Below w.heap.size w wr)) (fun _ i _=>m-(intOf i).toNat)
  case atStart=>exact⟨0,Nat.zero_le _,rfl,by simp,Lib.hid (HB1.out)⟩
  case round=>
   obtain⟨k,hk,rfl,rfl,HB⟩:=hrel;have hacc:(pre++(d.ways.take k).flatMap wayZ).length≤300000000000:=by
    have:=zjg (l:=d.ways.take k) (fun y hy=>HOK.out y (List.mem_of_mem_take hy));rw[List.length_take]at this;rw[List.length_append];omega
   by_cases hlt:k<m
   ·obtain⟨bb,off,hA,hbB,hcell⟩:=HS.out.at_ hlt;subst hA;obtain⟨x,hx⟩:∃x,d.ways[k]? =some x:=⟨d.ways[k]'(by omega),List.getElem?_eq_getElem _⟩;have hxp:=HOK.out x (List.mem_of_getElem? hx);have g:∀j u,(wayC x)[j]? =some u→j<3→wr.cell? ⟨bb,off+(k*3+j),none⟩=some u:=fun j u hu hj=>
     (HB.out.cell (p:=⟨bb,off+(k*3+j),none⟩) hbB).trans (hcell _ _ (by unfold waysC;rw[zc7 wayC 3 (fun _=>rfl) d.ways k j x hx hj];exact hu))
    have g0:=g 0 _ rfl (by omega);have g1:=g 1 _ rfl (by omega);have g2:=g 2 _ rfl (by omega);rw[←Nat.add_assoc]at g1 g2;rw[Nat.add_zero]at g0;have HN:pre++(d.ways.take (k+1)).flatMap wayZ=(pre++(d.ways.take k).flatMap wayZ)++zc5 [x.1,x.2.1,x.2.2]:=by
     rw[List.take_add_one,hx,List.flatMap_append];simp[wayZ]
    have hlw:(zc5 [x.1,x.2.1,x.2.2]).length≤27:=zt1 hxp;have HXP:=Lib.hid hxp;obtain⟨x1,x2,x3⟩:=x;simp only at g0 g1 g2 hlw HN;generalize pre++(d.ways.take k).flatMap wayZ=acc at*;have hcat:=zni acc (zc5 [x1,x2,x3]) (by omega);have HN2:Hid (strOfNums (acc++zc5 [x1,x2,x3])=strOfNums (pre++(d.ways.take (k+1)).flatMap wayZ)):=by show _=_;rw[HN]
    clear HN;have HNS:=Lib.hid (fun(W:World) (A:Option Addr) (hs:Sl W W.heap.size 1 A 3 [.int .i64 x1,.int .i64 x2,.int .i64 x3])=>zfb W A 3 3 W.heap.size [x1,x2,x3] (by omega) hs (Nat.le_refl _) (by
     obtain⟨p1,p2,p3⟩:=HXP.out;intro z hz
     simp only[List.mem_cons,List.not_mem_nil,or_false]at hz;rcases hz with rfl|rfl|rfl
     ·exact p1
     ·exact p2
     ·exact p3))
    generalize strOfNums acc=S at*;generalize strOfNums (zc5 [x1,x2,x3])=T at*;generalize strOfNums (acc++zc5 [x1,x2,x3])=U at*;clear hcell g hx hxp;go_wp2_with fail;refine(HNS.out _ _ (znk _ _ _ 1 3 (by simp) rfl)).mono ?_;rintro e w2 ⟨rfl,hb2⟩;go_wp2_with fail;go_roundw;case rel=>exact⟨k+1,by omega,by go_num,by rw[HN2.out],Lib.hid (zej (bnew HB.out _) hb2)⟩
    case measure=>simp[intOf];omega
   ·obtain rfl:m=k:=by omega
    have hall:d.ways.take m=d.ways:=List.take_of_length_le (by omega);rw[hall]at hacc⊢;have hcat:=zni (numI hdz) (pre++d.ways.flatMap wayZ) (by have:=(zch hph).2;omega);have HF:Hid (strOfNums (numI hdz++(pre++d.ways.flatMap wayZ))=strOfNums (zb0 d)):=by show _=_;rw[HW.out]
    have hone:zc5 [hdz]=numI hdz:=by simp[zc5]
    have HNS:=Lib.hid (fun(W:World) (A:Option Addr) (hs:Sl W W.heap.size 1 A 1 [.int .i64 hdz])=>zfb W A 1 1 W.heap.size [hdz] (by omega) hs (Nat.le_refl _) (by intro z hz;rw[List.mem_singleton]at hz;rw[hz];exact hph));rw[hone]at HNS;generalize strOfNums (numI hdz)=S at*;generalize strOfNums (pre++d.ways.flatMap wayZ)=T at*;generalize strOfNums (numI hdz++(pre++d.ways.flatMap wayZ))=U at*;subst hhz;go_wp2_with fail;refine(HNS.out _ _ (znk _ _ _ 1 1 (by simp) rfl)).mono ?_;rintro e w2 ⟨rfl,hb2⟩;go_wp2_with fail;go_ret;exact⟨by rw[←HF.out];rfl,zej HB.out hb2⟩
end F
namespace F
open Go.RowKit
abbrev Ent:=List UInt8×Int
def entC(e:Ent):List Value:=[.string ⟨e.1.toArray⟩,.int .i64 e.2]
def entsC(l:List Ent):List Value:=l.flatMap entC
theorem entsC_len(l:List Ent):(entsC l).length=l.length*2:=flat_length entC 2 (fun _=>rfl) l
structure Ents(w:World)(B:Nat)(A:Option Addr)(n c:Nat)(l:List Ent):Prop where
 sl:Sl w B 2 A n (entsC l)
 nc:n≤c
 cm:n≤140737488355328
theorem Ents.len{w:World}{B n c:Nat}{A:Option Addr}{l:List Ent}(h:Ents w B A n c l):l.length=n:=by
 have:=h.sl.1;rw[entsC_len]at this;omega
theorem Ents.at_{w:World}{B n c:Nat}{A:Option Addr}{l:List Ent}(h:Ents w B A n c l)(hn:0<n):∃b off,A=some ⟨b,off,none⟩∧b<B∧
  ∀k e,l[k]? =some e→w.cell? ⟨b,off+k*2,none⟩=some (.string ⟨e.1.toArray⟩)∧w.cell? ⟨b,off+k*2+1,none⟩=some (.int .i64 e.2):=by
 obtain⟨b,off,hA,hb,hc⟩:=h.sl.at_ hn;refine⟨b,off,hA,hb,fun k e he=>?_⟩;have g:∀j u,(entC e)[j]? =some u→j<2→w.cell? ⟨b,off+(k*2+j),none⟩=some u:=fun j u hu hj=>
  hc _ _ (by unfold entsC;rw[zc7 entC 2 (fun _=>rfl) l k j e he hj];exact hu)
 exact⟨g 0 _ rfl (by omega),by have:=g 1 _ rfl (by omega);rwa[←Nat.add_assoc]at this⟩
theorem Ents.keep{w w':World}{B B' n c:Nat}{A:Option Addr}{l:List Ent}(h:Ents w B A n c l)(hb:Below B w w')(hB:B≤B'):Ents w' B' A n c l:=⟨(h.sl.below hb).more hB,h.nc,h.cm⟩
def zl0:List Ent→Int
 |[]=>0
 |e::_=>e.2
def zae(l:List Ent):Int:=l.foldl (fun m e=>min m e.2) (zl0 l)
theorem zog(w:World)(B:Nat)(hB:B≤w.heap.size)(A:Option Addr)(n c:Nat)(l:List Ent)(h:Ents w B A n c l)(hn:0<n):
  Calls Tryz.prog 35 #[.slice A n c] w fun e w'=>e=.returned (.int .i64 (zae l))∧Below w.heap.size w w':=by
 have hlen:=h.len;have hcm:=h.cm;obtain⟨b,off,rfl,hb,hcell⟩:=h.at_ hn;obtain⟨e0,he0⟩:∃e,l[0]? =some e:=⟨l[0]'(by omega),List.getElem?_eq_getElem _⟩;have hh:zl0 l=e0.2:=by
  cases l with
  |nil=>simp at he0
  |cons x r=>simp at he0;rw[←he0];rfl
 obtain⟨_,c1⟩:=hcell 0 e0 he0;rw[Nat.zero_mul,Nat.add_zero]at c1;have HC:=Lib.hid hcell;have HL:Hid (zae l=l.foldl (fun m e=>min m e.2) e0.2):=by
  show _=_;unfold zae;rw[hh]
 clear hcell h hh;go_enter Tryz.func35,Tryz.ntmps35
 go_wp2_with fail;go_loopw [3,12] (fun v i wr=>∃k:Nat,k≤n∧i=.int .i64 k∧v=.int .i64 ((l.take k).foldl (fun m e=>min m e.2) e0.2)∧Hid (Below w.heap.size w wr)) (fun _ i _=>n-(intOf i).toNat)
 case atStart=>exact⟨0,Nat.zero_le _,rfl,rfl,Lib.hid (za0 w)⟩
 case round=>
  obtain⟨k,hk,rfl,rfl,HB⟩:=hrel;by_cases hlt:k<n
  ·obtain⟨e,he⟩:∃e,l[k]? =some e:=⟨l[k]'(by omega),List.getElem?_eq_getElem _⟩;obtain⟨d0,d1⟩:=HC.out k e he;have f0:=(HB.out.cell (p:=⟨b,off+k*2,none⟩) (by show b<_;omega)).trans d0;have f1:=(HB.out.cell (p:=⟨b,off+k*2+1,none⟩) (by show b<_;omega)).trans d1;have HN:Hid ((l.take (k+1)).foldl (fun m e=>min m e.2) e0.2=min ((l.take k).foldl (fun m e=>min m e.2) e0.2) e.2):=by
    show _=_;rw[List.take_add_one,he,List.foldl_append];rfl
   obtain⟨t,o⟩:=e;simp only at f0 f1 HN;generalize(l.take k).foldl (fun m e=>min m e.2) e0.2=acc at*;clear d0 d1 he;go_wp2_with fail;go_roundw;case rel=>exact⟨k+1,by omega,by go_num,by rw[HN.out],Lib.hid (bnew HB.out _)⟩
   case measure=>simp[intOf];omega
  ·obtain rfl:k=n:=by omega
   have hall:l.take k=l:=List.take_of_length_le (by omega);rw[hall];go_wp2_with fail;go_ret;exact⟨by rw[HL.out];rfl,HB.out⟩
def zhb:List Ent→List UInt8→Int
 |[],_=>0
 |e::r,last=>if e.1=[]∨e.2<0 then 1 else if 64<e.1.length then 4 else if(Op.bytesLess e.1 last||e.1==last)=true then 3 else zhb r e.1
theorem zj7(t:List UInt8)(o:Int)(r:List Ent)(last:List UInt8):zhb ((t,o)::r) last=if t=[]∨o<0 then 1 else if 64<t.length then 4 else if(Op.bytesLess t last||t==last)=true then 3 else zhb r t:=rfl
def rightE(l:List Ent):Int:=if 65536<l.length then 8 else zhb l []
theorem zo3(w:World)(B:Nat)(hB:B≤w.heap.size)(A:Option Addr)(n c:Nat)(l:List Ent)(h:Ents w B A n c l):
  Calls Tryz.prog 34 #[.slice A n c] w fun e w'=>e=.returned (.int .i64 (rightE l))∧Below w.heap.size w w':=by
 have hlen:=h.len;have hcm:=h.cm;by_cases hbig:65536<n
 ·have q1:decide (65536<n)=true:=by simpa using hbig
  have HE:Hid (rightE l=8):=by
   show _=_;unfold rightE;rw[hlen,if_pos hbig]
  clear h;go_enter Tryz.func34,Tryz.ntmps34
  go_wp2_with fail;go_ret;exact⟨by rw[HE.out];rfl,za0 w⟩
 ·have HE:Hid (rightE l=zhb l []):=by
   show _=_;unfold rightE;rw[hlen,if_neg hbig]
  have q1:decide (65536<n)=false:=by simpa using hbig
  go_enter Tryz.func34,Tryz.ntmps34
  go_wp2_with fail;go_loopw [3,11] (fun v i wr=>∃(k:Nat) (last:List UInt8),k≤n∧i=.int .i64 k∧v=.string ⟨last.toArray⟩∧Hid (zhb (l.drop k) last=zhb l [])∧Hid (Below w.heap.size w wr)) (fun _ i _=>n-(intOf i).toNat)
  case atStart=>exact⟨0,[],Nat.zero_le _,rfl,rfl,Lib.hid rfl,Lib.hid (za0 w)⟩
  case round=>
   obtain⟨k,last,hk,rfl,rfl,HR,HB⟩:=hrel;by_cases hlt:k<n
   ·obtain⟨e,he⟩:∃e,l[k]? =some e:=⟨l[k]'(by omega),List.getElem?_eq_getElem _⟩;obtain⟨b,off,rfl,hb,hcell⟩:=h.at_ (by omega);obtain⟨d0,d1⟩:=hcell k e he;have f0:=(HB.out.cell (p:=⟨b,off+k*2,none⟩) (by show b<_;omega)).trans d0;have f1:=(HB.out.cell (p:=⟨b,off+k*2+1,none⟩) (by show b<_;omega)).trans d1;obtain⟨t,o⟩:=e;have hdrop:l.drop k=(t,o)::l.drop (k+1):=by
     obtain⟨h1,h2⟩:=List.getElem?_eq_some_iff.1 he;rw[List.drop_eq_getElem_cons h1,h2]
    have HR2:=HR;rw[hdrop,zj7]at HR2;simp only at f0 f1;clear d0 d1 he hdrop hcell;by_cases c1:t=[]∨o<0
    ·rw[if_pos c1]at HR2;rcases c1 with c1|c1
     ·subst c1;go_wp2_with fail;go_ret;exact⟨by rw[HE.out,←HR2.out];rfl,bnew HB.out _⟩
     ·have q2:decide (o<0)=true:=by simpa using c1
      go_wp2_with fail;all_goals
       go_ret;exact⟨by rw[HE.out,←HR2.out];rfl,bnew HB.out _⟩
    rw[if_neg c1]at HR2;have q2:decide (o<0)=false:=by simp;omega
    have q3:t.isEmpty=false:=by
     cases t with
     |nil=>exact absurd (.inl rfl) c1
     |cons _ _=>rfl
    clear c1;by_cases c2:64<t.length
    ·rw[if_pos c2]at HR2;have q4:decide (64<t.length)=true:=by simpa using c2
     go_wp2_with fail;go_ret;exact⟨by rw[HE.out,←HR2.out];rfl,bnew HB.out _⟩
    rw[if_neg c2]at HR2;have q4:decide (64<t.length)=false:=by simpa using c2
    by_cases c3:(Op.bytesLess t last||t==last)=true
    ·rw[if_pos c3]at HR2;go_wp2_with fail;go_ret;exact⟨by rw[HE.out,←HR2.out];rfl,bnew HB.out _⟩
    ·rw[if_neg c3]at HR2;have q5:(Op.bytesLess t last||t==last)=false:=by simpa using c3
     go_wp2_with fail;go_roundw;case rel=>exact⟨k+1,t,by omega,by go_num,rfl,HR2,Lib.hid (bnew HB.out _)⟩
     case measure=>simp[intOf];omega
   ·obtain rfl:k=n:=by omega
    have hall:l.drop k=[]:=List.drop_of_length_le (by omega);have HR2:=HR;rw[hall]at HR2;go_wp2_with fail;go_ret;exact⟨by rw[HE.out,←HR2.out];rfl,HB.out⟩
end F
end Go.Proofs.YtaociahafamncaaGreatDoor
