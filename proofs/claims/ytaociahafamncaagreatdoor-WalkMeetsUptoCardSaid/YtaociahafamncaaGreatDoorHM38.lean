/- Folded. -/
import Derived.Test.YtaociahafamncaaGreatDoorHM37
import Derived.Lib.Slices
import Derived.Test.YtaociahafamncaaGreatDoorRows
set_option maxRecDepth 100000
set_option maxHeartbeats 40000000
set_option linter.unusedVariables false
namespace Go.Proofs.YtaociahafamncaaGreatDoor
section
open Go.RowKit
open Sp
def NoC(r:List UInt8)(k:Nat):Prop:=∀m c,m<k→zb1 c=true→zaf (r.take m)≠encN c
theorem NoC.one(r:List UInt8):NoC r 1:=fun m c hm _ e=>by
 obtain rfl:m=0:=by omega
 exact zye e.symm
theorem NoC.step{r:List UInt8}{k:Nat}(h:NoC r k)(h2:∀c,zb1 c=true→zaf (r.take k)≠encN c):NoC r (k+1):=fun m c hm hw=>by
 by_cases e:m=k
 ·subst e;exact h2 c hw
 ·exact h m c (by omega) hw
theorem NoC.none{r:List UInt8}{k:Nat}(h:NoC r k)(hk:k=5∨r.length<k)(c:Int):¬Fst1 (zaf r) c:=by
 rintro⟨hw,s,hs⟩;have h1:=(zik c).2;have h2:(encN c).length=(encC c).length:=List.length_map ..;have h3:=congrArg List.length hs;have h4:(zaf r).length=r.length:=List.length_map ..;rw[List.length_append]at h3;refine h (encN c).length c (by omega) hw ?_;have h5:zaf (r.take (encN c).length)=(zaf r).take (encN c).length:=by unfold zaf;rw[List.map_take]
 rw[h5,hs,List.take_left]
end
section
open Go.RowKit
open Sp
def zJf(w:World)(t:List UInt8):Ending→World→Prop:=fun e w'=>Below w.heap.size w w'∧((∃v l,e=.returned (.tuple #[v,.int .i64 0])∧Dec (zaf t) l∧w'.ownsRow w.heap.size 3 1 v l.length ((l.map zc6).map (.int .i64)))∨(e=.returned (.tuple #[.slice none 0 0,.int .i64 7])∧∀l,¬Dec (zaf t) l))
theorem zDd{l:List Int}{j:Nat}{c:Int}(h:l[j]? =some c):((((l.take j).map zc6++l.drop j).map (Value.int .i64)).set j (.int .i64 (zc6 c)))=((l.take (j+1)).map zc6++l.drop (j+1)).map (Value.int .i64):=by
 obtain⟨hj,rfl⟩:=List.getElem?_eq_some_iff.1 h;have hlen:(((l.take j).map zc6).map (Value.int .i64)).length=j:=by
  rw[List.length_map,List.length_map,List.length_take];omega
 rw[List.map_append,List.set_append_right _ _ (by omega),hlen,Nat.sub_self,List.drop_eq_getElem_cons hj,List.map_cons,List.set_cons_zero,List.take_succ_eq_append_getElem hj];simp only[List.map_append,List.map_cons,List.map_nil,List.append_assoc,List.cons_append,List.nil_append]
theorem fold_at{l:List Int}{j:Nat}{c:Int}(h:l[j]? =some c):(((l.take j).map zc6++l.drop j).map (Value.int .i64))[j]? =some (.int .i64 c):=by
 obtain⟨hj,rfl⟩:=List.getElem?_eq_some_iff.1 h;have hlen:((l.take j).map zc6).length=j:=by
  rw[List.length_map,List.length_take];omega
 rw[List.getElem?_map,List.getElem?_append_right (by omega),hlen,Nat.sub_self,List.drop_eq_getElem_cons hj];rfl
theorem z4e(w:World)(t:List UInt8)(ht:t.length≤17592186044414):Calls Tryz.prog 61 #[.string ⟨t.toArray⟩] w (zJf w t):=by
 have HD:=Lib.hid (decode_any w t ht);go_enter Tryz.func61,Tryz.ntmps61
 go_wp2_with fail;refine HD.out.mono ?_;rintro e w1 ⟨hb1,⟨v,l,rfl,hd1,ho1⟩|⟨rfl,hno⟩⟩
 ·have HB1:=Lib.hid hb1;have HDE:=Lib.hid hd1;obtain⟨A,cp,rfl,hcp⟩:=za1 ho1;have HO1:=Lib.hid ho1;obtain⟨n,hn⟩:∃n,l.length=n:=⟨_,rfl⟩;rw[hn]at HO1 hcp;have HLN:=Lib.hid hn;have hnm:n≤17592186044414:=by
   have h1:=hd1.len;have h2:(zaf t).length=t.length:=List.length_map ..;omega
  clear hb1 hd1 ho1 hn HD;simp only[HLN.out];go_wp2_with fail;go_loopw [18] (fun iv wr=>∃j:Nat,j≤n∧iv=.int .i64 (j:Int)∧Hid (Below w.heap.size w wr)∧Hid (wr.ownsRow w.heap.size 3 1 (.slice A n cp) n (((l.take j).map zc6++l.drop j).map (.int .i64)))) (fun iv _=>n-(intOf iv).toNat)
  case atStart=>exact⟨0,Nat.zero_le _,rfl,HB1,Lib.hid (by simpa using HO1.out)⟩
  case round=>
   obtain⟨j,hj,rfl,HB,HO⟩:=hrel;clear HB1 HO1;by_cases hjn:j<n
   ·obtain⟨c,hc⟩:∃c,l[j]? =some c:=⟨l[j]'(by rw[HLN.out];exact hjn),List.getElem?_eq_getElem _⟩;obtain⟨g,rfl,hg1,hg2⟩:=zah HO.out (by omega);obtain⟨_,_,cs,hcs⟩:=zb3 HO.out;have r0:=zak HO.out (fold_at hc);have f0:=free_at hcs j;have HON:Hid ((wr.setCell ⟨g,j,none⟩ (.int .i64 (zc6 c))).ownsRow w.heap.size 3 1 (.slice (some ⟨g,0,none⟩) n cp) n (((l.take (j+1)).map zc6++l.drop (j+1)).map (.int .i64))):=by
     have:=zf0 (j:=j) (u:=.int .i64 (zc6 c)) HO.out;rwa[zDd hc]at this
    have HBN:Hid (Below w.heap.size w (wr.setCell ⟨g,j,none⟩ (.int .i64 (zc6 c)))):=below_set HB.out hg1 (Nat.le_refl _);have hq:decide (j<n)=true:=decide_eq_true hjn;clear hc hcs HO;go_wp2_with fail;refine(zDf c _).mono ?_;rintro e w2 ⟨rfl,rfl⟩;go_wp2_with fail;go_roundw;case rel=>exact⟨j+1,by omega,by go_num,HBN,HON⟩
    case measure=>simp[intOf];omega
   ·obtain rfl:j=n:=by omega
    have HE:Hid (wr.ownsRow w.heap.size 3 1 (.slice A l.length cp) l.length ((l.map zc6).map (.int .i64))):=by
     have:=HO.out;rwa[←HLN.out,List.take_length,List.drop_length,List.append_nil]at this
    have HPOST:Hid (zJf w t (.returned (.tuple #[.slice A j cp,.int .i64 0])) wr):=⟨HB.out,.inl ⟨_,l,by rw[HLN.out],HDE.out,HE.out⟩⟩;go_wp2_with fail;go_ret2;exact HPOST.out
 ·have HPOST:Hid (zJf w t (.returned (.tuple #[.slice none 0 0,.int .i64 7])) w1):=⟨hb1,.inr ⟨rfl,hno⟩⟩;clear hb1 hno HD;go_wp2_with fail;go_ret2;exact HPOST.out
end
section
open Go.RowKit
open Sp
def okC(m:List UInt8)(c:Int):Bool:=letB c||m.any fun b=>c==(b.toNat:Int)
def zkg(l:List Int)(m:List UInt8):Int:=if 16<l.length then 4 else if l.length=0 then 20 else if l.all (okC m)then 0 else 20
def zFc(w:World)(t m:List UInt8):Ending→World→Prop:=fun e w'=>Below w.heap.size w w'∧
 (
  (∃v l,e=.returned (.tuple #[v,.int .i64 0])∧Dec (zaf t) l∧zkg (l.map zc6) m=0∧w'.ownsRow w.heap.size 3 1 v l.length ((l.map zc6).map (.int .i64)))∨
  (∃l z,e=.returned (.tuple #[.slice none 0 0,.int .i64 z])∧z≠0∧Dec (zaf t) l∧zkg (l.map zc6) m=z)∨
  (e=.returned (.tuple #[.slice none 0 0,.int .i64 7])∧∀l,¬Dec (zaf t) l))
theorem zF2{m:List UInt8}{c:Int}{j:Nat}{b:UInt8}(h:m[j]? =some b):(m.take (j+1)).any (fun b=>c==(b.toNat:Int))=((m.take j).any (fun b=>c==(b.toNat:Int))||c==(b.toNat:Int)):=by
 obtain⟨hj,rfl⟩:=List.getElem?_eq_some_iff.1 h;rw[List.take_succ_eq_append_getElem hj,List.any_append];simp
theorem zI9{m:List UInt8}{j:Nat}{b:UInt8}(h:m[j]? =some b)(h2:j<(⟨m.toArray⟩:ByteArray).size):(((⟨m.toArray⟩:ByteArray)[j]'h2).toNat:Int)=(b.toNat:Int):=by
 obtain⟨hj,rfl⟩:=List.getElem?_eq_some_iff.1 h;rfl
theorem zF5{l:List Int}{m:List UInt8}{j:Nat}{c:Int}(h:l[j]? =some c)(ha:(l.take j).all (okC m)=true)(hc:okC m c=true):(l.take (j+1)).all (okC m)=true:=by
 obtain⟨hj,rfl⟩:=List.getElem?_eq_some_iff.1 h;rw[List.take_succ_eq_append_getElem hj,List.all_append,ha];simp[hc]
theorem zL3{l:List Int}{m:List UInt8}{c:Int}(h:c∈l)(hc:okC m c=false):l.all (okC m)=false:=by
 rw[List.all_eq_false];exact⟨c,h,by rw[hc];exact Bool.false_ne_true⟩
theorem zy4(w:World)(t m:List UInt8)(ht:t.length≤17592186044414)(hm:m.length≤17592186044414):Calls Tryz.prog 44 #[.string ⟨t.toArray⟩,.string ⟨m.toArray⟩] w (zFc w t m):=by
 have HD:=Lib.hid (z4e w t ht);have hz:(⟨m.toArray⟩:ByteArray).size=m.length:=by show m.toArray.size=_;simp
 have HBY:=Lib.hid (fun j b h=> @zI9 m j b h);obtain⟨M,hM⟩:∃M,m.length=M:=⟨_,rfl⟩;rw[hM]at hz hm;have HML:=Lib.hid hM;clear hM ht;go_enter Tryz.func44,Tryz.ntmps44
 go_wp2_with fail;refine HD.out.mono ?_;rintro e w1 ⟨hb1,⟨v,l,rfl,hd1,ho1⟩|⟨rfl,hno⟩⟩
 ·have HB1:=Lib.hid hb1;have HDE:=Lib.hid hd1;obtain⟨A,cp,rfl,hcp⟩:=za1 ho1;obtain⟨f,hf⟩:∃f,l.map zc6=f:=⟨_,rfl⟩;have hfl:f.length=l.length:=by rw[←hf,List.length_map]
  obtain⟨n,hn⟩:∃n,l.length=n:=⟨_,rfl⟩;have HPB:Hid (∀z:Int,z≠0→zkg f m=z→∀W,Below w1.heap.size w1 W→zFc w t m (.returned (.tuple #[.slice none 0 0,.int .i64 z])) W):=fun z hz h W hW=>⟨za9 hb1 hW,.inr (.inl ⟨l,z,rfl,hz,hd1,by rw[hf];exact h⟩)⟩
  have HPO:Hid (zkg f m=0→∀W,Below w1.heap.size w1 W→zFc w t m (.returned (.tuple #[.slice A n cp,.int .i64 0])) W):=fun h W hW=>⟨za9 hb1 hW,.inl ⟨.slice A n cp,l,rfl,hd1,by rw[hf];exact h,by have:=za2 ho1 hW;rwa[hn]at this⊢⟩⟩
  rw[hf,hn]at ho1;rw[hn]at hfl hcp⊢;have HO1:=Lib.hid (Sl.of_own ho1);have HFL:=Lib.hid hfl;clear hb1 hd1 ho1 hn HD hf hfl HDE;by_cases c1:16<n
  ·have HX:=Lib.hid (HPB.out 4 (by omega) (by unfold zkg;rw[if_pos (by rw[HFL.out];exact c1)]) w1 (za0 w1));have q1:decide (16<n)=true:=decide_eq_true c1;have q2:decide ((n:Int)>16)=true:=decide_eq_true (by omega);go_wp2_with fail;go_ret2;exact HX.out
  have q1:decide (16<n)=false:=decide_eq_false c1;have q2:decide ((n:Int)>16)=false:=decide_eq_false (by omega);by_cases c2:n=0
  ·have HX:=Lib.hid (HPB.out 20 (by omega) (by unfold zkg;rw[HFL.out,if_neg c1,if_pos c2]) w1 (za0 w1));subst c2;go_wp2_with fail;go_ret2;exact HX.out
  have q3:((n:Int)==0)=false:=by rw[beq_eq_false_iff_ne];omega
  have q4:(n==0)=false:=by rw[beq_eq_false_iff_ne];exact c2
  have HNB:Hid (f.all (okC m)=false→zkg f m=20):=fun h=>by unfold zkg;rw[HFL.out,if_neg c1,if_neg c2,h];rfl
  have HNG:Hid (f.all (okC m)=true→zkg f m=0):=fun h=>by unfold zkg;rw[HFL.out,if_neg c1,if_neg c2,h];rfl
  have hn16:n≤16:=by omega
  clear c1;go_wp2_with fail;go_loopw [28] (fun iv wr=>∃j:Nat,j≤n∧iv=.int .i64 (j:Int)∧Hid (Below w1.heap.size w1 wr)∧Hid ((f.take j).all (okC m)=true)) (fun iv _=>n-(intOf iv).toNat)
  case atStart=>exact⟨0,Nat.zero_le _,rfl,za0 w1,rfl⟩
  case round=>
   obtain⟨j,hj,rfl,HB,HA⟩:=hrel;by_cases hjn:j<n
   ·obtain⟨c,hc⟩:∃c,f[j]? =some c:=⟨f[j]'(by rw[HFL.out];exact hjn),List.getElem?_eq_getElem _⟩;obtain⟨b0,off,hA,hb0,hcl⟩:=(HO1.out.below HB.out).at_ hjn;have r0:=hcl j (.int .i64 c) (by rw[List.getElem?_map,hc];rfl);rw[hA];have hbw:b0<wr.heap.size:=Nat.lt_of_lt_of_le hb0 HB.out.size;have hq:decide (j<n)=true:=decide_eq_true hjn;have HC:=Lib.hid hc;clear hcl hc;go_wp2_with fail;refine(z48 c _).mono ?_;rintro e w2 ⟨rfl,rfl⟩;go_wp2_with fail;go_loopw [10,36] (fun okv iv w3=>∃k:Nat,k≤M∧iv=.int .i64 (k:Int)∧okv=.bool (letB c||(m.take k).any fun b=>c==(b.toNat:Int))∧w3=wr) (fun _ iv _=>M-(intOf iv).toNat)
    case atStart=>exact⟨0,Nat.zero_le _,rfl,by simp,rfl⟩
    case round=>
     obtain⟨k,hk,rfl,rfl,rfl⟩:=hrel;obtain⟨ob,hob⟩:∃ob,(letB c||(m.take k).any fun b=>c==(b.toNat:Int))=ob:=⟨_,rfl⟩;have HOB:=Lib.hid hob;simp only[hob];clear hob;by_cases hkm:k<M
     ·obtain⟨b,hb⟩:∃b,m[k]? =some b:=⟨m[k]'(by rw[HML.out];exact hkm),List.getElem?_eq_getElem _⟩;have hy:=HBY.out k b hb;obtain⟨z,hzb⟩:∃z:Int,(b.toNat:Int)=z:=⟨_,rfl⟩;rw[hzb]at hy;have hz0:0≤z:=by omega
      have hz1:z≤255:=by have:=b.toNat_lt;omega
      obtain⟨x,hx⟩:∃x,(c==z)=x:=⟨_,rfl⟩;have HON:Hid ((letB c||(m.take (k+1)).any fun b=>c==(b.toNat:Int))=(ob||x)):=by
       show _=_;rw[zF2 hb,←Bool.or_assoc,HOB.out,hzb,hx]
      have hq2:decide (k<M)=true:=decide_eq_true hkm;clear hb hzb HOB;cases ob
      ·go_wp2_with fail;go_roundw;case rel=>exact⟨k+1,by omega,by go_num,by rw[HON.out];simp,trivial⟩
       case measure=>simp[intOf];omega
      ·clear hx;go_wp2_with fail;go_roundw;case rel=>exact⟨k+1,by omega,by go_num,by rw[HON.out];simp,trivial⟩
       case measure=>simp[intOf];omega
     ·obtain rfl:k=M:=by omega
      have HOK:Hid (okC m c=ob):=by
       have:=HOB.out;rw[←HML.out,List.take_length]at this;exact this
      have hq2:decide (k<k)=false:=decide_eq_false hkm;clear HOB;cases ob
      ·have HX:=Lib.hid (HPB.out 20 (by omega) (HNB.out (zL3 (List.mem_of_getElem? HC.out) HOK.out)) wr HB.out);go_wp2_with fail;go_ret2;exact HX.out
      ·have HAN:=Lib.hid (zF5 HC.out HA.out HOK.out);go_wp2_with fail;go_roundw;case rel=>exact⟨j+1,by omega,by go_num,HB,HAN⟩
       case measure=>simp[intOf];omega
   ·obtain rfl:j=n:=by omega
    have HX:=Lib.hid (HPO.out (HNG.out (by have:=HA.out;rwa[←HFL.out,List.take_length]at this)) wr HB.out);have hq:decide (j<j)=false:=decide_eq_false hjn;go_wp2_with fail;go_ret2;exact HX.out
 ·have HPOST:Hid (zFc w t m (.returned (.tuple #[.slice none 0 0,.int .i64 7])) w1):=⟨hb1,.inr (.inr ⟨rfl,hno⟩)⟩;clear hb1 hno HD;go_wp2_with fail;go_ret2;exact HPOST.out
end
section
open Go.RowKit
open Sp
theorem z8j{f:List Int}{m:List UInt8}(h:zkg f m=0):f.length≤16∧0<f.length∧f.all (okC m)=true:=by
 unfold zkg at h;split at h
 ·omega
 ·split at h
  ·omega
  ·split at h
   ·exact⟨by omega,by omega,by assumption⟩
   ·omega
theorem ztb(b off n cp i:Nat)(h:i<n)(hc:n≤cp)(w:World):(Instr.slice 71 (.slice (some ⟨b,off,none⟩) n cp) (some (.int .i64 (i:Nat))) none none).run Tryz.prog w=.ok (.slice (some ⟨b,off+i,none⟩) (n-i) (cp-i)) w:=by
 have i1:((i:Nat):Int)≤(n:Int):=by omega
 have i2:¬(cp=i):=by omega
 have i4:(0:Int)≤(i:Nat):=by omega
 simp[Instr.slice,run_underlying Tryz.underlying71,Instr.sliceBounds,run_sliceBound,i1,i2,i4,Addr.add_lit]
theorem z1b{a b:List Int}{j:Nat}(h:j<a.length):(a++b).getD j 0=a[j]:=by
 rw[List.getD_eq_getElem?_getD,List.getElem?_append_left h,List.getElem?_eq_getElem h];rfl
theorem zBa(w:World)(A:Option Addr)(n cp:Nat)(q:List Int)(star:Bool)(hs:Sl w w.heap.size 1 A n ((q++if star then[42]else[]).map (.int .i64)))(hcp:n≤cp)(h42:∀c∈q,c≠42)(hq:q.length≤17)(hn:0<n):
  Calls Tryz.prog 45 #[.slice A n cp] w fun e w'=>e=.returned (.bool false)∧w'=w:=by
 have hln:(q++if star then[42]else[]:List Int).length=n:=by have:=hs.1;simpa using this
 have hn18:n≤18:=by
  have:=hln;cases star<;>simp at this<;>omega
 obtain⟨b,off,rfl,hb,hc⟩:=hs.at_ hn;have hcell:∀(zs:List Int),zs=(q++if star then[42]else[]:List Int)→∀j,j<zs.length→w.cell? ⟨b,off+j,none⟩=some (.int .i64 (zs.getD j 0)):=by
  rintro zs rfl j hj;refine hc j _ ?_;rw[List.getElem?_map,List.getElem?_eq_getElem hj];show some _=some _;rw[List.getD_eq_getElem?_getD,List.getElem?_eq_getElem hj];rfl
 cases star
 ·have hx:Lib.idxOf (((q++if false then[42]else[]:List Int)).take n) 42= -1:=Lib.idxOf_miss _ n 42 fun j hj=>by
   have hj2:j<q.length:=by simp at hln;omega
   rw[z1b hj2];exact h42 _ (List.getElem_mem _)
  have HI:=Lib.hid (Tryz.slices_Index_int b off n cp _ 42 w (by omega) (by omega) (hcell _ rfl));rw[hx]at HI;clear hc hcell hx hs hln h42;go_enter Tryz.func45,Tryz.ntmps45
  go_wp2_with fail;refine HI.out.mono ?_;rintro e w1 ⟨rfl,rfl⟩;go_wp2_with fail;go_ret;exact⟨rfl,rfl⟩
 ·obtain⟨Q,hQ⟩:∃Q,q.length=Q:=⟨_,rfl⟩;have hnQ:n=Q+1:=by
   rw[List.length_append,hQ]at hln;simp at hln
   omega
  have hx:Lib.idxOf (((q++if true then[42]else[]:List Int)).take n) 42=(Q:Int):=Lib.idxOf_hit _ n Q 42 (by omega) (by omega) (by
   rw[List.getD_eq_getElem?_getD,List.getElem?_append_right (by omega),hQ,Nat.sub_self];rfl) fun j hj=>by
   rw[z1b (by omega)];exact h42 _ (List.getElem_mem _)
  have HI:=Lib.hid (Tryz.slices_Index_int b off n cp _ 42 w (by omega) (by omega) (hcell _ rfl));rw[hx]at HI;have HC:=Lib.hid (Tryz.slices_Contains_int b (off+Q) 1 (cp-Q) [42] 63 w (by simp) (by omega) (fun j hj=>by
   obtain rfl:j=0:=by simp at hj;omega
   have:=hcell _ rfl Q (by omega);rw[List.getD_eq_getElem?_getD,List.getElem?_append_right (by omega),hQ,Nat.sub_self]at this;exact this))
  have hct:(([42]:List Int).take 1).contains 63=false:=rfl;rw[hct]at HC;have HRF:=Lib.hid (ztb b off n cp Q (by omega) hcp);have hrun:=fun W=>HRF.out W
  rw[show n-Q=1 by omega]at hrun;have hQ0:¬((Q:Int)<0):=by omega
  clear hc hcell hx hs h42 HRF hct hln hnQ hQ;go_enter Tryz.func45,Tryz.ntmps45
  go_wp2_with fail;refine HI.out.mono ?_;rintro e w1 ⟨rfl,rfl⟩;go_wp2_with fail;refine HC.out.mono ?_;rintro e w1 ⟨rfl,rfl⟩;go_wp2_with fail;go_ret;exact⟨rfl,rfl⟩
def WldP(w:World)(q:List Int)(star:Bool):Ending→World→Prop:=fun e w'=>Below w.heap.size w w'∧∃(A:Option Addr) (c:Nat) (hs:List Sh),e=.returned (.tuple #[.slice A hs.length c,.int .i64 0])∧StsIn w' w'.heap.size A hs.length c hs∧zFb q star (hs.map (·.d))
theorem zB9(w:World)(t:List UInt8)(ht:t.length≤17592186044414)(hT:Tab w)(l:List Int)(hl:Dec (zaf t) l)(he:zkg (l.map zc6) [42,63]=0)(q:List Int)(star:Bool)(hf:l.map zc6=(q++if star then[42]else[]))(h42:∀c∈q,c≠42)(K:Nat)(hK:∀k c,k≠K→q[k]? =some c→c≠63):
  Calls Tryz.prog 22 #[.string ⟨t.toArray⟩] w (WldP w q star):=by
 have HD:=Lib.hid (zy4 w t [42,63] ht (by simp));have HT:=Lib.hid hT;have HDE:=Lib.hid hl;have HE:=Lib.hid he;have HF:=Lib.hid hf;have H42:=Lib.hid h42;have HK:=Lib.hid hK;clear hT ht hl he hf h42 hK;go_enter Tryz.func22,Tryz.ntmps22
 go_wp2_with fail;refine HD.out.mono ?_;rintro e w1 ⟨hb1,⟨v,l2,rfl,hd,hl,ho⟩|⟨l2,z,rfl,hz,hd,hl⟩|⟨rfl,hno⟩⟩
 ·obtain rfl:=hd.inj HDE.out;obtain⟨z1,z2,z3⟩:=z8j hl;have hfl:(l2.map zc6).length=l2.length:=List.length_map ..;obtain⟨n,hn⟩:∃n,l2.length=n:=⟨_,rfl⟩;have hq17:q.length≤17:=by
   have:=congrArg List.length HF.out;rw[List.length_append]at this;omega
  rw[HF.out,hn]at ho;rw[hfl,hn]at z1 z2;obtain⟨A,cp,rfl,hcp⟩:=za1 ho;have HSL:=Lib.hid (Sl.of_own ho);have HB1:=Lib.hid hb1;have HQ17:=Lib.hid hq17;clear hd hl ho z3 hfl hn hb1 hq17;go_wp2_with fail;refine(zBa w1 A n cp q star HSL.out hcp H42.out HQ17.out z2).mono ?_;rintro e w2 ⟨rfl,rfl⟩;go_wp2_with fail;refine(zD4 w2 w2.heap.size (Nat.le_refl _) A n cp q star HSL.out H42.out HQ17.out K HK.out (HT.out.below HB1.out)).mono ?_;rintro e w3 ⟨A3,c3,hs3,rfl,hst,hmq,hb3⟩;have HPOST:Hid (WldP w q star (.returned (.tuple #[.slice A3 hs3.length c3,.int .i64 0])) w3):=⟨za9 HB1.out hb3,A3,c3,hs3,rfl,hst,hmq⟩;clear HSL hst hmq hb3;go_wp2_with fail;go_ret2;exact HPOST.out
 ·obtain rfl:=hd.inj HDE.out;exact absurd (hl.symm.trans HE.out) hz
 ·exact absurd HDE.out (hno l)
end
section
open Go.RowKit Go.Maps
open F (Ent Nd Nh Fine DictAt entsC entC Ents rightE fits64 buildDs baseOf allE)
open Sp
theorem zu3{q l:List Int}{D:List St}{t:List UInt8}(h:zFb q false D)(hd:Dec (zaf t) l):zee D t=true↔l.length=q.length∧fitQ (q.map zcf) l:=by
 rw[h.2.2 t,z35 (zie q)];have e:(∃u v,zaf t=u++v∧Sg (zdf q) u∧(false=true∨v=[]))↔Sg (rowsOf (q.map zcf)) (encs l):=by
  rw[←hd.2];constructor
  ·rintro⟨u,v,h1,h2,h3|rfl⟩
   ·cases h3
   ·rw[h1,List.append_nil];exact h2
  ·intro h2
   exact⟨_,[],(List.append_nil _).symm,h2,.inr rfl⟩
 rw[e,zFg (q.map zcf) hd.1,List.length_map]
def catL:List Ent:=[([99,97,116],5),([100,111,103],7),([104,97,116],3)]
theorem zJ7:Dec (zaf [99,97,116]) [99,97,116]:=⟨by decide,by decide⟩
theorem zJ6:Dec (zaf [100,111,103]) [100,111,103]:=⟨by decide,by decide⟩
theorem zJ5:Dec (zaf [104,97,116]) [104,97,116]:=⟨by decide,by decide⟩
theorem zKg:Dec (zaf [63,97,116]) [63,97,116]:=⟨by decide,by decide⟩
theorem zDe:([63,97,116]:List Int).map zc6=[63,97,116]++if false then[42]else[]:=by decide
theorem zIa:zkg (([63,97,116]:List Int).map zc6) [42,63]=0:=by decide
theorem zF1{D:List St}(h:zFb [63,97,116] false D):zff catL D=[([99,97,116],5),([104,97,116],3)]:=by
 have h1:zee D [99,97,116]=true:=(zu3 h zJ7).2 ⟨rfl,by simp[fitQ,zcf]⟩;have h2:zee D [100,111,103]=false:=by
  cases hb:zee D [100,111,103]
  ·rfl
  ·have:=((zu3 h zJ6).1 hb).2;simp[fitQ,zcf]at this
 have h3:zee D [104,97,116]=true:=(zu3 h zJ5).2 ⟨rfl,by simp[fitQ,zcf]⟩;unfold zff catL;simp[h1,h2,h3]
theorem z2d:zfg catL=true:=by decide
theorem z2e:∀e∈catL,fits64 e.2:=by
 intro e he
 simp[catL]at he
 rcases he with rfl|rfl|rfl<;>constructor<;>decide
theorem zEf:(catL.filter fun e=> !decide (e.1<[100]))=[([100,111,103],7),([104,97,116],3)]:=by decide
end
section
open Go.RowKit Go.Maps
open F (Ent entsC entC Ents)
theorem zIj(w:World)(s t:ByteArray)(x y:Int):(binOp .eql 29 (.agg #[.string s,.int .i64 x]) (.agg #[.string t,.int .i64 y])).run Tryz.prog w=.ok (.bool (s.toList==t.toList&&x==y)) w:=by
 rw[run_eql_struct,run_equalIn_agg _ _ _ _ _ (by kernel_rfl) (by kernel_rfl)];simp[go_sem,Program.fieldsOf,Tryz.underlying29]
 by_cases h1:s.toList=t.toList<;>by_cases h2:x=y<;>simp[h1,h2]
theorem zyc(w:World)(e e':Ent):(binOp .eql 29 (.agg #[.string ⟨e.1.toArray⟩,.int .i64 e.2]) (.agg #[.string ⟨e'.1.toArray⟩,.int .i64 e'.2])).run Tryz.prog w=.ok (.bool (decide (e=e'))) w:=by
 rw[zIj,F.str_same];congr 2
 obtain⟨a,x⟩:=e;obtain⟨b,y⟩:=e';by_cases h1:a=b<;>by_cases h2:x=y<;>simp[h1,h2]
theorem zDk(w:World)(l:List Ent)(cs:Array Value)(hcs:cs.toList=entsC l)(hl:l.length≤1000)(nb:Nat)(hnb:nb=w.heap.size)(m:Nat)(hm:l.length=m):Ents (w.alloc (.cells cs 29)) (w.alloc (.cells cs 29)).heap.size (some ⟨nb,0,none⟩) m m l:=by
 subst hm;have h1:=zg1 w cs 29 2 l.length (by rw[←Array.length_toList,hcs,F.entsC_len]) (by unfold maxLen;omega) hnb (Nat.zero_le _);rw[hcs]at h1;exact⟨Sl.of_own h1,Nat.le_refl _,by omega⟩
end
section
open Go.RowKit Go.Maps
open F (Ent Nd Nh Fine DictAt entsC entC Ents rightE fits64 buildDs baseOf allE)
theorem zrb{l:List Ent}(h:zfg l=true)(hfit:∀e∈l,fits64 e.2){hs:List Nh}(hm:hs.map (·.d)=buildDs l):Fine (hs.map (·.d))∧(∀x∈hs,x.d.ways.length≤65536)∧allE (hs.map (·.d)) (baseOf l)=l∧hs.length≤4194305:=by
 unfold zfg at h;simp only[Bool.and_eq_true,decide_eq_true_eq]at h;have hB:=F.built_of h.2 hfit;rw[hm];refine⟨hB.inv.fine,fun x hx=>?_,F.all_built hB hfit,?_⟩
 ·have h1:x.d∈buildDs l:=by rw[←hm];exact List.mem_map_of_mem hx
  obtain⟨i,hi,hix⟩:=List.getElem_of_mem h1;have hg:(buildDs l)[i]? =some x.d:=by rw[List.getElem?_eq_getElem hi,hix]
  have hc:=(hB.inv.can i _ hg).asc;have hf:=(hB.inv.fine i _ hg).2;have:=F.asc_few x.d.ways 0 hc (fun y hy=>(hf y hy).1) (by omega);omega
 ·have:=hB.len;rw[←hm,List.length_map]at this;exact this
theorem z2c{W:World}{b e s n g c j:Nat}{u:Value}{xs:List Value}(h:W.ownsRow b e s (.slice (some ⟨g,0,none⟩) n c) n xs)(hu:xs[j]? =some u):W.cell? ⟨g,j,none⟩=some u:=by
 have:=h.cells (g:=g) rfl j u hu;rwa[Addr.add_lit,Nat.zero_add]at this
theorem zd3(w:World)(hT:Tab w):Calls Tryz.prog 8 #[] w fun e w'=>e=.returned (.bool true)∧Below w.heap.size w w':=by
 have HT:=Lib.hid hT;clear hT;have HEN:=Lib.hid (zDk w catL #[.string ⟨#[99,97,116]⟩,.int .i64 5,.string ⟨#[100,111,103]⟩,.int .i64 7,.string ⟨#[104,97,116]⟩,.int .i64 3] rfl (by simp[catL]) w.heap.size rfl 3 rfl);have HB1:=Lib.hid (bnew (za0 w) (.cells #[.string ⟨#[99,97,116]⟩,.int .i64 5,.string ⟨#[100,111,103]⟩,.int .i64 7,.string ⟨#[104,97,116]⟩,.int .i64 3] 29));go_enter Tryz.func8,Tryz.ntmps8
 go_wp2_with fail;refine(zf7 _ _ (Nat.le_refl _) _ 3 3 catL HEN.out z2e (by simp[catL]) (HT.out.below HB1.out)).mono ?_;rintro e w2 ⟨hb2,⟨hno,_⟩|⟨_,p,B,dn,k,A3,hs,rfl,hd,hm⟩⟩
 ·rw[z2d]at hno;cases hno
 obtain⟨hf,hwl,hall,hle⟩:=zrb z2d z2e hm;have hlen:=hd.len;have HB2:=Lib.hid (za9 HB1.out hb2);have HD2:=Lib.hid hd;have HFA:=Lib.hid (And.intro hf (And.intro hwl hall));have hdn:dn≤4194305:=by omega
 have hq1:=fun w=>zyc w ([100,111,103],7) ([100,111,103],7)
 have hq2:=fun w=>zyc w ([104,97,116],3) ([104,97,116],3)
 simp only[decide_true]at hq1 hq2;have HQ1:=Lib.hid hq1;have HQ2:=Lib.hid hq2;have hgu:=F.gu_ent;have HCE:=Lib.hid (z60 w2 p B dn k A3 (baseOf catL) (catL.length:Int) hs hd hf hwl [100] (by simp) (by omega) [([100,111,103],7),([104,97,116],3)] (by rw[hall];exact zEf.symm) (by simp));have hlE:zu6 (([([100,111,103],7),([104,97,116],3)]:List Ent).head?.toList)=([100,111,103],7):=rfl;rw[hlE]at HCE;clear hb2 hd hm hf hwl hall hle hlen hq1 hq2 hlE;go_wp2_with fail;refine HCE.out.mono ?_;rintro e w3 ⟨rfl,hb3⟩;have hb4:=za9 hb3 (bnew (za0 w3) (.cells #[.string ⟨#[100,111,103]⟩,.int .i64 7] 29));have HX4:=Lib.hid (heap_alloc_new w3 (.cells #[.string ⟨#[100,111,103]⟩,.int .i64 7] 29));have HB4:=Lib.hid (za9 HB2.out hb4);have HD4:=Lib.hid (HD2.out.keep hb4);have HW:=Lib.hid (zB9 (w3.alloc (.cells #[.string ⟨#[100,111,103]⟩,.int .i64 7] 29)) [63,97,116] (by simp) (HT.out.below HB4.out) [63,97,116] zKg zIa [63,97,116] false zDe (by decide) 0 (fun k c hk h=>by
  have hl:=(List.getElem?_eq_some_iff.1 h).1;simp at hl
  obtain rfl|rfl:k=1∨k=2:=by omega
  ·injection h with h;subst h;decide
  ·injection h with h;subst h;decide))
 clear hb3 hb4 HCE HB2 HD2;go_wp2_with fail;obtain⟨xb,hxb⟩:∃k,w3.heap.size=k:=⟨_,rfl⟩;generalize w3.alloc (.cells #[.string ⟨#[100,111,103]⟩,.int .i64 7] 29)=w4 at*;rw[hxb]at HX4⊢;clear hxb w3;refine HW.out.mono ?_;rintro e w5 ⟨hb5,A5,c5,hs5,rfl,hst5,hmq⟩;have HX5:Hid (w5.heap[xb]? =some (.cells #[.string ⟨#[100,111,103]⟩,.int .i64 7] 29 (0,0))):=(hb5.block _ (Array.getElem?_eq_some_iff.1 HX4.out).1).trans HX4.out;have HM:=Lib.hid (zi8 w5 p B dn k A3 (baseOf catL) (catL.length:Int) hs (HD4.out.keep hb5) HFA.out.1 HFA.out.2.1 (by omega) w5.heap.size (Nat.le_refl _) A5 hs5.length c5 hs5 hst5 9 (by omega) (by rw[HFA.out.2.2];simp[catL]));rw[HFA.out.2.2,zF1 hmq]at HM;have HB5:=Lib.hid (za9 HB4.out hb5);obtain⟨n5,hn5⟩:∃k,hs5.length=k:=⟨_,rfl⟩;rw[hn5]at HM⊢;clear hb5 hst5 hmq HW HX4 HB4 HD4 hn5;go_wp2_with fail;refine HM.out.mono ?_;rintro e w6 ⟨v6,rfl,hrow,hb6⟩;have hrow2:w6.ownsRow w5.heap.size 29 2 v6 2 [.string ⟨#[99,97,116]⟩,.int .i64 5,.string ⟨#[104,97,116]⟩,.int .i64 3]:=hrow;obtain⟨A6,c6,rfl,hc6⟩:=za1 hrow2;obtain⟨g,rfl,_,hg⟩:=zah hrow2 (by omega);have k2:=z2c hrow2 (show([.string ⟨#[99,97,116]⟩,.int .i64 5,.string ⟨#[104,97,116]⟩,.int .i64 3]:List Value)[2]? =some (.string ⟨#[104,97,116]⟩) from rfl);have k3:=z2c hrow2 (show([.string ⟨#[99,97,116]⟩,.int .i64 5,.string ⟨#[104,97,116]⟩,.int .i64 3]:List Value)[3]? =some (.int .i64 3) from rfl);have hx6:=(hb6.block _ (Array.getElem?_eq_some_iff.1 HX5.out).1).trans HX5.out;have x0:=cell_of_row w6 _ 0 _ _ (0,0) hx6;have x1:=cell_of_row w6 _ 1 _ _ (0,0) hx6;simp at x0 x1
 have HB6:=Lib.hid (za9 HB5.out hb6);have hq1:=HQ1.out;have hq2:=HQ2.out;clear hb6 hrow hrow2 HM hx6 HX5;go_wp2_with fail;go_ret;exact⟨rfl,HB6.out⟩
end
section
open Go.RowKit Go.Maps
open F (Ent entsC entC Ents)
theorem zya{l:List Ent}{p:Ent→Bool}{i:Nat}{e:Ent}(h:l[i]? =some e):(l.take (i+1)).filter p=(l.take i).filter p++if p e then[e]else[]:=by
 rw[List.take_add_one,h,List.filter_append];cases hp:p e<;>simp[hp]
end
section
open Go.RowKit Go.ChangeShapes Go.WideShapes Go.Deep
structure BulkLaw{H:Type}(bulk:DataW H→Nat):Prop where
 len:∀es sp:List (DataW H),es.length≤bulk (.slice es sp)
 elem:∀(es sp:List (DataW H)) d,d∈es→bulk d≤bulk (.slice es sp)
 part:∀(ps:List (DataW H)) d,d∈ps→bulk d≤bulk (.agg ps)
 str:∀s:List UInt8,s.length≤bulk (.lit (.string s))
def Few(M:Nat):(t:Ty)→t.den→Prop
 | .slice e _,d=>d.1.n≤M∧∀i,i<d.1.n→Few M e (d.2 i)
 | .cons f r,d=>Few M f d.1∧Few M r d.2
 | .str,d=>(show ByteArray from d).size≤M
 |_,_=>True
section
variable {H:Type}{enc:TypeId×Value→H}{P:Program}{w:World}{base:Nat}{spare:Nat→Bool}{held:Bool}
theorem zma{bulk:DataW H→Nat}(bk:BulkLaw bulk){M:Nat}{k n:Nat}(ih:∀(t:TypeId) (τ:Ty),tyOf P k t=some τ→∀(fuel:Nat) (cs:List Value) (x:DataW H×List MemPlace),DataW.trod enc P w base spare held fuel t cs=some x→zz5 P t x.1→bulk x.1≤M→∃d:τ.den,Reads w w.heap.size τ d cs∧Few M τ d)(cs:List Value):
  ∀(fs:List Field) (o:Nat) (τ:Ty),zia P (tyOf P k) fs o=some τ→cs.length=o+τ.size→
   (∀f∈fs,∃y:DataW H×List MemPlace,DataW.trod enc P w base spare held n f.type ((cs.drop f.offset).take (P.cellsOf f.type))=some y∧zz5 P f.type y.1∧bulk y.1≤M)→∃d:τ.den,Reads w w.heap.size τ d (cs.drop o)∧Few M τ d
 |
  [],o,τ,h,hl,_=>by
  rw[zia]at h;injection h with h
  subst h;exact⟨(),List.drop_eq_nil_of_le (by rw[hl];exact Nat.le_refl _),trivial⟩
 |
  f::fs,o,τ,h,hl,hf=>by
  rw[zia]at h;split at h
  ·rename_i ho
   split at h
   ·rename_i τ0 h0
    split at h
    ·rename_i hc
     cases hr:zia P (tyOf P k) fs (o+τ0.size)with
     |none=>rw[hr]at h;cases h
     |
      some τ1=>
      rw[hr]at h;injection h with h
      subst h;have hl':cs.length=o+τ0.size+τ1.size:=by rw[hl];show o+(τ0.size+τ1.size)=_;omega
      obtain⟨y,hy,hs,hbk⟩:=hf f (List.mem_cons_self ..);obtain⟨d0,r0,f0⟩:=ih f.type τ0 h0 n _ y hy hs hbk;obtain⟨d1,r1,f1⟩:=zma bk ih cs fs (o+τ0.size) τ1 hr hl' (fun g hg=>hf g (List.mem_cons_of_mem _ hg));rw[hc,ho]at r0;refine⟨(d0,d1),⟨(cs.drop o).take τ0.size,cs.drop (o+τ0.size),?_,?_,r0,r1⟩,f0,f1⟩
      ·rw[←List.drop_drop,List.take_append_drop]
      ·rw[List.length_take,List.length_drop];omega
    ·cases h
   ·cases h
  ·cases h
theorem z03{bulk:DataW H→Nat}(bk:BulkLaw bulk){M:Nat}:∀(k:Nat) (t:TypeId) (τ:Ty),tyOf P k t=some τ→∀(fuel:Nat) (cs:List Value) (x:DataW H×List MemPlace),DataW.trod enc P w base spare held fuel t cs=some x→zz5 P t x.1→bulk x.1≤M→∃d:τ.den,Reads w w.heap.size τ d cs∧Few M τ d
 |0,t,τ,h,_,_,_,_,_,_=>by rw[tyOf]at h;cases h
 |
  k+1,t,τ,h,fuel,cs,x,hx,hs,hM=>by
  have ih:=z03 bk (M:=M) k;rw[tyOf]at h;split at h
  ·rename_i kk hu
   injection h with h
   subst h;obtain⟨z,e,_,wz⟩:=DataW.trod_int hu hx;exact⟨z,⟨z,rfl,e,wz⟩,trivial⟩
  ·rename_i hu
   injection h with h
   subst h;obtain⟨b,e,_⟩:=DataW.trod_bool hu hx;exact⟨b,⟨b,rfl,e⟩,trivial⟩
  ·rename_i hu
   injection h with h
   subst h;obtain⟨s,e,ex,hm⟩:=DataW.trod_string hu hx;subst ex;refine⟨s,⟨s,rfl,e,hm,?_⟩,?_⟩
   ·have:=hs s.data.toList.length (by simp[DataW.weights]);simpa using this
   ·have:=bk.str s.data.toList;have h2:s.data.toList.length=s.size:=rfl;show s.size≤M;exact Nat.le_trans (by rw[←h2];exact this) hM
  ·rename_i e hu
   split at h
   ·rename_i τ0 h0
    split at h
    ·rename_i hc
     obtain⟨hc,hp⟩:=hc;injection h with h
     subst h;rcases open_slice hu hx with⟨hcs,_⟩|⟨a,len,cap,mm,nn,D,Pl,hcs,_,hlc,hcm,hmm,ex,hi⟩
     ·obtain⟨x0⟩:=Ty.inh τ0;exact⟨(⟨none,0,0⟩,fun _=>x0),⟨hcs,⟨Nat.le_refl _,Nat.zero_le _,by rw[Nat.zero_mul];exact Nat.zero_le _,fun _=>rfl⟩,fun h=>absurd h (Nat.lt_irrefl _)⟩,Nat.zero_le _,fun i h=>absurd h (Nat.not_lt_zero _)⟩
     ·have hle:len≤mm:=by rw[hmm];split<;>omega
      subst ex;have hsl:zz5 P t (DataW.slice ((List.range len).map D) ((List.range (mm-len)).map fun j=>D (len+j))):=hs;have hbytes:len*P.bytesOf e≤reachBytes:=by
       have:=hsl ((((List.range len).map D).length+((List.range (mm-len)).map fun j=>D (len+j)).length)*P.bytesOf e) (by simp[DataW.weights,hu]);refine Nat.le_trans (Nat.mul_le_mul_right _ ?_) this;simp
      have row:∀i,i<len→∃d:τ0.den,∃cl:List Value,cl.length=τ0.size∧(∀j u,cl[j]? =some u→w.cell? ((a.add (i*τ0.size)).add j)=some u)∧Reads w w.heap.size τ0 d cl∧Few M τ0 d:=by
       intro i hin
       obtain⟨cs',hcs',htr⟩:=hi i (by omega);rw[hc]at hcs';obtain⟨_,hcl,hat⟩:=World.cells?_some hcs';obtain⟨d,hd,hfw⟩:=ih e τ0 h0 nn cs' _ htr (fun n hn=>hsl n (by
        rw[DataW.weights,hu];simp only[List.mem_cons,List.mem_append];exact .inr (.inl (zh9 (List.mem_map.2 ⟨i,List.mem_range.2 hin,rfl⟩) n hn)))) (Nat.le_trans (bk.elem _ _ _ (List.mem_map.2 ⟨i,List.mem_range.2 hin,rfl⟩)) hM)
       refine⟨d,cs',hd.len,fun j u hu=>?_,hd,hfw⟩;have hj:j<τ0.size:=by have:=(List.getElem?_eq_some_iff.1 hu).1;have:=hd.len;omega
       rw[hat j hj,hu]
      haveI:Inhabited τ0.den:=⟨Classical.choice (Ty.inh τ0)⟩
      obtain⟨g,hg⟩:=z52 row;refine⟨(⟨some a,len,cap⟩,g),⟨hcs,⟨hlc,hcm,hbytes,fun e=>by cases e⟩,fun hn=>?_⟩,by
       have h1:=bk.len ((List.range len).map D) ((List.range (mm-len)).map fun j=>D (len+j));rw[List.length_map,List.length_range]at h1;exact Nat.le_trans h1 hM,fun i hin=>by
       obtain⟨cl,_,_,_,h5⟩:=hg i hin;exact h5⟩
      have hn':0<len:=hn;obtain⟨cl,hl,hcell,_⟩:=hg 0 hn';have h00:=hcell 0 (cl[0]'(by omega)) (List.getElem?_eq_getElem _);obtain⟨hb,hsp⟩:=lt_of_cell h00;simp only[Nat.zero_mul,Addr.add,if_true]at hb hsp;obtain⟨ab,ao,asp⟩:=a;simp only at hb hsp;subst hsp;refine⟨ab,ao,rfl,hb,fun i hin=>?_⟩;obtain⟨cl,hl,hcell,hr,_⟩:=hg i hin;refine⟨cl,hl,fun j u hu=>?_,hr⟩;have:=hcell j u hu;rw[Addr.add_lit,Addr.add_lit,Nat.add_assoc]at this;exact this
    ·cases h
   ·cases h
  ·rename_i fs hu
   split at h
   ·rename_i τ0 h0
    split at h
    ·rename_i hc
     injection h with h
     subst h;obtain⟨xs,n,_,ex,hl,hxl,hf⟩:=DataW.trod_struct hu hx;subst ex;have hS:zz5 P t (DataW.agg (xs.map (·.1))):=hs;have hMb:bulk (DataW.agg (xs.map (·.1)))≤M:=hM;have:=zma bk (n:=n) ih cs fs.toList 0 τ0 h0 (by rw[hl,hc,Nat.zero_add]) (fun f hm=>by
      obtain⟨i,hi⟩:=List.mem_iff_getElem?.1 hm;have hi':fs[i]? =some f:=by simpa using hi
      have hlt:i<xs.length:=by rw[hxl];exact(Array.getElem?_eq_some_iff.1 hi').1
      refine⟨xs[i],by rw[hf i f hi',List.getElem?_eq_getElem hlt],fun m hm'=>hS m ?_,Nat.le_trans (bk.part _ _ (List.mem_map.2 ⟨xs[i],List.getElem_mem hlt,rfl⟩)) hMb⟩;rw[DataW.weights,hu];exact DataW.weights_mem_each (j:=i) (t:=f.type) (d:=xs[i].1) (by simp[hi]) (by simp[hlt]) m hm')
     rwa[List.drop_zero]at this
    ·cases h
   ·cases h
  ·cases h
theorem zlh{bulk:DataW H→Nat}(bk:BulkLaw bulk){M:Nat}{k bytes:Nat}{t:TypeId}{e:Ty}{A:Option Addr}{n c:Nat}{d:DataW H}{p:List MemPlace}(hT:tyOf P k t=some (.slice e bytes))(h:DataW.Trod enc P w base spare held t (.slice A n c) d p)(hs:zz5 P t d)(hM:bulk d≤M):
  ∃x:Nat→e.den,Reads w w.heap.size (.slice e bytes) (⟨A,n,c⟩,x) [.slice A n c]∧n≤M∧∀i,i<n→Few M e (x i):=by
 obtain⟨m,hm⟩:=h;obtain⟨⟨⟨A',n',c'⟩,x⟩,hr,hf⟩:=z03 bk k t _ hT m _ _ hm hs hM;have e:[Value.slice A n c]=[.slice A' n' c']:=hr.1;simp only[List.cons.injEq,Value.slice.injEq,and_true]at e;obtain⟨rfl,rfl,rfl⟩:=e;exact⟨x,hr,hf.1,hf.2⟩
end
end
section
theorem zEg{H:Type}(d:DataW H):1≤Rows.uptoBulk d:=by
 cases d with
 |lit l=>cases l<;>simp[Rows.uptoBulk]
 |nil=>simp[Rows.uptoBulk]
 |ptr d=>simp[Rows.uptoBulk]
 |slice elems spare=>simp[Rows.uptoBulk]
 |agg parts=>simp[Rows.uptoBulk]
 |iface t d=>simp[Rows.uptoBulk]
 |map entries=>simp[Rows.uptoBulk]
 |held h=>simp[Rows.uptoBulk]
theorem zue{H:Type}{d:DataW H}{l:List (DataW H)}(h:d∈l):Rows.uptoBulk d≤Rows.uptoBulkAll l:=by
 induction l with
 |nil=>cases h
 |
  cons x r ih=>
  simp only[Rows.uptoBulkAll];rcases List.mem_cons.1 h with e|e
  ·subst e;omega
  ·have:=ih e;omega
theorem zEh{H:Type}(l:List (DataW H)):l.length≤Rows.uptoBulkAll l:=by
 induction l with
 |nil=>simp[Rows.uptoBulkAll]
 |cons x r ih=>have:=zEg x;simp only[Rows.uptoBulkAll,List.length_cons];omega
theorem zuf(H:Type):BulkLaw (H:=H) Rows.uptoBulk where
 len:=fun es sp=>by
  have:=zEh es;simp only[Rows.uptoBulk];omega
 elem:=fun es sp d hd=>by
  have:=zue hd;simp only[Rows.uptoBulk];omega
 part:=fun ps d hd=>by
  have:=zue hd;simp only[Rows.uptoBulk];omega
 str:=fun s=>by simp[Rows.uptoBulk]
theorem zq0{H:Type}{l:List (DataW H)}(hk:Rows.uptoSmall H l=true){d:DataW H}(hd:d∈l):Rows.uptoBulk d≤1048576:=by
 have h1:Rows.uptoBulkAll l≤1048576:=of_decide_eq_true hk;exact Nat.le_trans (zue hd) h1
end
section
open Go.RowKit Go.Maps
open F (Ent Nd Nh Fine DictAt entsC entC Ents EntsIn rightE fits64 buildDs baseOf allE)
theorem zCf{l:List Ent}(h:zfg l=true):l.length≤120:=by
 unfold zfg at h;simp only[Bool.and_eq_true,decide_eq_true_eq]at h;exact h.1.1
end
end Go.Proofs.YtaociahafamncaaGreatDoor
