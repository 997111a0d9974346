/- Folded. -/
import Derived.Test.YtaociahafamncaaGreatDoorHW38
import Derived.Lib.Slices
set_option maxRecDepth 100000
set_option maxHeartbeats 40000000
set_option linter.unusedVariables false
namespace Go.Proofs.YtaociahafamncaaGreatDoor
section
open Go.RowKit
open Sp
def NoC(r:List UInt8)(k:Nat):Prop:=∀m c,m<k→wholeB c=true→bytesN (r.take m)≠encN c
theorem NoC.one(r:List UInt8):NoC r 1:=fun m c hm _ e=>by
 obtain rfl:m=0:=by omega
 exact encN_ne e.symm
theorem NoC.step{r:List UInt8}{k:Nat}(h:NoC r k)(h2:∀c,wholeB c=true→bytesN (r.take k)≠encN c):NoC r (k+1):=fun m c hm hw=>by
 by_cases e:m=k
 ·subst e;exact h2 c hw
 ·exact h m c (by omega) hw
theorem NoC.none{r:List UInt8}{k:Nat}(h:NoC r k)(hk:k=5∨r.length<k)(c:Int):¬Fst1 (bytesN r) c:=by
 rintro⟨hw,s,hs⟩;have h1:=(encC_len c).2;have h2:(encN c).length=(encC c).length:=List.length_map ..;have h3:=congrArg List.length hs;have h4:(bytesN r).length=r.length:=List.length_map ..;rw[List.length_append]at h3;refine h (encN c).length c (by omega) hw ?_;have h5:bytesN (r.take (encN c).length)=(bytesN r).take (encN c).length:=by unfold bytesN;rw[List.map_take]
 rw[h5,hs,List.take_left]
end
section
open Go.RowKit
open Sp
def FoldP(w:World)(t:List UInt8):Ending→World→Prop:=fun e w'=>Below w.heap.size w w'∧((∃v l,e=.returned (.tuple #[v,.int .i64 0])∧Dec (bytesN t) l∧w'.ownsRow w.heap.size 3 1 v l.length ((l.map foldI).map (.int .i64)))∨(e=.returned (.tuple #[.slice none 0 0,.int .i64 7])∧∀l,¬Dec (bytesN t) l))
theorem fold_set{l:List Int}{j:Nat}{c:Int}(h:l[j]? =some c):((((l.take j).map foldI++l.drop j).map (Value.int .i64)).set j (.int .i64 (foldI c)))=((l.take (j+1)).map foldI++l.drop (j+1)).map (Value.int .i64):=by
 obtain⟨hj,rfl⟩:=List.getElem?_eq_some_iff.1 h;have hlen:(((l.take j).map foldI).map (Value.int .i64)).length=j:=by
  rw[List.length_map,List.length_map,List.length_take];omega
 rw[List.map_append,List.set_append_right _ _ (by omega),hlen,Nat.sub_self,List.drop_eq_getElem_cons hj,List.map_cons,List.set_cons_zero,List.take_succ_eq_append_getElem hj];simp only[List.map_append,List.map_cons,List.map_nil,List.append_assoc,List.cons_append,List.nil_append]
theorem fold_at{l:List Int}{j:Nat}{c:Int}(h:l[j]? =some c):(((l.take j).map foldI++l.drop j).map (Value.int .i64))[j]? =some (.int .i64 c):=by
 obtain⟨hj,rfl⟩:=List.getElem?_eq_some_iff.1 h;have hlen:((l.take j).map foldI).length=j:=by
  rw[List.length_map,List.length_take];omega
 rw[List.getElem?_map,List.getElem?_append_right (by omega),hlen,Nat.sub_self,List.drop_eq_getElem_cons hj];rfl
theorem folded_any(w:World)(t:List UInt8)(ht:t.length≤17592186044414):Calls Tryz.prog 61 #[.string ⟨t.toArray⟩] w (FoldP w t):=by
 have HD:=Lib.hid (decode_any w t ht);go_enter Tryz.func61,Tryz.ntmps61
 go_wp2_with fail;refine HD.out.mono ?_;rintro e w1 ⟨hb1,⟨v,l,rfl,hd1,ho1⟩|⟨rfl,hno⟩⟩
 ·have HB1:=Lib.hid hb1;have HDE:=Lib.hid hd1;obtain⟨A,cp,rfl,hcp⟩:=own_shape ho1;have HO1:=Lib.hid ho1;obtain⟨n,hn⟩:∃n,l.length=n:=⟨_,rfl⟩;rw[hn]at HO1 hcp;have HLN:=Lib.hid hn;have hnm:n≤17592186044414:=by
   have h1:=hd1.len;have h2:(bytesN t).length=t.length:=List.length_map ..;omega
  clear hb1 hd1 ho1 hn HD;simp only[HLN.out];go_wp2_with fail;go_loopw [18] (fun iv wr=>∃j:Nat,j≤n∧iv=.int .i64 (j:Int)∧Hid (Below w.heap.size w wr)∧Hid (wr.ownsRow w.heap.size 3 1 (.slice A n cp) n (((l.take j).map foldI++l.drop j).map (.int .i64)))) (fun iv _=>n-(intOf iv).toNat)
  case atStart=>exact⟨0,Nat.zero_le _,rfl,HB1,Lib.hid (by simpa using HO1.out)⟩
  case round=>
   obtain⟨j,hj,rfl,HB,HO⟩:=hrel;clear HB1 HO1;by_cases hjn:j<n
   ·obtain⟨c,hc⟩:∃c,l[j]? =some c:=⟨l[j]'(by rw[HLN.out];exact hjn),List.getElem?_eq_getElem _⟩;obtain⟨g,rfl,hg1,hg2⟩:=own_head HO.out (by omega);obtain⟨_,_,cs,hcs⟩:=own_blk HO.out;have r0:=own_cell HO.out (fold_at hc);have f0:=free_at hcs j;have HON:Hid ((wr.setCell ⟨g,j,none⟩ (.int .i64 (foldI c))).ownsRow w.heap.size 3 1 (.slice (some ⟨g,0,none⟩) n cp) n (((l.take (j+1)).map foldI++l.drop (j+1)).map (.int .i64))):=by
     have:=own_put (j:=j) (u:=.int .i64 (foldI c)) HO.out;rwa[fold_set hc]at this
    have HBN:Hid (Below w.heap.size w (wr.setCell ⟨g,j,none⟩ (.int .i64 (foldI c)))):=below_set HB.out hg1 (Nat.le_refl _);have hq:decide (j<n)=true:=decide_eq_true hjn;clear hc hcs HO;go_wp2_with fail;refine(fold_any c _).mono ?_;rintro e w2 ⟨rfl,rfl⟩;go_wp2_with fail;go_roundw;case rel=>exact⟨j+1,by omega,by go_num,HBN,HON⟩
    case measure=>simp[intOf];omega
   ·obtain rfl:j=n:=by omega
    have HE:Hid (wr.ownsRow w.heap.size 3 1 (.slice A l.length cp) l.length ((l.map foldI).map (.int .i64))):=by
     have:=HO.out;rwa[←HLN.out,List.take_length,List.drop_length,List.append_nil]at this
    have HPOST:Hid (FoldP w t (.returned (.tuple #[.slice A j cp,.int .i64 0])) wr):=⟨HB.out,.inl ⟨_,l,by rw[HLN.out],HDE.out,HE.out⟩⟩;go_wp2_with fail;go_ret2;exact HPOST.out
 ·have HPOST:Hid (FoldP w t (.returned (.tuple #[.slice none 0 0,.int .i64 7])) w1):=⟨hb1,.inr ⟨rfl,hno⟩⟩;clear hb1 hno HD;go_wp2_with fail;go_ret2;exact HPOST.out
end
section
open Go.RowKit
open Sp
def okC(m:List UInt8)(c:Int):Bool:=letB c||m.any fun b=>c==(b.toNat:Int)
def letsE(l:List Int)(m:List UInt8):Int:=if 16<l.length then 4 else if l.length=0 then 20 else if l.all (okC m)then 0 else 20
def LetsP(w:World)(t m:List UInt8):Ending→World→Prop:=fun e w'=>Below w.heap.size w w'∧
 (
  (∃v l,e=.returned (.tuple #[v,.int .i64 0])∧Dec (bytesN t) l∧letsE (l.map foldI) m=0∧w'.ownsRow w.heap.size 3 1 v l.length ((l.map foldI).map (.int .i64)))∨
  (∃l z,e=.returned (.tuple #[.slice none 0 0,.int .i64 z])∧z≠0∧Dec (bytesN t) l∧letsE (l.map foldI) m=z)∨
  (e=.returned (.tuple #[.slice none 0 0,.int .i64 7])∧∀l,¬Dec (bytesN t) l))
theorem any_take{m:List UInt8}{c:Int}{j:Nat}{b:UInt8}(h:m[j]? =some b):(m.take (j+1)).any (fun b=>c==(b.toNat:Int))=((m.take j).any (fun b=>c==(b.toNat:Int))||c==(b.toNat:Int)):=by
 obtain⟨hj,rfl⟩:=List.getElem?_eq_some_iff.1 h;rw[List.take_succ_eq_append_getElem hj,List.any_append];simp
theorem mark_at{m:List UInt8}{j:Nat}{b:UInt8}(h:m[j]? =some b)(h2:j<(⟨m.toArray⟩:ByteArray).size):(((⟨m.toArray⟩:ByteArray)[j]'h2).toNat:Int)=(b.toNat:Int):=by
 obtain⟨hj,rfl⟩:=List.getElem?_eq_some_iff.1 h;rfl
theorem all_take{l:List Int}{m:List UInt8}{j:Nat}{c:Int}(h:l[j]? =some c)(ha:(l.take j).all (okC m)=true)(hc:okC m c=true):(l.take (j+1)).all (okC m)=true:=by
 obtain⟨hj,rfl⟩:=List.getElem?_eq_some_iff.1 h;rw[List.take_succ_eq_append_getElem hj,List.all_append,ha];simp[hc]
theorem all_no{l:List Int}{m:List UInt8}{c:Int}(h:c∈l)(hc:okC m c=false):l.all (okC m)=false:=by
 rw[List.all_eq_false];exact⟨c,h,by rw[hc];exact Bool.false_ne_true⟩
theorem letters_any(w:World)(t m:List UInt8)(ht:t.length≤17592186044414)(hm:m.length≤17592186044414):Calls Tryz.prog 44 #[.string ⟨t.toArray⟩,.string ⟨m.toArray⟩] w (LetsP w t m):=by
 have HD:=Lib.hid (folded_any w t ht);have hz:(⟨m.toArray⟩:ByteArray).size=m.length:=by show m.toArray.size=_;simp
 have HBY:=Lib.hid (fun j b h=> @mark_at m j b h);obtain⟨M,hM⟩:∃M,m.length=M:=⟨_,rfl⟩;rw[hM]at hz hm;have HML:=Lib.hid hM;clear hM ht;go_enter Tryz.func44,Tryz.ntmps44
 go_wp2_with fail;refine HD.out.mono ?_;rintro e w1 ⟨hb1,⟨v,l,rfl,hd1,ho1⟩|⟨rfl,hno⟩⟩
 ·have HB1:=Lib.hid hb1;have HDE:=Lib.hid hd1;obtain⟨A,cp,rfl,hcp⟩:=own_shape ho1;obtain⟨f,hf⟩:∃f,l.map foldI=f:=⟨_,rfl⟩;have hfl:f.length=l.length:=by rw[←hf,List.length_map]
  obtain⟨n,hn⟩:∃n,l.length=n:=⟨_,rfl⟩;have HPB:Hid (∀z:Int,z≠0→letsE f m=z→∀W,Below w1.heap.size w1 W→LetsP w t m (.returned (.tuple #[.slice none 0 0,.int .i64 z])) W):=fun z hz h W hW=>⟨bcall hb1 hW,.inr (.inl ⟨l,z,rfl,hz,hd1,by rw[hf];exact h⟩)⟩
  have HPO:Hid (letsE f m=0→∀W,Below w1.heap.size w1 W→LetsP w t m (.returned (.tuple #[.slice A n cp,.int .i64 0])) W):=fun h W hW=>⟨bcall hb1 hW,.inl ⟨.slice A n cp,l,rfl,hd1,by rw[hf];exact h,by have:=own_kept ho1 hW;rwa[hn]at this⊢⟩⟩
  rw[hf,hn]at ho1;rw[hn]at hfl hcp⊢;have HO1:=Lib.hid (Sl.of_own ho1);have HFL:=Lib.hid hfl;clear hb1 hd1 ho1 hn HD hf hfl HDE;by_cases c1:16<n
  ·have HX:=Lib.hid (HPB.out 4 (by omega) (by unfold letsE;rw[if_pos (by rw[HFL.out];exact c1)]) w1 (brefl w1));have q1:decide (16<n)=true:=decide_eq_true c1;have q2:decide ((n:Int)>16)=true:=decide_eq_true (by omega);go_wp2_with fail;go_ret2;exact HX.out
  have q1:decide (16<n)=false:=decide_eq_false c1;have q2:decide ((n:Int)>16)=false:=decide_eq_false (by omega);by_cases c2:n=0
  ·have HX:=Lib.hid (HPB.out 20 (by omega) (by unfold letsE;rw[HFL.out,if_neg c1,if_pos c2]) w1 (brefl w1));subst c2;go_wp2_with fail;go_ret2;exact HX.out
  have q3:((n:Int)==0)=false:=by rw[beq_eq_false_iff_ne];omega
  have q4:(n==0)=false:=by rw[beq_eq_false_iff_ne];exact c2
  have HNB:Hid (f.all (okC m)=false→letsE f m=20):=fun h=>by unfold letsE;rw[HFL.out,if_neg c1,if_neg c2,h];rfl
  have HNG:Hid (f.all (okC m)=true→letsE f m=0):=fun h=>by unfold letsE;rw[HFL.out,if_neg c1,if_neg c2,h];rfl
  have hn16:n≤16:=by omega
  clear c1;go_wp2_with fail;go_loopw [28] (fun iv wr=>∃j:Nat,j≤n∧iv=.int .i64 (j:Int)∧Hid (Below w1.heap.size w1 wr)∧Hid ((f.take j).all (okC m)=true)) (fun iv _=>n-(intOf iv).toNat)
  case atStart=>exact⟨0,Nat.zero_le _,rfl,brefl w1,rfl⟩
  case round=>
   obtain⟨j,hj,rfl,HB,HA⟩:=hrel;by_cases hjn:j<n
   ·obtain⟨c,hc⟩:∃c,f[j]? =some c:=⟨f[j]'(by rw[HFL.out];exact hjn),List.getElem?_eq_getElem _⟩;obtain⟨b0,off,hA,hb0,hcl⟩:=(HO1.out.below HB.out).at_ hjn;have r0:=hcl j (.int .i64 c) (by rw[List.getElem?_map,hc];rfl);rw[hA];have hbw:b0<wr.heap.size:=Nat.lt_of_lt_of_le hb0 HB.out.size;have hq:decide (j<n)=true:=decide_eq_true hjn;have HC:=Lib.hid hc;clear hcl hc;go_wp2_with fail;refine(letter_any c _).mono ?_;rintro e w2 ⟨rfl,rfl⟩;go_wp2_with fail;go_loopw [10,36] (fun okv iv w3=>∃k:Nat,k≤M∧iv=.int .i64 (k:Int)∧okv=.bool (letB c||(m.take k).any fun b=>c==(b.toNat:Int))∧w3=wr) (fun _ iv _=>M-(intOf iv).toNat)
    case atStart=>exact⟨0,Nat.zero_le _,rfl,by simp,rfl⟩
    case round=>
     obtain⟨k,hk,rfl,rfl,rfl⟩:=hrel;obtain⟨ob,hob⟩:∃ob,(letB c||(m.take k).any fun b=>c==(b.toNat:Int))=ob:=⟨_,rfl⟩;have HOB:=Lib.hid hob;simp only[hob];clear hob;by_cases hkm:k<M
     ·obtain⟨b,hb⟩:∃b,m[k]? =some b:=⟨m[k]'(by rw[HML.out];exact hkm),List.getElem?_eq_getElem _⟩;have hy:=HBY.out k b hb;obtain⟨z,hzb⟩:∃z:Int,(b.toNat:Int)=z:=⟨_,rfl⟩;rw[hzb]at hy;have hz0:0≤z:=by omega
      have hz1:z≤255:=by have:=b.toNat_lt;omega
      obtain⟨x,hx⟩:∃x,(c==z)=x:=⟨_,rfl⟩;have HON:Hid ((letB c||(m.take (k+1)).any fun b=>c==(b.toNat:Int))=(ob||x)):=by
       show _=_;rw[any_take hb,←Bool.or_assoc,HOB.out,hzb,hx]
      have hq2:decide (k<M)=true:=decide_eq_true hkm;clear hb hzb HOB;cases ob
      ·go_wp2_with fail;go_roundw;case rel=>exact⟨k+1,by omega,by go_num,by rw[HON.out];simp,trivial⟩
       case measure=>simp[intOf];omega
      ·clear hx;go_wp2_with fail;go_roundw;case rel=>exact⟨k+1,by omega,by go_num,by rw[HON.out];simp,trivial⟩
       case measure=>simp[intOf];omega
     ·obtain rfl:k=M:=by omega
      have HOK:Hid (okC m c=ob):=by
       have:=HOB.out;rw[←HML.out,List.take_length]at this;exact this
      have hq2:decide (k<k)=false:=decide_eq_false hkm;clear HOB;cases ob
      ·have HX:=Lib.hid (HPB.out 20 (by omega) (HNB.out (all_no (List.mem_of_getElem? HC.out) HOK.out)) wr HB.out);go_wp2_with fail;go_ret2;exact HX.out
      ·have HAN:=Lib.hid (all_take HC.out HA.out HOK.out);go_wp2_with fail;go_roundw;case rel=>exact⟨j+1,by omega,by go_num,HB,HAN⟩
       case measure=>simp[intOf];omega
   ·obtain rfl:j=n:=by omega
    have HX:=Lib.hid (HPO.out (HNG.out (by have:=HA.out;rwa[←HFL.out,List.take_length]at this)) wr HB.out);have hq:decide (j<j)=false:=decide_eq_false hjn;go_wp2_with fail;go_ret2;exact HX.out
 ·have HPOST:Hid (LetsP w t m (.returned (.tuple #[.slice none 0 0,.int .i64 7])) w1):=⟨hb1,.inr (.inr ⟨rfl,hno⟩)⟩;clear hb1 hno HD;go_wp2_with fail;go_ret2;exact HPOST.out
end
section
open Go.RowKit
open Sp
theorem lets_zero{f:List Int}{m:List UInt8}(h:letsE f m=0):f.length≤16∧0<f.length∧f.all (okC m)=true:=by
 unfold letsE at h;split at h
 ·omega
 ·split at h
  ·omega
  ·split at h
   ·exact⟨by omega,by omega,by assumption⟩
   ·omega
theorem run_from(b off n cp i:Nat)(h:i<n)(hc:n≤cp)(w:World):(Instr.slice 71 (.slice (some ⟨b,off,none⟩) n cp) (some (.int .i64 (i:Nat))) none none).run Tryz.prog w=.ok (.slice (some ⟨b,off+i,none⟩) (n-i) (cp-i)) w:=by
 have i1:((i:Nat):Int)≤(n:Int):=by omega
 have i2:¬(cp=i):=by omega
 have i4:(0:Int)≤(i:Nat):=by omega
 simp[Instr.slice,run_underlying Tryz.underlying71,Instr.sliceBounds,run_sliceBound,i1,i2,i4,Addr.add_lit]
theorem getD_app{a b:List Int}{j:Nat}(h:j<a.length):(a++b).getD j 0=a[j]:=by
 rw[List.getD_eq_getElem?_getD,List.getElem?_append_left h,List.getElem?_eq_getElem h];rfl
theorem wide_any(w:World)(A:Option Addr)(n cp:Nat)(q:List Int)(star:Bool)(hs:Sl w w.heap.size 1 A n ((q++if star then[42]else[]).map (.int .i64)))(hcp:n≤cp)(h42:∀c∈q,c≠42)(hq:q.length≤17)(hn:0<n):
  Calls Tryz.prog 45 #[.slice A n cp] w fun e w'=>e=.returned (.bool false)∧w'=w:=by
 have hln:(q++if star then[42]else[]:List Int).length=n:=by have:=hs.1;simpa using this
 have hn18:n≤18:=by
  have:=hln;cases star<;>simp at this<;>omega
 obtain⟨b,off,rfl,hb,hc⟩:=hs.at_ hn;have hcell:∀(zs:List Int),zs=(q++if star then[42]else[]:List Int)→∀j,j<zs.length→w.cell? ⟨b,off+j,none⟩=some (.int .i64 (zs.getD j 0)):=by
  rintro zs rfl j hj;refine hc j _ ?_;rw[List.getElem?_map,List.getElem?_eq_getElem hj];show some _=some _;rw[List.getD_eq_getElem?_getD,List.getElem?_eq_getElem hj];rfl
 cases star
 ·have hx:Lib.idxOf (((q++if false then[42]else[]:List Int)).take n) 42= -1:=Lib.idxOf_miss _ n 42 fun j hj=>by
   have hj2:j<q.length:=by simp at hln;omega
   rw[getD_app hj2];exact h42 _ (List.getElem_mem _)
  have HI:=Lib.hid (Tryz.slices_Index_int b off n cp _ 42 w (by omega) (by omega) (hcell _ rfl));rw[hx]at HI;clear hc hcell hx hs hln h42;go_enter Tryz.func45,Tryz.ntmps45
  go_wp2_with fail;refine HI.out.mono ?_;rintro e w1 ⟨rfl,rfl⟩;go_wp2_with fail;go_ret;exact⟨rfl,rfl⟩
 ·obtain⟨Q,hQ⟩:∃Q,q.length=Q:=⟨_,rfl⟩;have hnQ:n=Q+1:=by
   rw[List.length_append,hQ]at hln;simp at hln
   omega
  have hx:Lib.idxOf (((q++if true then[42]else[]:List Int)).take n) 42=(Q:Int):=Lib.idxOf_hit _ n Q 42 (by omega) (by omega) (by
   rw[List.getD_eq_getElem?_getD,List.getElem?_append_right (by omega),hQ,Nat.sub_self];rfl) fun j hj=>by
   rw[getD_app (by omega)];exact h42 _ (List.getElem_mem _)
  have HI:=Lib.hid (Tryz.slices_Index_int b off n cp _ 42 w (by omega) (by omega) (hcell _ rfl));rw[hx]at HI;have HC:=Lib.hid (Tryz.slices_Contains_int b (off+Q) 1 (cp-Q) [42] 63 w (by simp) (by omega) (fun j hj=>by
   obtain rfl:j=0:=by simp at hj;omega
   have:=hcell _ rfl Q (by omega);rw[List.getD_eq_getElem?_getD,List.getElem?_append_right (by omega),hQ,Nat.sub_self]at this;exact this))
  have hct:(([42]:List Int).take 1).contains 63=false:=rfl;rw[hct]at HC;have HRF:=Lib.hid (run_from b off n cp Q (by omega) hcp);have hrun:=fun W=>HRF.out W
  rw[show n-Q=1 by omega]at hrun;have hQ0:¬((Q:Int)<0):=by omega
  clear hc hcell hx hs h42 HRF hct hln hnQ hQ;go_enter Tryz.func45,Tryz.ntmps45
  go_wp2_with fail;refine HI.out.mono ?_;rintro e w1 ⟨rfl,rfl⟩;go_wp2_with fail;refine HC.out.mono ?_;rintro e w1 ⟨rfl,rfl⟩;go_wp2_with fail;go_ret;exact⟨rfl,rfl⟩
def WldP(w:World)(q:List Int)(star:Bool):Ending→World→Prop:=fun e w'=>Below w.heap.size w w'∧∃(A:Option Addr) (c:Nat) (hs:List Sh),e=.returned (.tuple #[.slice A hs.length c,.int .i64 0])∧StsIn w' w'.heap.size A hs.length c hs∧MadeQ q star (hs.map (·.d))
theorem wild_any(w:World)(t:List UInt8)(ht:t.length≤17592186044414)(hT:Tab w)(l:List Int)(hl:Dec (bytesN t) l)(he:letsE (l.map foldI) [42,63]=0)(q:List Int)(star:Bool)(hf:l.map foldI=(q++if star then[42]else[]))(h42:∀c∈q,c≠42)(K:Nat)(hK:∀k c,k≠K→q[k]? =some c→c≠63):
  Calls Tryz.prog 22 #[.string ⟨t.toArray⟩] w (WldP w q star):=by
 have HD:=Lib.hid (letters_any w t [42,63] ht (by simp));have HT:=Lib.hid hT;have HDE:=Lib.hid hl;have HE:=Lib.hid he;have HF:=Lib.hid hf;have H42:=Lib.hid h42;have HK:=Lib.hid hK;clear hT ht hl he hf h42 hK;go_enter Tryz.func22,Tryz.ntmps22
 go_wp2_with fail;refine HD.out.mono ?_;rintro e w1 ⟨hb1,⟨v,l2,rfl,hd,hl,ho⟩|⟨l2,z,rfl,hz,hd,hl⟩|⟨rfl,hno⟩⟩
 ·obtain rfl:=hd.inj HDE.out;obtain⟨z1,z2,z3⟩:=lets_zero hl;have hfl:(l2.map foldI).length=l2.length:=List.length_map ..;obtain⟨n,hn⟩:∃n,l2.length=n:=⟨_,rfl⟩;have hq17:q.length≤17:=by
   have:=congrArg List.length HF.out;rw[List.length_append]at this;omega
  rw[HF.out,hn]at ho;rw[hfl,hn]at z1 z2;obtain⟨A,cp,rfl,hcp⟩:=own_shape ho;have HSL:=Lib.hid (Sl.of_own ho);have HB1:=Lib.hid hb1;have HQ17:=Lib.hid hq17;clear hd hl ho z3 hfl hn hb1 hq17;go_wp2_with fail;refine(wide_any w1 A n cp q star HSL.out hcp H42.out HQ17.out z2).mono ?_;rintro e w2 ⟨rfl,rfl⟩;go_wp2_with fail;refine(made_any w2 w2.heap.size (Nat.le_refl _) A n cp q star HSL.out H42.out HQ17.out K HK.out (HT.out.below HB1.out)).mono ?_;rintro e w3 ⟨A3,c3,hs3,rfl,hst,hmq,hb3⟩;have HPOST:Hid (WldP w q star (.returned (.tuple #[.slice A3 hs3.length c3,.int .i64 0])) w3):=⟨bcall HB1.out hb3,A3,c3,hs3,rfl,hst,hmq⟩;clear HSL hst hmq hb3;go_wp2_with fail;go_ret2;exact HPOST.out
 ·obtain rfl:=hd.inj HDE.out;exact absurd (hl.symm.trans HE.out) hz
 ·exact absurd HDE.out (hno l)
end
section
open Go.RowKit Go.Maps
open F (Ent Nd Nh Fine DictAt entsC entC Ents rightE fits64 buildDs baseOf allE)
open Sp
theorem made_all{q l:List Int}{D:List St}{t:List UInt8}(h:MadeQ q false D)(hd:Dec (bytesN t) l):takesB D t=true↔l.length=q.length∧fitQ (q.map rangeOf) l:=by
 rw[h.2.2 t,wild_takes (rowsC_ok q)];have e:(∃u v,bytesN t=u++v∧Sg (rowsC q) u∧(false=true∨v=[]))↔Sg (rowsOf (q.map rangeOf)) (encs l):=by
  rw[←hd.2];constructor
  ·rintro⟨u,v,h1,h2,h3|rfl⟩
   ·cases h3
   ·rw[h1,List.append_nil];exact h2
  ·intro h2
   exact⟨_,[],(List.append_nil _).symm,h2,.inr rfl⟩
 rw[e,sg_all (q.map rangeOf) hd.1,List.length_map]
def catL:List Ent:=[([99,97,116],5),([100,111,103],7),([104,97,116],3)]
theorem dec_cat:Dec (bytesN [99,97,116]) [99,97,116]:=⟨by decide,by decide⟩
theorem dec_dog:Dec (bytesN [100,111,103]) [100,111,103]:=⟨by decide,by decide⟩
theorem dec_hat:Dec (bytesN [104,97,116]) [104,97,116]:=⟨by decide,by decide⟩
theorem dec_at:Dec (bytesN [63,97,116]) [63,97,116]:=⟨by decide,by decide⟩
theorem fold_cat:([63,97,116]:List Int).map foldI=[63,97,116]++if false then[42]else[]:=by decide
theorem lets_at:letsE (([63,97,116]:List Int).map foldI) [42,63]=0:=by decide
theorem at_takes{D:List St}(h:MadeQ [63,97,116] false D):takeE catL D=[([99,97,116],5),([104,97,116],3)]:=by
 have h1:takesB D [99,97,116]=true:=(made_all h dec_cat).2 ⟨rfl,by simp[fitQ,rangeOf]⟩;have h2:takesB D [100,111,103]=false:=by
  cases hb:takesB D [100,111,103]
  ·rfl
  ·have:=((made_all h dec_dog).1 hb).2;simp[fitQ,rangeOf]at this
 have h3:takesB D [104,97,116]=true:=(made_all h dec_hat).2 ⟨rfl,by simp[fitQ,rangeOf]⟩;unfold takeE catL;simp[h1,h2,h3]
theorem cat_open:openB catL=true:=by decide
theorem cat_fits:∀e∈catL,fits64 e.2:=by
 intro e he
 simp[catL]at he
 rcases he with rfl|rfl|rfl<;>constructor<;>decide
theorem cat_ceil:(catL.filter fun e=> !decide (e.1<[100]))=[([100,111,103],7),([104,97,116],3)]:=by decide
end
section
open Go.RowKit Go.Maps
open F (Ent entsC entC Ents)
theorem eql_ent(w:World)(s t:ByteArray)(x y:Int):(binOp .eql 29 (.agg #[.string s,.int .i64 x]) (.agg #[.string t,.int .i64 y])).run Tryz.prog w=.ok (.bool (s.toList==t.toList&&x==y)) w:=by
 rw[run_eql_struct,run_equalIn_agg _ _ _ _ _ (by kernel_rfl) (by kernel_rfl)];simp[go_sem,Program.fieldsOf,Tryz.underlying29]
 by_cases h1:s.toList=t.toList<;>by_cases h2:x=y<;>simp[h1,h2]
theorem eql_two(w:World)(e e':Ent):(binOp .eql 29 (.agg #[.string ⟨e.1.toArray⟩,.int .i64 e.2]) (.agg #[.string ⟨e'.1.toArray⟩,.int .i64 e'.2])).run Tryz.prog w=.ok (.bool (decide (e=e'))) w:=by
 rw[eql_ent,F.str_same];congr 2
 obtain⟨a,x⟩:=e;obtain⟨b,y⟩:=e';by_cases h1:a=b<;>by_cases h2:x=y<;>simp[h1,h2]
theorem ents_lit(w:World)(l:List Ent)(cs:Array Value)(hcs:cs.toList=entsC l)(hl:l.length≤1000)(nb:Nat)(hnb:nb=w.heap.size)(m:Nat)(hm:l.length=m):Ents (w.alloc (.cells cs 29)) (w.alloc (.cells cs 29)).heap.size (some ⟨nb,0,none⟩) m m l:=by
 subst hm;have h1:=own_new w cs 29 2 l.length (by rw[←Array.length_toList,hcs,F.entsC_len]) (by unfold maxLen;omega) hnb (Nat.zero_le _);rw[hcs]at h1;exact⟨Sl.of_own h1,Nat.le_refl _,by omega⟩
end
section
open Go.RowKit Go.Maps
open F (Ent Nd Nh Fine DictAt entsC entC Ents rightE fits64 buildDs baseOf allE)
theorem open_facts{l:List Ent}(h:openB l=true)(hfit:∀e∈l,fits64 e.2){hs:List Nh}(hm:hs.map (·.d)=buildDs l):Fine (hs.map (·.d))∧(∀x∈hs,x.d.ways.length≤65536)∧allE (hs.map (·.d)) (baseOf l)=l∧hs.length≤4194305:=by
 unfold openB at h;simp only[Bool.and_eq_true,decide_eq_true_eq]at h;have hB:=F.built_of h.2 hfit;rw[hm];refine⟨hB.inv.fine,fun x hx=>?_,F.all_built hB hfit,?_⟩
 ·have h1:x.d∈buildDs l:=by rw[←hm];exact List.mem_map_of_mem hx
  obtain⟨i,hi,hix⟩:=List.getElem_of_mem h1;have hg:(buildDs l)[i]? =some x.d:=by rw[List.getElem?_eq_getElem hi,hix]
  have hc:=(hB.inv.can i _ hg).asc;have hf:=(hB.inv.fine i _ hg).2;have:=F.asc_few x.d.ways 0 hc (fun y hy=>(hf y hy).1) (by omega);omega
 ·have:=hB.len;rw[←hm,List.length_map]at this;exact this
theorem cell_own{W:World}{b e s n g c j:Nat}{u:Value}{xs:List Value}(h:W.ownsRow b e s (.slice (some ⟨g,0,none⟩) n c) n xs)(hu:xs[j]? =some u):W.cell? ⟨g,j,none⟩=some u:=by
 have:=h.cells (g:=g) rfl j u hu;rwa[Addr.add_lit,Nat.zero_add]at this
theorem awake13_any(w:World)(hT:Tab w):Calls Tryz.prog 8 #[] w fun e w'=>e=.returned (.bool true)∧Below w.heap.size w w':=by
 have HT:=Lib.hid hT;clear hT;have HEN:=Lib.hid (ents_lit w catL #[.string ⟨#[99,97,116]⟩,.int .i64 5,.string ⟨#[100,111,103]⟩,.int .i64 7,.string ⟨#[104,97,116]⟩,.int .i64 3] rfl (by simp[catL]) w.heap.size rfl 3 rfl);have HB1:=Lib.hid (bnew (brefl w) (.cells #[.string ⟨#[99,97,116]⟩,.int .i64 5,.string ⟨#[100,111,103]⟩,.int .i64 7,.string ⟨#[104,97,116]⟩,.int .i64 3] 29));go_enter Tryz.func8,Tryz.ntmps8
 go_wp2_with fail;refine(open13_any _ _ (Nat.le_refl _) _ 3 3 catL HEN.out cat_fits (by simp[catL]) (HT.out.below HB1.out)).mono ?_;rintro e w2 ⟨hb2,⟨hno,_⟩|⟨_,p,B,dn,k,A3,hs,rfl,hd,hm⟩⟩
 ·rw[cat_open]at hno;cases hno
 obtain⟨hf,hwl,hall,hle⟩:=open_facts cat_open cat_fits hm;have hlen:=hd.len;have HB2:=Lib.hid (bcall HB1.out hb2);have HD2:=Lib.hid hd;have HFA:=Lib.hid (And.intro hf (And.intro hwl hall));have hdn:dn≤4194305:=by omega
 have hq1:=fun w=>eql_two w ([100,111,103],7) ([100,111,103],7)
 have hq2:=fun w=>eql_two w ([104,97,116],3) ([104,97,116],3)
 simp only[decide_true]at hq1 hq2;have HQ1:=Lib.hid hq1;have HQ2:=Lib.hid hq2;have hgu:=F.gu_ent;have HCE:=Lib.hid (wceil_any w2 p B dn k A3 (baseOf catL) (catL.length:Int) hs hd hf hwl [100] (by simp) (by omega) [([100,111,103],7),([104,97,116],3)] (by rw[hall];exact cat_ceil.symm) (by simp));have hlE:lastE (([([100,111,103],7),([104,97,116],3)]:List Ent).head?.toList)=([100,111,103],7):=rfl;rw[hlE]at HCE;clear hb2 hd hm hf hwl hall hle hlen hq1 hq2 hlE;go_wp2_with fail;refine HCE.out.mono ?_;rintro e w3 ⟨rfl,hb3⟩;have hb4:=bcall hb3 (bnew (brefl w3) (.cells #[.string ⟨#[100,111,103]⟩,.int .i64 7] 29));have HX4:=Lib.hid (heap_alloc_new w3 (.cells #[.string ⟨#[100,111,103]⟩,.int .i64 7] 29));have HB4:=Lib.hid (bcall HB2.out hb4);have HD4:=Lib.hid (HD2.out.keep hb4);have HW:=Lib.hid (wild_any (w3.alloc (.cells #[.string ⟨#[100,111,103]⟩,.int .i64 7] 29)) [63,97,116] (by simp) (HT.out.below HB4.out) [63,97,116] dec_at lets_at [63,97,116] false fold_cat (by decide) 0 (fun k c hk h=>by
  have hl:=(List.getElem?_eq_some_iff.1 h).1;simp at hl
  obtain rfl|rfl:k=1∨k=2:=by omega
  ·injection h with h;subst h;decide
  ·injection h with h;subst h;decide))
 clear hb3 hb4 HCE HB2 HD2;go_wp2_with fail;obtain⟨xb,hxb⟩:∃k,w3.heap.size=k:=⟨_,rfl⟩;generalize w3.alloc (.cells #[.string ⟨#[100,111,103]⟩,.int .i64 7] 29)=w4 at*;rw[hxb]at HX4⊢;clear hxb w3;refine HW.out.mono ?_;rintro e w5 ⟨hb5,A5,c5,hs5,rfl,hst5,hmq⟩;have HX5:Hid (w5.heap[xb]? =some (.cells #[.string ⟨#[100,111,103]⟩,.int .i64 7] 29 (0,0))):=(hb5.block _ (Array.getElem?_eq_some_iff.1 HX4.out).1).trans HX4.out;have HM:=Lib.hid (wmatch_any w5 p B dn k A3 (baseOf catL) (catL.length:Int) hs (HD4.out.keep hb5) HFA.out.1 HFA.out.2.1 (by omega) w5.heap.size (Nat.le_refl _) A5 hs5.length c5 hs5 hst5 9 (by omega) (by rw[HFA.out.2.2];simp[catL]));rw[HFA.out.2.2,at_takes hmq]at HM;have HB5:=Lib.hid (bcall HB4.out hb5);obtain⟨n5,hn5⟩:∃k,hs5.length=k:=⟨_,rfl⟩;rw[hn5]at HM⊢;clear hb5 hst5 hmq HW HX4 HB4 HD4 hn5;go_wp2_with fail;refine HM.out.mono ?_;rintro e w6 ⟨v6,rfl,hrow,hb6⟩;have hrow2:w6.ownsRow w5.heap.size 29 2 v6 2 [.string ⟨#[99,97,116]⟩,.int .i64 5,.string ⟨#[104,97,116]⟩,.int .i64 3]:=hrow;obtain⟨A6,c6,rfl,hc6⟩:=own_shape hrow2;obtain⟨g,rfl,_,hg⟩:=own_head hrow2 (by omega);have k2:=cell_own hrow2 (show([.string ⟨#[99,97,116]⟩,.int .i64 5,.string ⟨#[104,97,116]⟩,.int .i64 3]:List Value)[2]? =some (.string ⟨#[104,97,116]⟩) from rfl);have k3:=cell_own hrow2 (show([.string ⟨#[99,97,116]⟩,.int .i64 5,.string ⟨#[104,97,116]⟩,.int .i64 3]:List Value)[3]? =some (.int .i64 3) from rfl);have hx6:=(hb6.block _ (Array.getElem?_eq_some_iff.1 HX5.out).1).trans HX5.out;have x0:=cell_of_row w6 _ 0 _ _ (0,0) hx6;have x1:=cell_of_row w6 _ 1 _ _ (0,0) hx6;simp at x0 x1
 have HB6:=Lib.hid (bcall HB5.out hb6);have hq1:=HQ1.out;have hq2:=HQ2.out;clear hb6 hrow hrow2 HM hx6 HX5;go_wp2_with fail;go_ret;exact⟨rfl,HB6.out⟩
end
section
open Go.RowKit
abbrev tArc:Ty:=.cons (.int .i64) (.cons (.int .i64) (.cons (.int .i64) .nil))
abbrev tState:Ty:=.cons .bool (.cons (.slice tArc 24) .nil)
theorem ty_states:tyOf Tryz.prog 8 35=some (.slice tState 32):=by kernel_rfl
def arcOf(d:tArc.den):Arc3:=((show Int from d.1),(show Int from d.2.1),(show Int from d.2.2.1))
def shOf(d:tState.den):Sh:=⟨((show Bool from d.1),(List.range (show SlH from d.2.1.1).n).map fun q=>arcOf (d.2.1.2 q)),(show SlH from d.2.1.1).A,(show SlH from d.2.1.1).c⟩
def shL(n:Nat)(x:Nat→tState.den):List Sh:=(List.range n).map fun i=>shOf (x i)
theorem arcs_cells(m:Nat)(f:Nat→tArc.den):arcsC ((List.range m).map fun q=>arcOf (f q))=(List.range m).flatMap fun q=>Ty.cells tArc (f q):=by
 unfold arcsC;rw[List.flatMap_map];rfl
theorem sts_in{w:World}{A:Option Addr}{n c:Nat}{x:Nat→tState.den}{cs:List Value}(h:Reads w w.heap.size (.slice tState 32) (⟨A,n,c⟩,x) cs):StsIn w w.heap.size A n c (shL n x):=by
 have hs:=h.sl (e:=tState) (fun d=>rfl);have hb:n*32≤reachBytes:=h.2.1.2.2.1;have hlen:∀i,(shOf (x i)).d.2.length=(show SlH from(x i).2.1.1).n:=fun i=>by
  show((List.range _).map _).length=_;rw[List.length_map,List.length_range]
 refine⟨by unfold shL;rw[List.length_map,List.length_range],?_,h.2.1.1,by unfold reachBytes at hb;omega,fun y hy=>?_⟩
 ·have e:(shL n x).flatMap Sh.hdr=(List.range n).flatMap fun i=>Ty.cells tState (x i):=by
   unfold shL;rw[List.flatMap_map];refine congrArg (fun f=>(List.range n).flatMap f) (funext fun i=>?_);unfold Sh.hdr;rw[hlen];rfl
  rw[e];exact hs
 ·obtain⟨i,hi,rfl⟩:=List.mem_map.1 hy;obtain⟨cl,_,c2,_,_,_,c3,c4,_,_,hr,_⟩:=h.elem (List.mem_range.1 hi);have h1:=hr.sl (e:=tArc) (fun d=>rfl);have h2:=hr.2.1;have hb2:(show SlH from(x i).2.1.1).n*24≤reachBytes:=h2.2.2.1;refine⟨?_,by rw[hlen];exact h2.1,by rw[hlen];unfold reachBytes at hb2;omega⟩;rw[hlen];have e:=arcs_cells (show SlH from(x i).2.1.1).n (x i).2.1.2;show Sl _ _ 3 _ _ (arcsC ((List.range _).map _));rw[e];exact h1
end
section
open Go.RowKit Go.ChangeShapes Go.WideShapes Go.Deep
structure BulkLaw{H:Type}(bulk:DataW H→Nat):Prop where
 len:∀es sp:List (DataW H),es.length≤bulk (.slice es sp)
 elem:∀(es sp:List (DataW H)) d,d∈es→bulk d≤bulk (.slice es sp)
 part:∀(ps:List (DataW H)) d,d∈ps→bulk d≤bulk (.agg ps)
 str:∀s:List UInt8,s.length≤bulk (.lit (.string s))
def Few(M:Nat):(t:Ty)→t.den→Prop
 | .slice e _,d=>d.1.n≤M∧∀i,i<d.1.n→Few M e (d.2 i)
 | .cons f r,d=>Few M f d.1∧Few M r d.2
 | .str,d=>(show ByteArray from d).size≤M
 |_,_=>True
section
variable {H:Type}{enc:TypeId×Value→H}{P:Program}{w:World}{base:Nat}{spare:Nat→Bool}{held:Bool}
theorem readb_fields{bulk:DataW H→Nat}(bk:BulkLaw bulk){M:Nat}{k n:Nat}(ih:∀(t:TypeId) (τ:Ty),tyOf P k t=some τ→∀(fuel:Nat) (cs:List Value) (x:DataW H×List MemPlace),DataW.trod enc P w base spare held fuel t cs=some x→Small P t x.1→bulk x.1≤M→∃d:τ.den,Reads w w.heap.size τ d cs∧Few M τ d)(cs:List Value):
  ∀(fs:List Field) (o:Nat) (τ:Ty),tyFields P (tyOf P k) fs o=some τ→cs.length=o+τ.size→
   (∀f∈fs,∃y:DataW H×List MemPlace,DataW.trod enc P w base spare held n f.type ((cs.drop f.offset).take (P.cellsOf f.type))=some y∧Small P f.type y.1∧bulk y.1≤M)→∃d:τ.den,Reads w w.heap.size τ d (cs.drop o)∧Few M τ d
 |
  [],o,τ,h,hl,_=>by
  rw[tyFields]at h;injection h with h
  subst h;exact⟨(),List.drop_eq_nil_of_le (by rw[hl];exact Nat.le_refl _),trivial⟩
 |
  f::fs,o,τ,h,hl,hf=>by
  rw[tyFields]at h;split at h
  ·rename_i ho
   split at h
   ·rename_i τ0 h0
    split at h
    ·rename_i hc
     cases hr:tyFields P (tyOf P k) fs (o+τ0.size)with
     |none=>rw[hr]at h;cases h
     |
      some τ1=>
      rw[hr]at h;injection h with h
      subst h;have hl':cs.length=o+τ0.size+τ1.size:=by rw[hl];show o+(τ0.size+τ1.size)=_;omega
      obtain⟨y,hy,hs,hbk⟩:=hf f (List.mem_cons_self ..);obtain⟨d0,r0,f0⟩:=ih f.type τ0 h0 n _ y hy hs hbk;obtain⟨d1,r1,f1⟩:=readb_fields bk ih cs fs (o+τ0.size) τ1 hr hl' (fun g hg=>hf g (List.mem_cons_of_mem _ hg));rw[hc,ho]at r0;refine⟨(d0,d1),⟨(cs.drop o).take τ0.size,cs.drop (o+τ0.size),?_,?_,r0,r1⟩,f0,f1⟩
      ·rw[←List.drop_drop,List.take_append_drop]
      ·rw[List.length_take,List.length_drop];omega
    ·cases h
   ·cases h
  ·cases h
theorem readb_of{bulk:DataW H→Nat}(bk:BulkLaw bulk){M:Nat}:∀(k:Nat) (t:TypeId) (τ:Ty),tyOf P k t=some τ→∀(fuel:Nat) (cs:List Value) (x:DataW H×List MemPlace),DataW.trod enc P w base spare held fuel t cs=some x→Small P t x.1→bulk x.1≤M→∃d:τ.den,Reads w w.heap.size τ d cs∧Few M τ d
 |0,t,τ,h,_,_,_,_,_,_=>by rw[tyOf]at h;cases h
 |
  k+1,t,τ,h,fuel,cs,x,hx,hs,hM=>by
  have ih:=readb_of bk (M:=M) k;rw[tyOf]at h;split at h
  ·rename_i kk hu
   injection h with h
   subst h;obtain⟨z,e,_,wz⟩:=DataW.trod_int hu hx;exact⟨z,⟨z,rfl,e,wz⟩,trivial⟩
  ·rename_i hu
   injection h with h
   subst h;obtain⟨b,e,_⟩:=DataW.trod_bool hu hx;exact⟨b,⟨b,rfl,e⟩,trivial⟩
  ·rename_i hu
   injection h with h
   subst h;obtain⟨s,e,ex,hm⟩:=DataW.trod_string hu hx;subst ex;refine⟨s,⟨s,rfl,e,hm,?_⟩,?_⟩
   ·have:=hs s.data.toList.length (by simp[DataW.weights]);simpa using this
   ·have:=bk.str s.data.toList;have h2:s.data.toList.length=s.size:=rfl;show s.size≤M;exact Nat.le_trans (by rw[←h2];exact this) hM
  ·rename_i e hu
   split at h
   ·rename_i τ0 h0
    split at h
    ·rename_i hc
     obtain⟨hc,hp⟩:=hc;injection h with h
     subst h;rcases open_slice hu hx with⟨hcs,_⟩|⟨a,len,cap,mm,nn,D,Pl,hcs,_,hlc,hcm,hmm,ex,hi⟩
     ·obtain⟨x0⟩:=Ty.inh τ0;exact⟨(⟨none,0,0⟩,fun _=>x0),⟨hcs,⟨Nat.le_refl _,Nat.zero_le _,by rw[Nat.zero_mul];exact Nat.zero_le _,fun _=>rfl⟩,fun h=>absurd h (Nat.lt_irrefl _)⟩,Nat.zero_le _,fun i h=>absurd h (Nat.not_lt_zero _)⟩
     ·have hle:len≤mm:=by rw[hmm];split<;>omega
      subst ex;have hsl:Small P t (DataW.slice ((List.range len).map D) ((List.range (mm-len)).map fun j=>D (len+j))):=hs;have hbytes:len*P.bytesOf e≤reachBytes:=by
       have:=hsl ((((List.range len).map D).length+((List.range (mm-len)).map fun j=>D (len+j)).length)*P.bytesOf e) (by simp[DataW.weights,hu]);refine Nat.le_trans (Nat.mul_le_mul_right _ ?_) this;simp
      have row:∀i,i<len→∃d:τ0.den,∃cl:List Value,cl.length=τ0.size∧(∀j u,cl[j]? =some u→w.cell? ((a.add (i*τ0.size)).add j)=some u)∧Reads w w.heap.size τ0 d cl∧Few M τ0 d:=by
       intro i hin
       obtain⟨cs',hcs',htr⟩:=hi i (by omega);rw[hc]at hcs';obtain⟨_,hcl,hat⟩:=World.cells?_some hcs';obtain⟨d,hd,hfw⟩:=ih e τ0 h0 nn cs' _ htr (fun n hn=>hsl n (by
        rw[DataW.weights,hu];simp only[List.mem_cons,List.mem_append];exact .inr (.inl (weights_mem_all (List.mem_map.2 ⟨i,List.mem_range.2 hin,rfl⟩) n hn)))) (Nat.le_trans (bk.elem _ _ _ (List.mem_map.2 ⟨i,List.mem_range.2 hin,rfl⟩)) hM)
       refine⟨d,cs',hd.len,fun j u hu=>?_,hd,hfw⟩;have hj:j<τ0.size:=by have:=(List.getElem?_eq_some_iff.1 hu).1;have:=hd.len;omega
       rw[hat j hj,hu]
      haveI:Inhabited τ0.den:=⟨Classical.choice (Ty.inh τ0)⟩
      obtain⟨g,hg⟩:=choose_lt' row;refine⟨(⟨some a,len,cap⟩,g),⟨hcs,⟨hlc,hcm,hbytes,fun e=>by cases e⟩,fun hn=>?_⟩,by
       have h1:=bk.len ((List.range len).map D) ((List.range (mm-len)).map fun j=>D (len+j));rw[List.length_map,List.length_range]at h1;exact Nat.le_trans h1 hM,fun i hin=>by
       obtain⟨cl,_,_,_,h5⟩:=hg i hin;exact h5⟩
      have hn':0<len:=hn;obtain⟨cl,hl,hcell,_⟩:=hg 0 hn';have h00:=hcell 0 (cl[0]'(by omega)) (List.getElem?_eq_getElem _);obtain⟨hb,hsp⟩:=lt_of_cell h00;simp only[Nat.zero_mul,Addr.add,if_true]at hb hsp;obtain⟨ab,ao,asp⟩:=a;simp only at hb hsp;subst hsp;refine⟨ab,ao,rfl,hb,fun i hin=>?_⟩;obtain⟨cl,hl,hcell,hr,_⟩:=hg i hin;refine⟨cl,hl,fun j u hu=>?_,hr⟩;have:=hcell j u hu;rw[Addr.add_lit,Addr.add_lit,Nat.add_assoc]at this;exact this
    ·cases h
   ·cases h
  ·rename_i fs hu
   split at h
   ·rename_i τ0 h0
    split at h
    ·rename_i hc
     injection h with h
     subst h;obtain⟨xs,n,_,ex,hl,hxl,hf⟩:=DataW.trod_struct hu hx;subst ex;have hS:Small P t (DataW.agg (xs.map (·.1))):=hs;have hMb:bulk (DataW.agg (xs.map (·.1)))≤M:=hM;have:=readb_fields bk (n:=n) ih cs fs.toList 0 τ0 h0 (by rw[hl,hc,Nat.zero_add]) (fun f hm=>by
      obtain⟨i,hi⟩:=List.mem_iff_getElem?.1 hm;have hi':fs[i]? =some f:=by simpa using hi
      have hlt:i<xs.length:=by rw[hxl];exact(Array.getElem?_eq_some_iff.1 hi').1
      refine⟨xs[i],by rw[hf i f hi',List.getElem?_eq_getElem hlt],fun m hm'=>hS m ?_,Nat.le_trans (bk.part _ _ (List.mem_map.2 ⟨xs[i],List.getElem_mem hlt,rfl⟩)) hMb⟩;rw[DataW.weights,hu];exact DataW.weights_mem_each (j:=i) (t:=f.type) (d:=xs[i].1) (by simp[hi]) (by simp[hlt]) m hm')
     rwa[List.drop_zero]at this
    ·cases h
   ·cases h
  ·cases h
theorem open_deepb{bulk:DataW H→Nat}(bk:BulkLaw bulk){M:Nat}{k bytes:Nat}{t:TypeId}{e:Ty}{A:Option Addr}{n c:Nat}{d:DataW H}{p:List MemPlace}(hT:tyOf P k t=some (.slice e bytes))(h:DataW.Trod enc P w base spare held t (.slice A n c) d p)(hs:Small P t d)(hM:bulk d≤M):
  ∃x:Nat→e.den,Reads w w.heap.size (.slice e bytes) (⟨A,n,c⟩,x) [.slice A n c]∧n≤M∧∀i,i<n→Few M e (x i):=by
 obtain⟨m,hm⟩:=h;obtain⟨⟨⟨A',n',c'⟩,x⟩,hr,hf⟩:=readb_of bk k t _ hT m _ _ hm hs hM;have e:[Value.slice A n c]=[.slice A' n' c']:=hr.1;simp only[List.cons.injEq,Value.slice.injEq,and_true]at e;obtain⟨rfl,rfl,rfl⟩:=e;exact⟨x,hr,hf.1,hf.2⟩
end
end
section
open Go.RowKit Go.Maps
theorem stsb_in{w:World}{A:Option Addr}{n c:Nat}{x:Nat→tState.den}{cs:List Value}(h:Reads w w.heap.size (.slice tState 32) (⟨A,n,c⟩,x) cs)(_:n≤1048576)(_:∀i,i<n→Few 1048576 tState (x i)):StsIn w w.heap.size A n c (shL n x):=sts_in h
theorem entsb_in{w:World}{A:Option Addr}{n c:Nat}{x:Nat→F.tEnt.den}{cs:List Value}(h:Reads w w.heap.size (.slice F.tEnt 24) (⟨A,n,c⟩,x) cs)(_:n≤1048576)(_:∀i,i<n→Few 1048576 F.tEnt (x i)):F.EntsIn w A n c (F.entL n x):=F.ents_in h
end
end Go.Proofs.YtaociahafamncaaGreatDoor
