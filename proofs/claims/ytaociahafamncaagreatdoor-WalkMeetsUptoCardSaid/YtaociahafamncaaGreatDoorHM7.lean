/- Folded. -/
import Derived.Test.YtaociahafamncaaGreatDoorHM6
import Derived.Deep.RegionHeldLaw
set_option maxRecDepth 100000
set_option maxHeartbeats 40000000
namespace Go.Proofs.YtaociahafamncaaGreatDoor
namespace F
open Go.RowKit
theorem z40(w:World)(t:List UInt8)(hne:t≠[])(hr:240≤zac t 0∧zac t 0≤247)(ht:t.length≤1125899906842624):
  Calls Tryz.prog 73 #[.string ⟨t.toArray⟩] w fun e w'=>e=.returned (.tuple #[.int .i64 (numR t).1,.int .i64 (numR t).2.1,.int .i64 (numR t).2.2])∧Below w.heap.size w w':=by
 have hlen:0<t.length:=List.length_pos_iff.2 hne;have q0:t.isEmpty=false:=by
  cases t with
  |nil=>exact absurd rfl hne
  |cons _ _=>rfl
 have hz0:=zfe t 0 (by show 0<t.toArray.size;simp;omega);obtain⟨k,hk⟩:∃k,zac t 0-239=k:=⟨_,rfl⟩;have hk1:1≤k∧k≤8:=by omega
 have HNR:Hid (numR t=if t.length≤k then(0,0,2)else if 1<k∧zdg false (zac t 1)=0 then(0,0,3)else if accN false t k≤9223372036854775695 then((accN false t k:Int)+112,(k:Int)+1,0)else(0,0,3)):=by
  show _=_;unfold numR;rw[if_neg hne];simp only
  rw[if_neg (by omega),if_neg (by omega)];rw[if_neg (show¬zac t 0<16 by omega),if_neg (show¬zac t 0<16 by omega),show decide (zac t 0<16)=false by simp;omega];rw[hk]
 obtain⟨H,hH⟩:∃H:Int,(zac t 0:Int)=H:=⟨_,rfl⟩;rw[hH]at hz0;have hK:H-239=(k:Int):=by omega
 have hH2:240≤H∧H≤247:=by omega
 clear hH hr hk hne;have hw1:IntKind.i64.wrap H=H:=IntWalk.i64_in _ (by omega);obtain⟨hHa,hHb⟩:=hH2;have p1:decide (H≥16)=true:=by simp;omega
 have p1':decide (H<240)=false:=by simp;omega
 have p2:decide (H<8)=false:=by simp;omega
 have p3:decide (H>247)=false:=by simp;omega
 have p4:decide (H<16)=false:=by simp;omega
 by_cases hs:t.length≤k
 ·have g1:decide ((k:Int)≥(t.length:Int))=true:=by simp;omega
  have g2:decide (t.length≤k)=true:=by simpa using hs
  rw[HNR.out,if_pos hs];go_enter Tryz.func73,Tryz.ntmps73
  go_wp2_with fail;go_ret3;exact⟨rfl,za0 w⟩
 have g1:decide ((k:Int)≥(t.length:Int))=false:=by simp;omega
 have g2:decide (t.length≤k)=false:=by simpa using hs
 have HT:Hid (numR t=if 1<k∧zdg false (zac t 1)=0 then(0,0,3)else if accN false t k≤9223372036854775695 then((accN false t k:Int)+112,(k:Int)+1,0)else(0,0,3)):=by
  show _=_;rw[HNR.out,if_neg hs]
 clear HNR;go_enter Tryz.func73,Tryz.ntmps73
 go_wp2_with fail;clear q0 hz0 hK hw1 p1 p2 p3 p4 g1 g2 hHa hHb;go_loopw [8,9] (fun xv iv wr=>∃i:Nat,i≤k∧iv=.int .i64 ((i:Int)+1)∧xv=.int .u64 (accN false t i:Nat)∧wr=w) (fun _ iv _=>k+1-(intOf iv).toNat)
 case atStart=>exact⟨0,Nat.zero_le _,rfl,rfl,rfl⟩
 case round=>
  obtain⟨i,hi,rfl,rfl,rfl⟩:=hrel;by_cases hlt:i<k
  ·have g1:decide ((i:Int)+1≤(k:Int))=true:=by simp;omega
   have hz:=zfe t (i+1) (by show i+1<t.toArray.size;simp;omega);have hbi:=zfj t (i+1);have hx:=zGf (z:=(zac t (i+1):Int)) (by omega) (by omega);have hacc:=zm9 false t i;have hpow:256^i≤256^7:=Nat.pow_le_pow_right (by omega) (by omega);have hor:bits .or .u64 ((accN false t i:Int)*256) ((zac t (i+1):Int))=((accN false t (i+1):Nat):Int):=by
    have h:=zG0 (a:=accN false t i) (c:=zdg false (zac t (i+1))) (by omega) (zn9 _ hbi);have e:((zdg false (zac t (i+1)):Nat):Int)=(zac t (i+1):Int):=by
     unfold zdg;simp
     try omega
    rw[e]at h;rw[h];rfl
   have i0:(0:Int)≤(i:Int)+1:=by omega
   have i1:(i:Int)+1<(t.length:Int):=by omega
   go_wp2_with fail;go_roundw;case rel=>exact⟨i+1,by omega,by go_num,by first|rfl|rw[hor],by first|rfl|trivial⟩
   case measure=>simp[intOf];omega
  ·obtain rfl:i=k:=by omega
   have g1:decide ((i:Int)+1≤(i:Int))=false:=by simp;omega
   have hz:=zfe t 1 (by show 1<t.toArray.size;simp;omega);have hbi:=zfj t 1;have hx:=zGf (z:=(zac t 1:Int)) (by omega) (by omega);have hacc:=zm9 false t i;have hpow:256^i≤256^8:=Nat.pow_le_pow_right (by omega) (by omega);have HTT:=HT.out;have j0:(1:Int)<(t.length:Int):=by omega
   generalize accN false t i=X at*;by_cases c1:1<i∧zdg false (zac t 1)=0
   ·rw[if_pos c1]at HTT;have k1:decide ((i:Int)>1)=true:=by simp;omega
    have k2:decide (i>1)=true:=by simp;omega
    have k3:((zac t 1:Int))=0:=by
     have:=c1.2;unfold zdg at this;simp at this
     omega
    go_wp2_with fail;all_goals
     go_ret3;exact⟨by first|(rw[HTT];done)|(rw[HTT];rfl),za0 _⟩
   rw[if_neg c1]at HTT;have hcase:(decide ((i:Int)>1)=false)∨(decide ((i:Int)>1)=true∧(((zac t 1:Int))==0)=false):=by
    by_cases hi1:1<i
    ·refine .inr ⟨by simp;omega,?_⟩;have h2:¬zdg false (zac t 1)=0:=fun e=>c1 ⟨hi1,e⟩
     unfold zdg at h2;simp at h2
     simp
     omega
    ·exact .inl (by simp;omega)
   clear c1;by_cases c2:X≤9223372036854775695
   ·rw[if_pos c2]at HTT;have k4:decide ((X:Int)≤9223372036854775695)=true:=by simp;omega
    have k5:decide (X≤9223372036854775695)=true:=by simpa using c2
    have w1:IntKind.i64.wrap (X:Int)=(X:Int):=IntWalk.i64_in _ (by omega);rcases hcase with k1|⟨k1,k3⟩
    all_goals
     go_wp2_with fail;all_goals
      go_ret3;exact⟨by first|(rw[HTT];done)|(rw[HTT];rfl),za0 _⟩
   ·rw[if_neg c2]at HTT;have k4:decide ((X:Int)≤9223372036854775695)=false:=by simp;omega
    have k5:decide (X≤9223372036854775695)=false:=by simpa using c2
    rcases hcase with k1|⟨k1,k3⟩
    all_goals
     go_wp2_with fail;all_goals
      go_ret3;exact⟨by first|(rw[HTT];done)|(rw[HTT];rfl),za0 _⟩
theorem z41(w:World)(t:List UInt8)(hne:t≠[])(hr:8≤zac t 0∧zac t 0<16)(ht:t.length≤1125899906842624):
  Calls Tryz.prog 73 #[.string ⟨t.toArray⟩] w fun e w'=>e=.returned (.tuple #[.int .i64 (numR t).1,.int .i64 (numR t).2.1,.int .i64 (numR t).2.2])∧Below w.heap.size w w':=by
 have hlen:0<t.length:=List.length_pos_iff.2 hne;have q0:t.isEmpty=false:=by
  cases t with
  |nil=>exact absurd rfl hne
  |cons _ _=>rfl
 have hz0:=zfe t 0 (by show 0<t.toArray.size;simp;omega);obtain⟨k,hk⟩:∃k,16-zac t 0=k:=⟨_,rfl⟩;have hk1:1≤k∧k≤8:=by omega
 have HNR:Hid (numR t=if t.length≤k then(0,0,2)else if 1<k∧zdg true (zac t 1)=0 then(0,0,3)else if accN true t k≤9223372036854775695 then(-113-(accN true t k:Int),(k:Int)+1,0)else(0,0,3)):=by
  show _=_;unfold numR;rw[if_neg hne];simp only
  rw[if_neg (by omega),if_neg (by omega)];rw[if_pos (show zac t 0<16 by omega),if_pos (show zac t 0<16 by omega),show decide (zac t 0<16)=true by simpa using hr.2];rw[hk]
 obtain⟨H,hH⟩:∃H:Int,(zac t 0:Int)=H:=⟨_,rfl⟩;rw[hH]at hz0;have hK:16-H=(k:Int):=by omega
 have hH2:8≤H∧H<16:=by omega
 clear hH hr hk hne;have hw1:IntKind.i64.wrap H=H:=IntWalk.i64_in _ (by omega);obtain⟨hHa,hHb⟩:=hH2;have p1:decide (H≥16)=false:=by simp;omega
 have p2:decide (H<8)=false:=by simp;omega
 have p3:decide (H>247)=false:=by simp;omega
 have p4:decide (H<16)=true:=by simp;omega
 by_cases hs:t.length≤k
 ·have g1:decide ((k:Int)≥(t.length:Int))=true:=by simp;omega
  have g2:decide (t.length≤k)=true:=by simpa using hs
  rw[HNR.out,if_pos hs];go_enter Tryz.func73,Tryz.ntmps73
  go_wp2_with fail;go_ret3;exact⟨rfl,za0 w⟩
 have g1:decide ((k:Int)≥(t.length:Int))=false:=by simp;omega
 have g2:decide (t.length≤k)=false:=by simpa using hs
 have HT:Hid (numR t=if 1<k∧zdg true (zac t 1)=0 then(0,0,3)else if accN true t k≤9223372036854775695 then(-113-(accN true t k:Int),(k:Int)+1,0)else(0,0,3)):=by
  show _=_;rw[HNR.out,if_neg hs]
 clear HNR;go_enter Tryz.func73,Tryz.ntmps73
 go_wp2_with fail;clear q0 hz0 hK hw1 p1 p2 p3 p4 g1 g2 hHa hHb;go_loopw [8,9] (fun xv iv wr=>∃i:Nat,i≤k∧iv=.int .i64 ((i:Int)+1)∧xv=.int .u64 (accN true t i:Nat)∧wr=w) (fun _ iv _=>k+1-(intOf iv).toNat)
 case atStart=>exact⟨0,Nat.zero_le _,rfl,rfl,rfl⟩
 case round=>
  obtain⟨i,hi,rfl,rfl,rfl⟩:=hrel;by_cases hlt:i<k
  ·have g1:decide ((i:Int)+1≤(k:Int))=true:=by simp;omega
   have hz:=zfe t (i+1) (by show i+1<t.toArray.size;simp;omega);have hbi:=zfj t (i+1);have hx:=z5f (z:=(zac t (i+1):Int)) (by omega) (by omega);have hacc:=zm9 true t i;have hpow:256^i≤256^7:=Nat.pow_le_pow_right (by omega) (by omega);have hor:bits .or .u64 ((accN true t i:Int)*256) (255-(zac t (i+1):Int))=((accN true t (i+1):Nat):Int):=by
    have h:=zG0 (a:=accN true t i) (c:=zdg true (zac t (i+1))) (by omega) (zn9 _ hbi);have e:((zdg true (zac t (i+1)):Nat):Int)=255-(zac t (i+1):Int):=by
     unfold zdg;simp
     try omega
    rw[e]at h;rw[h];rfl
   have i0:(0:Int)≤(i:Int)+1:=by omega
   have i1:(i:Int)+1<(t.length:Int):=by omega
   go_wp2_with fail;go_roundw;case rel=>exact⟨i+1,by omega,by go_num,by first|rfl|rw[hor],by first|rfl|trivial⟩
   case measure=>simp[intOf];omega
  ·obtain rfl:i=k:=by omega
   have g1:decide ((i:Int)+1≤(i:Int))=false:=by simp;omega
   have hz:=zfe t 1 (by show 1<t.toArray.size;simp;omega);have hbi:=zfj t 1;have hx:=z5f (z:=(zac t 1:Int)) (by omega) (by omega);have hacc:=zm9 true t i;have hpow:256^i≤256^8:=Nat.pow_le_pow_right (by omega) (by omega);have HTT:=HT.out;have j0:(1:Int)<(t.length:Int):=by omega
   generalize accN true t i=X at*;by_cases c1:1<i∧zdg true (zac t 1)=0
   ·rw[if_pos c1]at HTT;have k1:decide ((i:Int)>1)=true:=by simp;omega
    have k2:decide (i>1)=true:=by simp;omega
    have k3:(255-(zac t 1:Int))=0:=by
     have:=c1.2;unfold zdg at this;simp at this
     omega
    go_wp2_with fail;all_goals
     go_ret3;exact⟨by first|(rw[HTT];done)|(rw[HTT];rfl),za0 _⟩
   rw[if_neg c1]at HTT;have hcase:(decide ((i:Int)>1)=false)∨(decide ((i:Int)>1)=true∧((255-(zac t 1:Int))==0)=false):=by
    by_cases hi1:1<i
    ·refine .inr ⟨by simp;omega,?_⟩;have h2:¬zdg true (zac t 1)=0:=fun e=>c1 ⟨hi1,e⟩
     unfold zdg at h2;simp at h2
     simp
     omega
    ·exact .inl (by simp;omega)
   clear c1;by_cases c2:X≤9223372036854775695
   ·rw[if_pos c2]at HTT;have k4:decide ((X:Int)≤9223372036854775695)=true:=by simp;omega
    have k5:decide (X≤9223372036854775695)=true:=by simpa using c2
    have w1:IntKind.i64.wrap (X:Int)=(X:Int):=IntWalk.i64_in _ (by omega);rcases hcase with k1|⟨k1,k3⟩
    all_goals
     go_wp2_with fail;all_goals
      go_ret3;exact⟨by first|(rw[HTT];done)|(rw[HTT];rfl),za0 _⟩
   ·rw[if_neg c2]at HTT;have k4:decide ((X:Int)≤9223372036854775695)=false:=by simp;omega
    have k5:decide (X≤9223372036854775695)=false:=by simpa using c2
    rcases hcase with k1|⟨k1,k3⟩
    all_goals
     go_wp2_with fail;all_goals
      go_ret3;exact⟨by first|(rw[HTT];done)|(rw[HTT];rfl),za0 _⟩
theorem z42(w:World)(t:List UInt8)(ht:t.length≤1125899906842624):
  Calls Tryz.prog 73 #[.string ⟨t.toArray⟩] w fun e w'=>e=.returned (.tuple #[.int .i64 (numR t).1,.int .i64 (numR t).2.1,.int .i64 (numR t).2.2])∧Below w.heap.size w w':=by
 by_cases hne:t=[]
 ·subst hne;have hr:numR []=(0,0,2):=rfl;rw[hr];go_enter Tryz.func73,Tryz.ntmps73
  go_wp2_with fail;go_ret3;exact⟨rfl,za0 w⟩
 have hb:=zfj t 0;by_cases h1:8≤zac t 0∧zac t 0<16
 ·exact z41 w t hne h1 ht
 by_cases h2:240≤zac t 0∧zac t 0≤247
 ·exact z40 w t hne h2 ht
 have hlen:0<t.length:=List.length_pos_iff.2 hne;have q0:t.isEmpty=false:=by
  cases t with
  |nil=>exact absurd rfl hne
  |cons _ _=>rfl
 have hz0:=zfe t 0 (by show 0<t.toArray.size;simp;omega);by_cases h3:16≤zac t 0∧zac t 0<240
 ·have hr:Hid (numR t=((zac t 0:Int)-128,1,0)):=by
   show _=_;unfold numR;rw[if_neg hne];simp only
   rw[if_pos h3]
  obtain⟨H,hH⟩:∃H:Int,(zac t 0:Int)=H:=⟨_,rfl⟩;rw[hH]at hz0 hr;have hH2:16≤H∧H<240:=by omega
  obtain⟨hHa,hHb⟩:=hH2;have hw1:IntKind.i64.wrap H=H:=IntWalk.i64_in _ (by omega);have p1:decide (H≥16)=true:=by simp;omega
  have p2:decide (H<240)=true:=by simp;omega
  clear h1 h2 h3 hH hb hne;go_enter Tryz.func73,Tryz.ntmps73
  go_wp2_with fail;go_ret3;exact⟨by rw[hr.out];rfl,za0 w⟩
 ·have hr:Hid (numR t=(0,0,3)):=by
   show _=_;unfold numR;rw[if_neg hne];simp only
   rw[if_neg h3,if_pos (by omega)]
  have hcase:(zac t 0<8)∨(247<zac t 0):=by omega
  obtain⟨H,hH⟩:∃H:Int,(zac t 0:Int)=H:=⟨_,rfl⟩;rw[hH]at hz0;have hH2:(H<8∧0≤H)∨(247<H∧H<256):=by omega
  clear h1 h2 h3 hH hb hne hcase;rcases hH2 with⟨hHa,hHb⟩|⟨hHa,hHb⟩
  ·have hw1:IntKind.i64.wrap H=H:=IntWalk.i64_in _ (by omega);have p1:decide (H≥16)=false:=by simp;omega
   have p2:decide (H<8)=true:=by simp;omega
   go_enter Tryz.func73,Tryz.ntmps73
   go_wp2_with fail;go_ret3;exact⟨by rw[hr.out];rfl,za0 w⟩
  ·have hw1:IntKind.i64.wrap H=H:=IntWalk.i64_in _ (by omega);have p1:decide (H≥16)=true:=by simp;omega
   have p1':decide (H<240)=false:=by simp;omega
   have p2:decide (H<8)=false:=by simp;omega
   have p3:decide (H>247)=true:=by simp;omega
   go_enter Tryz.func73,Tryz.ntmps73
   go_wp2_with fail;go_ret3;exact⟨by rw[hr.out];rfl,za0 w⟩
end F
namespace F
open Go.RowKit
def zek(W:World)(b:Nat)(t:List UInt8):Prop:=W.heap[b]? =some (.cells #[.string ⟨t.toArray⟩] 125 (0,0))
theorem ztb(t:List UInt8)(k:Nat)(h:k≤t.length)(w:World):(Instr.slice 9 (.string ⟨t.toArray⟩) (some (.int .i64 (k:Nat))) none none).run Tryz.prog w=.ok (.string ⟨(t.drop k).toArray⟩) w:=by
 have hz:(⟨t.toArray⟩:ByteArray).size=t.length:=by show t.toArray.size=_;simp
 have e:(⟨t.toArray⟩:ByteArray).extract k t.length=⟨(t.drop k).toArray⟩:=by
  apply ByteArray.ext
  apply Array.ext'
  simp[ByteArray.data_extract,List.take_of_length_le]
 have hb:((k:Nat):Int)≤((t.length:Nat):Int):=by omega
 have hc:(0:Int)≤(k:Nat):=by omega
 simp[Instr.slice,run_underlying Tryz.underlying9,Instr.sliceBounds,run_sliceBound,hz,hb,e]
theorem zKk(w:World)(t:List UInt8):Calls Tryz.prog 39 #[.string ⟨t.toArray⟩] w fun e w'=>e=.returned (.pointer (some ⟨w.heap.size,0,none⟩))∧zek w' w.heap.size t∧Below w.heap.size w w':=by
 go_enter Tryz.func39,Tryz.ntmps39
 go_wp2_with fail;go_ret;exact⟨rfl,heap_alloc_new w _,bnew (za0 w) _⟩
theorem zC8(w:World)(b:Nat)(t:List UInt8)(h:zek w b t):Calls Tryz.prog 42 #[.pointer (some ⟨b,0,none⟩)] w fun e w'=>e=.returned (.string ⟨t.toArray⟩)∧w'=w:=by
 have c0:=cell_of_row w b 0 _ _ (0,0) h;simp at c0
 clear h;go_enter Tryz.func42,Tryz.ntmps42
 go_wp2_with fail;go_ret;exact⟨rfl,rfl⟩
def zb7(t:List UInt8):Int×Int×List UInt8:=if(numR t).2.2=0 then((numR t).1,0,t.drop (numR t).2.1.toNat)else(0,(numR t).2.2,t)
theorem zG3(t:List UInt8)(h:(numR t).2.2=0):∃k:Nat,(numR t).2.1=(k:Int)∧1≤k∧k≤t.length:=by
 unfold numR at h⊢;by_cases hne:t=[]
 ·rw[if_pos hne]at h;cases h
 have hlen:0<t.length:=List.length_pos_iff.2 hne;rw[if_neg hne]at h⊢;simp only at h⊢;by_cases h1:16≤zac t 0∧zac t 0<240
 ·rw[if_pos h1];exact⟨1,rfl,Nat.le_refl _,hlen⟩
 rw[if_neg h1]at h⊢;by_cases h2:zac t 0<8∨247<zac t 0
 ·rw[if_pos h2]at h;cases h
 rw[if_neg h2]at h⊢;have hK:1≤(if zac t 0<16 then 16-zac t 0 else zac t 0-239):=by split<;>omega
 generalize(if zac t 0<16 then 16-zac t 0 else zac t 0-239)=K at*;by_cases h3:t.length≤K
 ·rw[if_pos h3]at h;cases h
 rw[if_neg h3]at h⊢;generalize decide (zac t 0<16)=fl at*;by_cases h4:1<K∧zdg fl (zac t 1)=0
 ·rw[if_pos h4]at h;cases h
 rw[if_neg h4]at h⊢;by_cases h5:accN fl t K≤9223372036854775695
 ·rw[if_pos h5];by_cases h6:zac t 0<16
  ·rw[if_pos h6];exact⟨K+1,(Int.natCast_add K 1).symm,by omega,by omega⟩
  ·rw[if_neg h6];exact⟨K+1,(Int.natCast_add K 1).symm,by omega,by omega⟩
 ·rw[if_neg h5]at h;cases h
theorem zA2{W:World}{b:Nat}{t u:List UInt8}(h:zek W b t):zek (W.setCell ⟨b,0,none⟩ (.string ⟨u.toArray⟩)) b u:=by
 unfold zek at h⊢;simp[World.setCell,Array.getElem?_modify,h]
theorem zi0{W W':World}{b:Nat}{t:List UInt8}(h:zek W b t)(hb:Below W.heap.size W W'):zek W' b t:=(hb.block b (Array.getElem?_eq_some_iff.1 h).1).trans h
theorem zr6(w:World)(b:Nat)(u:Value):w.grownBy (w.setCell ⟨b,0,none⟩ u) (some b):=
 ⟨rfl,rfl,rfl,by simp[World.setCell],fun k _ hk=>Below.heap_setCell _ _ _ k (fun e=>hk (by rw[e]))⟩
theorem below_grown{w w':World}(h:Below w.heap.size w w')(r:Option Nat):w.grownBy w' r:=⟨h.os,h.tape,h.output,h.size,fun k hk _=>h.block k hk⟩
theorem zI2(w:World)(b:Nat)(t:List UInt8)(h:zek w b t)(ht:t.length≤1125899906842624):Calls Tryz.prog 59 #[.pointer (some ⟨b,0,none⟩)] w fun e w'=>e=.returned (.tuple #[.int .i64 (zb7 t).1,.int .i64 (zb7 t).2.1])∧zek w' b (zb7 t).2.2∧w.grownBy w' (some b):=by
 have c0:=cell_of_row w b 0 _ _ (0,0) h;simp at c0
 have HN:=Lib.hid (z42 w t ht);have H:=Lib.hid h;have hkk:=zG3 t;by_cases he:(numR t).2.2=0
 ·obtain⟨k,hk,k1,k2⟩:=hkk he;have HR:Hid (zb7 t=((numR t).1,0,t.drop k)):=by
   show _=_;unfold zb7;rw[if_pos he,hk];rfl
  rw[HR.out];rw[he,hk]at HN;generalize(numR t).1=n at*;have hcut:=ztb t k k2;clear hkk h he hk HR;go_enter Tryz.func59,Tryz.ntmps59
  go_wp2_with fail;refine HN.out.mono ?_;rintro e w1 ⟨rfl,hb1⟩;have H1:=Lib.hid (zi0 H.out hb1);have c1:=cell_of_row w1 b 0 _ _ (0,0) H1.out;have f1:w1.frozen? ⟨b,0,none⟩=false:=by
   have:=H1.out;unfold zek at this;simp[World.frozen?,this]
  simp at c1
  have HB:=Lib.hid hb1;clear hb1;go_wp2_with fail;go_ret2;exact⟨rfl,zA2 H1.out,(below_grown HB.out (some b)).trans (zr6 _ _ _)⟩
 ·have HR:Hid (zb7 t=(0,(numR t).2.2,t)):=by
   show _=_;unfold zb7;rw[if_neg he]
  rw[HR.out];generalize(numR t).2.2=e at*;generalize(numR t).2.1=k at*;generalize(numR t).1=n at*;have q1:(e !=0)=true:=by simpa using he
  clear hkk h he HR;go_enter Tryz.func59,Tryz.ntmps59
  go_wp2_with fail;refine HN.out.mono ?_;rintro e w1 ⟨rfl,hb1⟩;go_wp2_with fail;go_ret2;exact⟨rfl,zi0 H.out hb1,below_grown hb1 _⟩
def za3(t:List UInt8):Int×Int×List UInt8:=if(zb7 t).2.1=0∧(zb7 t).1<0 then(0,3,t)else zb7 t
theorem count_any(w:World)(b:Nat)(t:List UInt8)(h:zek w b t)(ht:t.length≤1125899906842624):Calls Tryz.prog 40 #[.pointer (some ⟨b,0,none⟩)] w fun e w'=>e=.returned (.tuple #[.int .i64 (za3 t).1,.int .i64 (za3 t).2.1])∧zek w' b (za3 t).2.2∧w.grownBy w' (some b):=by
 have c0:=cell_of_row w b 0 _ _ (0,0) h;simp at c0
 have HN:=Lib.hid (zI2 w b t h ht);by_cases hc:(zb7 t).2.1=0∧(zb7 t).1<0
 ·have HR:za3 t=(0,3,t):=if_pos hc;rw[HR];obtain⟨he,hn⟩:=hc;rw[he]at HN;generalize(zb7 t).2.2=u at*;generalize(zb7 t).1=n at*;have q2:decide (n<0)=true:=by simpa using hn
  clear h HR he hn;go_enter Tryz.func40,Tryz.ntmps40
  go_wp2_with fail;refine HN.out.mono ?_;rintro e w1 ⟨rfl,h1,hg1⟩;have H1:=Lib.hid h1;have HG:=Lib.hid hg1;have c1:=cell_of_row w1 b 0 _ _ (0,0) h1;have f1:w1.frozen? ⟨b,0,none⟩=false:=by
   have:=h1;unfold zek at this;simp[World.frozen?,this]
  simp at c1
  clear h1 hg1;go_wp2_with fail;go_ret2;exact⟨rfl,zA2 H1.out,HG.out.trans (zr6 _ _ _)⟩
 ·have HR:za3 t=zb7 t:=if_neg hc;rw[HR];generalize(zb7 t).2.2=u at*;generalize(zb7 t).2.1=e at*;generalize(zb7 t).1=n at*;have hcase:(e==0)=false∨((e==0)=true∧decide (n<0)=false):=by
   by_cases h0:e=0
   ·exact .inr ⟨by simpa using h0,by simp;omega⟩
   ·exact .inl (by simpa using h0)
  clear h HR hc;rcases hcase with q1|⟨q1,q2⟩
  all_goals
   go_enter Tryz.func40,Tryz.ntmps40
   go_wp2_with fail;refine HN.out.mono ?_;rintro e' w1 ⟨rfl,h1,hg1⟩;go_wp2_with fail;go_ret2;exact⟨rfl,h1,hg1⟩
end F
namespace F
open Go.RowKit Go.Maps
def CAP:Nat:=4294967296
theorem zd9{z:Int}(h:zbd z):fits64 z:=⟨by have:=h.1;omega,h.2⟩
theorem zt2{x:Int×Int×Int}(h:wayP x):zBb x:=⟨zd9 h.1,zd9 h.2.1,zd9 h.2.2⟩
theorem z6h{d:Nd}(h:NdOk d):(sgn d).length≤4400000:=by
 have h1:=z1f d.fin;have h2:=Lib.itoa_length_le d.out (zd9 h.out).1 (zd9 h.out).2;have h3:=zsj (l:=d.ways) fun x hx=>zt2 (h.ways x hx)
 have h4:=h.len;unfold sgn;rw[List.length_append,List.length_append];omega
def zd7(f:Nat)(W:World)(p kb base:Nat)(v:Value)(hs:List Nh)(l:List Ent)(at_:Nat)(told:Int)(e:Ending)(W':World):Prop:=
 ∃v' more,e=.returned (.int .i64 ((zc2 f (hs.map (·.d)) l at_ told).1:Nat))∧FbAt W' p kb base v' (hs++more)∧(hs++more).map (·.d)=(zc2 f (hs.map (·.d)) l at_ told).2∧Fk p kb v W W'∧zj4 W v v'∧(∀h∈more,∀g,h.row.ownBlock=some g→W.heap.size≤g)∧Tab W'
structure LoopR(f:Nat)(W wr:World)(p kb base B b9:Nat)(v v':Value)(hs more:List Nh)(fin:Bool)(out:Int)(ws:List (Int×Int×Int))(Aw:Option Addr)(cw:Nat)(r:List Ent)(A:Option Addr)(n c:Nat)(at_:Nat)(told:Int)(res:List Nd×List (Int×Int×Int)):Prop where
 fb:FbAt wr p kb base v' (hs++more)
 ents:Ents wr B A n c r
 loc:wr.heap[b9]? =some (.cells #[.bool fin,.int .i64 out,.slice Aw ws.length cw] 88 (0,0))
 way:wr.ownsRow base 107 3 (.slice Aw ws.length cw) ws.length (waysC ws)
 fk:Fk p kb v W wr
 mv:zj4 W v v'
 new:∀h∈more,∀g,h.row.ownBlock=some g→W.heap.size≤g
 ap:∀h∈hs++more,h.row.ownBlock=none∨h.row.ownBlock≠(Value.slice Aw ws.length cw).ownBlock
 ap9:v'.ownBlock≠some b9
 wnew:∀g,(Value.slice Aw ws.length cw).ownBlock=some g→W.heap.size≤g
 n9:W.heap.size≤b9
 okr:Okr at_ told r
 wsok:∀x∈ws,wayP x
 len:ws.length+r.length≤65536
 eq:zgg (fun ds g m=>zc2 f ds g (at_+1) m) at_ told r.length ((hs++more).map (·.d)) ws r=res
 cap:(hs++more).length+cost at_ r≤CAP
 tab:Tab wr
theorem zyf:Elem Tryz.prog 81 88 3 40:=Elem.mk_ Tryz.underlying81 (z:=.agg #[.bool false,.int .i64 0,.slice none 0 0]) (by kernel_rfl) rfl (by omega)
theorem z24:Elem Tryz.prog 86 107 3 24:=Elem.mk_ Tryz.underlying86 (z:=.agg #[.int .i64 0,.int .i64 0,.int .i64 0]) (by kernel_rfl) rfl (by omega)
theorem zbb{H:Type}{W:World}{b e s n kb m:Nat}{x:Value}{xs:List Value}{N:DataW H}(h:W.ownsRow b e s x n xs)(hm:zg7 W kb m N):x.ownBlock=none∨x.ownBlock≠some kb:=by
 rcases h.2 with⟨rfl,_⟩|⟨g,cap,cur,rfl,_,hg,_⟩
 ·exact .inl rfl
 ·refine .inr fun e=>?_
  simp only[Value.ownBlock,Option.some.injEq]at e;subst e;obtain⟨es,clock,hb,_⟩:=hm;rw[hg]at hb;cases hb
theorem za5{W:World}{b e s n k t:Nat}{x:Value}{xs:List Value}{cs:Array Value}{f:Nat×Nat}(h:W.ownsRow b e s x n xs)(hk:W.heap[k]? =some (.cells cs t f))(he:t≠e):x.ownBlock=none∨x.ownBlock≠some k:=by
 rcases h.2 with⟨rfl,_⟩|⟨g,cap,cur,rfl,_,hg,_⟩
 ·exact .inl rfl
 ·refine .inr fun e'=>?_
  simp only[Value.ownBlock,Option.some.injEq]at e';subst e';rw[hg]at hk;injection hk with hk
  injection hk with _ hk _
  exact he hk.symm
theorem zpk(t:List UInt8)(i:Nat):0≤byteAt t i∧byteAt t i<256:=by
 unfold byteAt;have:=(t.getD i 0).toNat_lt;omega
theorem zfi(t:List UInt8)(i:Nat)(h:i<(⟨t.toArray⟩:ByteArray).size):((((⟨t.toArray⟩:ByteArray)[i]'h).toNat:Nat):Int)=byteAt t i:=by
 have h':i<t.length:=by rwa[size_mk]at h
 unfold byteAt;rw[List.getD_eq_getElem?_getD,List.getElem?_eq_getElem h'];rfl
theorem z4j(l:List Ent)(k:Nat):entsC (l.take k)=(entsC l).take (k*2):=by
 induction l generalizing k with
 |nil=>simp[entsC]
 |
  cons e r ih=>
  cases k with
  |zero=>simp[entsC]
  |
   succ k=>
   have:=ih k;unfold entsC at this⊢;rw[List.take_succ_cons,List.flatMap_cons,List.flatMap_cons,this,Nat.succ_mul,List.take_append];simp[entC]
theorem z4k(l:List Ent)(k:Nat):entsC (l.drop k)=(entsC l).drop (k*2):=by
 induction l generalizing k with
 |nil=>simp[entsC]
 |
  cons e r ih=>
  cases k with
  |zero=>simp[entsC]
  |
   succ k=>
   have:=ih k;unfold entsC at this⊢;rw[List.drop_succ_cons,List.flatMap_cons,this,Nat.succ_mul,List.drop_append];simp[entC]
theorem Ents.take{w:World}{B n c k:Nat}{A:Option Addr}{l:List Ent}(h:Ents w B A n c l)(hk:k≤n):Ents w B A k c (l.take k):=
 ⟨by rw[z4j];exact h.sl.pre hk,Nat.le_trans hk h.nc,Nat.le_trans hk h.cm⟩
theorem Ents.drop{w:World}{B n c k:Nat}{A:Option Addr}{l:List Ent}(h:Ents w B A n c l)(hk:k≤n):Ents w B (if c=k then A else A.map (·.add (k*2))) (n-k) (c-k) (l.drop k):=
 ⟨by rw[z4k];exact h.sl.cut hk h.nc,by have:=h.nc;omega,by have:=h.cm;omega⟩
theorem Ents.drewN{w:World}{B n c:Nat}{A:Option Addr}{l:List Ent}(h:Ents w B A n c l)(q:Nat):Ents (w.drewN q) B A n c l:=⟨h.sl.drewN q,h.nc,h.cm⟩
def outOf(at_:Nat)(told:Int)(l:List Ent):Int:=if zj3 l=at_ then zl0 l-told else 0
theorem zrd{f:Nat}{ds:List Nd}{l:List Ent}{at_:Nat}{told:Int}{q:List Nd×List (Int×Int×Int)}(h:zgg (fun ds g m=>zc2 f ds g (at_+1) m) at_ told (zbc at_ l).length ds [] (zbc at_ l)=q):zc2 (f+1) ds l at_ told=addN q.1 ⟨isFin at_ l,outOf at_ told l,q.2⟩:=by
 rw[zc2,h];rfl
theorem z7j{l:List Ent}{at_:Nat}{told:Int}(h:Okl at_ told l):zbd (outOf at_ told l):=by
 unfold outOf zbd;split
 ·cases l with
  |nil=>exact absurd rfl h.ne
  |
   cons e r=>
   have:=h.out e (List.mem_cons_self ..);have:=h.t0;show 0≤e.2-told∧e.2-told≤_;omega
 ·omega
theorem LoopR.drew{f:Nat}{W wr:World}{p kb base B b9:Nat}{v v':Value}{hs more:List Nh}{fin:Bool}{out:Int}{ws:List (Int×Int×Int)}{Aw:Option Addr}{cw:Nat}{r:List Ent}{A:Option Addr}{n c at_:Nat}{told:Int}{res:List Nd×List (Int×Int×Int)}(h:LoopR f W wr p kb base B b9 v v' hs more fin out ws Aw cw r A n c at_ told res):LoopR f W wr.drew p kb base B b9 v v' hs more fin out ws Aw cw r A n c at_ told res:=
 ⟨h.fb.below (za0 wr).drew,⟨h.ents.sl,h.ents.nc,h.ents.cm⟩,h.loc,h.way,⟨h.fk.os,h.fk.tape,h.fk.output,h.fk.size,h.fk.block⟩,h.mv,h.new,h.ap,h.ap9,h.wnew,h.n9,h.okr,h.wsok,h.len,h.eq,h.cap,h.tab.below (za0 wr).drew⟩
theorem z71(b off n c:Nat)(h1:1≤n)(h2:n≤c)(w:World):(Instr.slice 22 (.slice (some ⟨b,off,none⟩) n c) (some (.int .i64 1)) none none).run Tryz.prog w=.ok (.slice (if c=1 then some ⟨b,off,none⟩else some ⟨b,off+2,none⟩) (n-1) (c-1)) w:=by
 have i1:(1:Int)≤(n:Int):=by omega
 by_cases hc:c=1
 ·subst hc;obtain rfl:n=1:=by omega
  simp[Instr.slice,run_underlying Tryz.underlying22,Instr.sliceBounds,run_sliceBound]
 ·simp[Instr.slice,run_underlying Tryz.underlying22,Instr.sliceBounds,run_sliceBound,hc,i1]
  rfl
theorem z86(f:Nat)(ds:List Nd)(l:List Ent)(at_:Nat)(told:Int):(zc2 f ds l at_ told).1≤(zc2 f ds l at_ told).2.length:=by
 cases f with
 |zero=>exact Nat.zero_le _
 |
  succ f=>
  rw[zc2];generalize zgg (fun ds g m=>zc2 f ds g (at_+1) m) at_ told (zbc at_ l).length ds [] (zbc at_ l)=q;unfold addN;split
  ·rename_i i hi
   have:=(zp2 hi).1;rw[List.length_map]at this;exact Nat.le_of_lt this
  ·show q.1.length≤(q.1++_).length;simp
theorem LoopR.next{f:Nat}{W wr W1 Wc Wx W4:World}{p kb base B b9:Nat}{v v1 v2:Value}{hs more new2:List Nh}{fin:Bool}{out:Int}{ws:List (Int×Int×Int)}{Aw:Option Addr}{cw:Nat}{e1:Ent}{r1:List Ent}{A:Option Addr}{n c at_ k:Nat}{told:Int}{res:List Nd×List (Int×Int×Int)}
  (h:LoopR f W wr p kb base B b9 v v1 hs more fin out ws Aw cw (e1::r1) A n c at_ told res) (hB:B≤base) (hpw:p<W.heap.size∧kb<W.heap.size) (htb:0<base) (hkg:grpN at_ (e1::r1)=k) (hkn:k≤n) (hk1:1≤k) (hb1:Below wr.heap.size wr W1)
  (hfb:FbAt Wc p kb base v2 ((hs++more)++new2)) (hmap:((hs++more)++new2).map (·.d)=(zc2 f ((hs++more).map (·.d)) ((e1::r1).take k) (at_+1) (zae ((e1::r1).take k))).2) (hfk:Fk p kb v1 W1 Wc) (hmv:zj4 W1 v1 v2) (hnew:∀h∈new2,∀g,h.row.ownBlock=some g→W1.heap.size≤g)
  (hbx:Below Wc.heap.size Wc Wx){i:Nat} (hi:(zc2 f ((hs++more).map (·.d)) ((e1::r1).take k) (at_+1) (zae ((e1::r1).take k))).1=i){g cap:Nat}
  (hg:Wx.grownBy W4 (Value.slice Aw ws.length cw).ownBlock) (hgm:(Value.slice Aw ws.length cw).ownBlock=some g∨Wx.heap.size≤g)
  (hown:W4.ownsRow base 107 3 (.slice (some ⟨g,0,none⟩) (ws.length+1) cap) (ws.length+1) (waysC ws++wayC (byteAt e1.1 at_,zae ((e1::r1).take k)-told,(i:Int)))):
  LoopR f W (W4.setCell ⟨b9,2,none⟩ (.slice (some ⟨g,0,none⟩) (ws.length+1) cap)) p kb base B b9 v v2 hs (more++new2) fin out (ws++[(byteAt e1.1 at_,zae ((e1::r1).take k)-told,(i:Int))]) (some ⟨g,0,none⟩) cap ((e1::r1).drop k) (if c=k then A else A.map (·.add (k*2))) (n-k) (c-k) at_ told res:=by
 have hsW:=h.fk.size;have hs1:=hb1.size;have hsc:=hfk.size;have hsx:=hbx.size;have hs4:=hg.size;have h9:=(Array.getElem?_eq_some_iff.1 h.loc).1;have n9:=h.n9;have hfb1:=h.fb.below hb1;have hbw:=h.fb.lp;have hpl:=h.fb.lt;have hlen:=h.ents.len;have hltk:((e1::r1).take k).length=k:=by rw[List.length_take,hlen];omega
 have hrowlt:∀q,(Value.slice Aw ws.length cw).ownBlock=some q→W.heap.size≤q∧q<wr.heap.size:=fun q hq=>⟨h.wnew q hq,(h.way.lt q hq).2⟩
 have hrow:∀q,q<W.heap.size→some q≠(Value.slice Aw ws.length cw).ownBlock:=fun q hq e=>by have:=(hrowlt q e.symm).1;omega
 have hrow9:some b9≠(Value.slice Aw ws.length cw).ownBlock:=fun e=>by
  rcases za5 h.way h.loc (by decide)with h'|h'
  ·rw[h']at e;cases e
  ·exact h' e.symm
 have hl1:=(hb1.block b9 h9).trans h.loc;have hlc:=(hfk.block b9 (by omega) (by omega) (by omega) h.ap9).trans hl1;have hlx:=(hbx.block b9 (by omega)).trans hlc;have hl4:=(hg.block b9 (by omega) hrow9).trans hlx;have hold:∀q,q<W.heap.size→q≠p→q≠kb→v1.ownBlock≠some q→(W4.setCell ⟨b9,2,none⟩ (.slice (some ⟨g,0,none⟩) (ws.length+1) cap)).heap[q]? =wr.heap[q]? :=by
  intro q hq h1 h2 h3
  rw[Below.heap_setCell _ _ _ _ (show q≠b9 by omega),hg.block q (by omega) (hrow q hq),hbx.block q (by omega),hfk.block q (by omega) h1 h2 h3,hb1.block q (by omega)]
 have hbel:Below base wr (W4.setCell ⟨b9,2,none⟩ (.slice (some ⟨g,0,none⟩) (ws.length+1) cap)):=by
  refine⟨(hg.os.trans hbx.os).trans (hfk.os.trans hb1.os),(hg.tape.trans hbx.tape).trans (hfk.tape.trans hb1.tape),(hg.output.trans hbx.output).trans (hfk.output.trans hb1.output),by simp[World.setCell];omega,fun q hq=>?_⟩;have hlk:=h.fb.lk;exact hold q (by omega) (by omega) (by omega) fun e=>by have:=(h.fb.nod.lt q e).1;omega
 have hv2:v2.ownBlock=none∨v2.ownBlock≠(Value.slice Aw ws.length cw).ownBlock:=by
  rcases hmv with hm|⟨q,hm,hq⟩
  ·rw[hm];cases hv:v1.ownBlock with
   |none=>exact .inl rfl
   |
    some q=>
    refine .inr fun e=>?_
    rcases za4 h.fb.nod h.way (by decide)with h'|h'
    ·rw[h']at e;cases e
    ·exact h' (by rw[hv,e])
  ·refine .inr fun e=>?_
   rw[hm]at e;have:=(hrowlt q e.symm).2;omega
 have hrows:∀x∈(hs++more)++new2,x.row.ownBlock=none∨x.row.ownBlock≠(Value.slice Aw ws.length cw).ownBlock:=by
  intro x hx
  rcases List.mem_append.1 hx with hx|hx
  ·exact h.ap x hx
  ·cases hr:x.row.ownBlock with
   |none=>exact .inl rfl
   |
    some q=>
    refine .inr fun e=>?_
    have h1:=hnew x hx q hr;have h2:=(hrowlt q e.symm).2;omega
 have hfbx:=hfb.below hbx;have hfb4:=hfbx.grown hg (hrow p hpw.1) (hrow kb hpw.2) hv2 hrows;have hv9:v2.ownBlock≠some b9:=hmv.ne (by omega) h.ap9;have hfb5:=hfb4.grown (za7 W4 ⟨b9,2,none⟩ (.slice (some ⟨g,0,none⟩) (ws.length+1) cap)) (by simp;omega) (by simp;omega) (.inr hv9) (fun x hx=>za5 (hfb4.way x hx) hl4 (by decide));have hcs:=zl6 (l:=(e1::r1).take k) fun x hx=>h.okr.long x (List.mem_of_mem_take hx)
 have hc2:cost at_ (e1::r1)=cost at_ ((e1::r1).take k)+cost at_ ((e1::r1).drop k):=by rw[←zh4,List.take_append_drop]
 have HG:=h.okr.group;rw[hkg]at HG;have hnl:=zkd f ((hs++more).map (·.d)) ((e1::r1).take k) (at_+1) (zae ((e1::r1).take k)) HG;have hni:=z86 f ((hs++more).map (·.d)) ((e1::r1).take k) (at_+1) (zae ((e1::r1).take k));rw[←hmap,List.length_map,List.length_map]at hnl;rw[←hmap,List.length_map,hi]at hni;have hcap:=h.cap;have hmlo:told≤zae ((e1::r1).take k):=zhg HG.ne fun x hx=>(h.okr.out x (List.mem_of_mem_take hx)).1
 have hmem:e1∈(e1::r1).take k:=by
  obtain⟨j,rfl⟩:∃j,k=j+1:=⟨k-1,by omega⟩;rw[List.take_succ_cons];exact List.mem_cons_self ..
 have hmhi:zae ((e1::r1).take k)≤9223372036854775807:=Int.le_trans (zga hmem) (h.okr.out _ (List.mem_cons_self ..)).2;have ht0:=h.okr.t0;have hbyte:=zpk e1.1 at_;have hass:hs++(more++new2)=(hs++more)++new2:=(List.append_assoc _ _ _).symm;unfold CAP at hcap;refine⟨by rw[hass];exact hfb5,?_,?_,?_,?_,h.mv.trans hmv (by omega),?_,?_,hv9,?_,n9,h.okr.drop k,?_,?_,?_,?_,h.tab.keep htb hbel⟩
 ·exact(h.ents.drop hkn).keep (hbel.mono hB) (Nat.le_refl _)
 ·rw[blk_set hl4,List.length_append];rfl
 ·have:=hown.kept (za7 W4 ⟨b9,2,none⟩ (.slice (some ⟨g,0,none⟩) (ws.length+1) cap)) (za5 hown hl4 (by decide));have e:waysC (ws++[(byteAt e1.1 at_,zae ((e1::r1).take k)-told,(i:Int))])=waysC ws++wayC (byteAt e1.1 at_,zae ((e1::r1).take k)-told,(i:Int)):=by
   unfold waysC;rw[List.flatMap_append];simp
  rw[e,List.length_append];exact this
 ·refine⟨(hbel.os).trans h.fk.os,(hbel.tape).trans h.fk.tape,(hbel.output).trans h.fk.output,Nat.le_trans hsW hbel.size,fun q hq h1 h2 h3=>?_⟩;exact(hold q hq h1 h2 (h.mv.ne hq h3)).trans (h.fk.block q hq h1 h2 h3)
 ·intro x hx q hq
  rcases List.mem_append.1 hx with hx|hx
  ·exact h.new x hx q hq
  ·have:=hnew x hx q hq;omega
 ·rw[hass];intro x hx
  rcases hgm with hgm|hgm
  ·have:=hrows x hx;rw[hgm]at this;exact this
  ·cases hr:x.row.ownBlock with
   |none=>exact .inl rfl
   |
    some q=>
    refine .inr fun e=>?_
    have h1:=((hfb.way x hx).lt q hr).2;simp only[Value.ownBlock,Option.some.injEq]at e;omega
 ·intro q hq
  simp only[Value.ownBlock,Option.some.injEq]at hq;subst hq;rcases hgm with hgm|hgm
  ·exact h.wnew _ hgm
  ·omega
 ·intro x hx
  rcases List.mem_append.1 hx with hx|hx
  ·exact h.wsok x hx
  ·rw[List.mem_singleton]at hx;subst hx;refine⟨⟨hbyte.1,?_⟩,⟨?_,?_⟩,⟨?_,?_⟩⟩
   ·show byteAt e1.1 at_≤_;omega
   ·show 0≤zae _-told;omega
   ·show zae _-told≤_;omega
   ·show(0:Int)≤(i:Int);omega
   ·show(i:Int)≤_;omega
 ·have:=h.len;rw[List.length_append,List.length_drop,List.length_singleton];omega
 ·have heq:=h.eq;rw[List.length_cons,zi9,hkg,←hmap,hi]at heq;rw[hass,←heq];exact zr1 _ _ _ _ _ _ _ _ (Nat.le_refl _) (by rw[List.length_drop,List.length_cons];omega)
 ·rw[hass];unfold CAP;omega
end F
end Go.Proofs.YtaociahafamncaaGreatDoor
