/- Folded. -/
import Derived.Test.YtaociahafamncaaGreatDoorHM10
import Derived.Test.YtaociahafamncaaGreatDoorHM8
set_option maxRecDepth 100000
set_option maxHeartbeats 40000000
namespace Go.Proofs.YtaociahafamncaaGreatDoor
namespace F
open Go.RowKit Go.Maps
def baseOf(l:List Ent):Int:=if l=[]then 0 else zae l
def buildDs(l:List Ent):List Nd:=if l=[]then[]else(zc2 65 [] l 0 (zae l)).2
def buildZ(l:List Ent):List Int:=zc5 [((buildDs l).length:Int),baseOf l]++(buildDs l).flatMap zb0
def buildS(l:List Ent):ByteArray:=if rightE l=0 then strOfNums (buildZ l)else strOfNums []
theorem z12:∀a b:List UInt8,a<b∨a=b∨b<a
 |[],[]=>.inr (.inl rfl)
 |[],y::b=>.inl (by simp)
 |x::a,[]=>.inr (.inr (by simp))
 |
  x::a,y::b=>by
  rw[List.cons_lt_cons_iff,List.cons_lt_cons_iff];rcases Nat.lt_trichotomy x.toNat y.toNat with h|h|h
  ·exact .inl (.inl (UInt8.lt_iff_toNat_lt.2 h))
  ·have e:=UInt8.toNat_inj.1 h;subst e;rcases z12 a b with h'|h'|h'
   ·exact .inl (.inr ⟨rfl,h'⟩)
   ·exact .inr (.inl (by rw[h']))
   ·exact .inr (.inr (.inr ⟨rfl,h'⟩))
  ·exact .inr (.inr (.inl (UInt8.lt_iff_toNat_lt.2 h)))
theorem rightL_ok:∀(l:List Ent) (last:List UInt8),zhb l last=0→(∀e∈l,e.1≠[]∧0≤e.2∧e.1.length≤64∧last<e.1)∧l.Pairwise fun a b=>a.1<b.1
 |[],_,_=>⟨by simp,List.Pairwise.nil⟩
 |
  (t,o)::r,last,h=>by
  rw[zj7]at h;split at h
  ·omega
  rename_i h1
  split at h
  ·omega
  rename_i h2
  split at h
  ·omega
  rename_i h3
  obtain⟨h4,h5⟩:=rightL_ok r t h;have hlt:last<t:=by
   rw[bytesLess_eq]at h3;simp only[Bool.or_eq_true,decide_eq_true_eq,beq_iff_eq,not_or]at h3;rcases z12 last t with h'|h'|h'
   ·exact h'
   ·exact absurd h'.symm h3.2
   ·exact absurd h' h3.1
  have hne:t≠[]∧¬o<0:=by
   constructor
   ·exact fun e=>h1 (.inl e)
   ·exact fun e=>h1 (.inr e)
  refine⟨fun e he=>?_,List.pairwise_cons.2 ⟨fun e he=>(h4 e he).2.2.2,h5⟩⟩;rcases List.mem_cons.1 he with rfl|he
  ·exact⟨hne.1,by have:=hne.2;show 0≤o;omega,by show t.length≤64;omega,hlt⟩
  ·obtain⟨a,b,c,d⟩:=h4 e he;exact⟨a,b,c,List.lt_trans hlt d⟩
theorem zG2{l:List Ent}(h:rightE l=0)(hne:l≠[])(hwf:∀e∈l,fits64 e.2):Okl 0 (zae l) l∧l.length≤65536:=by
 unfold rightE at h;split at h
 ·omega
 rename_i hl
 obtain⟨h1,h2⟩:=rightL_ok l [] h;exact⟨⟨hne,h2,⟨[],rfl,fun e _=>⟨e.1,rfl⟩⟩,zhg hne fun e he=>(h1 e he).2.1,fun e he=>⟨zga he,(hwf e he).2⟩,fun e he=>(h1 e he).2.2.1⟩,by omega⟩
theorem zA3(l:List Ent)(h:∀e∈l,e.1.length≤64):cost 0 l≤64*l.length:=by
 induction l with
 |nil=>exact Nat.le_refl _
 |
  cons e r ih=>
  have h1:=h e (List.mem_cons_self ..);have h2:=ih fun x hx=>h x (List.mem_cons_of_mem _ hx)
  rw[zl7,List.length_cons];omega
theorem zr0{d:Nd}(h:NdOk d):(zb0 d).length≤1800000:=by
 have h1:=(zch (z:=zh7 d) (by have:=h.len;unfold zh7 zbd;split<;>omega)).2;have h2:=zjg h.ways;have h3:(if d.fin then numI d.out else[]).length≤9:=by
  split
  ·exact(zch h.out).2
  ·exact Nat.zero_le _
 have h4:=h.len;unfold zb0;rw[List.length_append,List.length_append];omega
theorem z32{ds:List Nd}(h:∀d∈ds,NdOk d):(ds.flatMap zb0).length≤1800000*ds.length:=by
 induction ds with
 |nil=>simp
 |
  cons d r ih=>
  have h1:=zr0 (h d (List.mem_cons_self ..));have h2:=ih fun x hx=>h x (List.mem_cons_of_mem _ hx)
  rw[List.flatMap_cons,List.length_append,List.length_cons];omega
theorem zn3{w w':World}{b n:Nat}{N:DataW Unit}(h:zg7 w b n N)(hb:Below w.heap.size w w'):zg7 w' b n N:=h.kept (grown_below hb) (by simp)
theorem zGb(w:World){nb:Nat}(hn:w.heap.size=nb)(base:Nat)(hb:base≤nb):FbAt ((w.alloc (.map #[] 0)).alloc (.cells #[.slice none 0 0,.map (some nb)] 83)) (nb+1) nb base (.slice none 0 0) []:=by
 subst hn;have h1:=World.ownsMap_made (H:=Unit) w Tryz.prog 9 (plainElem Tryz.prog 3);have hs:(w.alloc (.map #[] 0)).heap.size=w.heap.size+1:=by simp
 refine⟨?_,⟨rfl,.inl ⟨rfl,rfl⟩⟩,by simp,⟨0,.map [],zn3 h1 (bnew (za0 _) _),Nat.le_refl _,zp0⟩,by simp,by omega,hb⟩;have:=heap_alloc_new (w.alloc (.map #[] 0)) (.cells #[.slice none 0 0,.map (some w.heap.size)] 83);rw[hs]at this;exact this
theorem zAf(w:World)(B:Nat)(hB:B≤w.heap.size)(A:Option Addr)(n c:Nat)(l:List Ent)(h:Ents w B A n c l)(hr:rightE l≠0):
  Calls Tryz.prog 20 #[.slice A n c] w fun e w'=>e=.returned (.tuple #[.string (buildS l),.int .i64 (rightE l)])∧Below w.heap.size w w':=by
 have HR:=Lib.hid (zo3 w B hB A n c l h);have hS:buildS l=strOfNums []:=if_neg hr;rw[hS];have hz:strOfNums []=⟨#[]⟩:=rfl;rw[hz];generalize rightE l=r at*;have q1:(r !=0)=true:=by simpa using hr
 clear h hS hz;go_enter Tryz.func20,Tryz.ntmps20
 go_wp2_with fail;refine HR.out.mono ?_;rintro e w1 ⟨rfl,hb1⟩;go_wp2_with fail;go_ret2;exact⟨rfl,hb1⟩
theorem z58(w:World)(B:Nat)(hB:B≤w.heap.size)(A:Option Addr)(n c:Nat)(l:List Ent)(h:Ents w B A n c l)(hr:rightE l=0)(hwf:∀e∈l,fits64 e.2)(hne:l≠[])(ht:Tab w):
  Calls Tryz.prog 20 #[.slice A n c] w fun e w'=>e=.returned (.tuple #[.string (buildS l),.int .i64 (rightE l)])∧Below w.heap.size w w':=by
 have HR:=Lib.hid (zo3 w B hB A n c l h);obtain⟨hok,hl⟩:=zG2 hr hne hwf;have hcl:=zA3 l hok.len;have hlen:=h.len;have hn:0<n:=by
  have:=List.length_pos_iff.2 hne;omega
 have hS:buildS l=strOfNums (buildZ l):=if_pos hr;have hds:buildDs l=(zc2 65 [] l 0 (zae l)).2:=if_neg hne;have hbo:baseOf l=zae l:=if_neg hne;have hmhi:zae l≤9223372036854775807:=by
  cases hl':l with
  |nil=>exact absurd hl' hne
  |
   cons e r=>
   have he:e∈l:=by rw[hl'];exact List.mem_cons_self ..
   rw[←hl'];exact Int.le_trans (zga he) (hok.out e he).2
 have hm0:=hok.t0;have HCN:Hid ((zc2 65 ([]:List Nd) l 0 (zae l)).2.length≤4294967296):=by
  have:=zkd 65 [] l 0 (zae l) hok;show _≤_;simp only[List.length_nil]at this;omega
 have HN:=Lib.hid (fun(w1:World) (hb1:Below w.heap.size w w1) (p kb:Nat) (v:Value) (hf:FbAt w1 p kb w.heap.size v [])=>z0g p kb w.heap.size B hB ht.lt 65 0 (by omega) w1 v [] l A n c (zae l) hf (h.keep (hb1.mono hB) (Nat.le_refl _)) hok hl (by unfold CAP;simp;omega) (ht.below hb1));have HL:=Lib.hid (fun(w1:World) (hb1:Below w.heap.size w w1)=>zog w1 B (Nat.le_trans hB hb1.size) A n c l (h.keep (hb1.mono hB) (Nat.le_refl _)) hn);have q2:decide (n>0)=true:=by simpa using hn
 rw[hS];have HZ:Hid (buildZ l=zc5 [((buildDs l).length:Int),zae l]++(buildDs l).flatMap zb0):=by
  show _=_;unfold buildZ;rw[hbo]
 have HDS:=Lib.hid hds;rw[hr]at HR⊢;clear h hok hcl hds hbo hS hr hwf hB ht;obtain⟨m,hm⟩:∃m,zae l=m:=⟨_,rfl⟩;rw[hm]at HN HL HZ hmhi hm0 HDS HCN;clear hm;go_enter Tryz.func20,Tryz.ntmps20
 go_wp2_with fail;refine HR.out.mono ?_;rintro e w1 ⟨rfl,hb1⟩;have hmk:= @run_makeMap Tryz.prog;go_wp2_with fail;clear hmk;have hW:Below w.heap.size w ((w1.alloc (.map #[] 0)).alloc (.cells #[.slice none 0 0,.map (some w1.heap.size)] 83)):=bnew (bnew hb1 _) _;have HF:=Lib.hid (zGb w1 (nb:=w1.heap.size) rfl w.heap.size hb1.size);refine(HL.out _ hW).mono ?_;rintro e w2 ⟨rfl,hb2⟩;have HB2:=Lib.hid (za9 hW hb2);have HF2:=Lib.hid (HF.out.below hb2);clear hb2 hW HF hb1;generalize w1.heap.size=kb at*;go_wp2_with fail;refine(HN.out w2 HB2.out (kb+1) kb _ HF2.out).mono ?_;rintro e w3 ⟨v3,hs,rfl,hf3,hm3,hk3,_,_,ht3⟩;have HB3:=Lib.hid (HB2.out.trans (hk3.below HF2.out HB2.out.size));rw[List.nil_append]at hf3 hm3;have hds:buildDs l=hs.map (·.d):=by rw[HDS.out,hm3];rfl
 have hln:hs.length≤4294967296:=by
  have h1:=congrArg List.length hm3;have h2:=HCN.out;rw[List.length_map]at h1;have h3:(zc2 65 ([]:List Nd) l 0 m).2.length≤4294967296:=h2;have h4:(zc2 65 (List.map (fun x:Nh=>x.d) []) l 0 m).2.length=(zc2 65 ([]:List Nd) l 0 m).2.length:=rfl;omega
 rw[hds,List.length_map]at HZ;obtain⟨Av,cv,rfl,hvc⟩:=za1 hf3.nod;have k0:=cell_of_row w3 _ 0 _ _ (0,0) hf3.blk;simp at k0
 have HF3:=Lib.hid hf3;have HM:=Lib.hid hm0;have HM2:=Lib.hid hmhi;clear hf3 hm3 hk3 ht3 hds hm0 hmhi HL HN HR HDS HCN;obtain⟨ln,hln2⟩:∃z,hs.length=z:=⟨_,rfl⟩;rw[hln2]at k0 HZ hvc hln;have HNS:=Lib.hid (fun(W:World) (A:Option Addr) (hs:Sl W W.heap.size 1 A 2 [.int .i64 (ln:Nat),.int .i64 m])=>zfb W A 2 2 W.heap.size [((ln:Nat):Int),m] (by omega) hs (Nat.le_refl _) (by
  intro z hz
  simp only[List.mem_cons,List.not_mem_nil,or_false]at hz;rcases hz with rfl|rfl
  ·exact⟨by omega,by omega⟩
  ·exact⟨HM.out,HM2.out⟩))
 obtain⟨pre,hpre⟩:∃p,zc5 [((ln:Nat):Int),m]=p:=⟨_,rfl⟩;have hpl:pre.length≤18:=by
  rw[←hpre];have h1:=(zch (z:=((ln:Nat):Int)) ⟨by omega,by omega⟩).2;have h2:=(zch (z:=m) ⟨HM.out,HM2.out⟩).2;simp[zc5]
  omega
 rw[hpre]at HNS HZ;clear hpre;go_wp2_with fail;refine(HNS.out _ _ (znk _ _ _ 1 2 (by simp) rfl)).mono ?_;rintro e w4 ⟨rfl,hb4⟩;have HB34:=Lib.hid (zej (za0 w3) hb4);have k4:=(HB34.out.cell (lt_of_cell k0).1).trans k0;clear hb4;go_wp2_with fail;clear k0 k4 HNS;go_loopw [7,40] (fun v i wr=>∃k:Nat,k≤ln∧i=.int .i64 k∧v=.string (strOfNums (pre++((hs.map (·.d)).take k).flatMap zb0))∧Hid (Below w3.heap.size w3 wr)) (fun _ i _=>ln-(intOf i).toNat)
 case atStart=>exact⟨0,Nat.zero_le _,rfl,by simp,HB34⟩
 case round=>
  obtain⟨k,hk,rfl,rfl,HB⟩:=hrel;have hokk:∀d∈hs.map (·.d),NdOk d:=by
   intro d hd
   obtain⟨h,hh,rfl⟩:=List.mem_map.1 hd;exact HF3.out.ok h hh
  by_cases hlt:k<ln
  ·obtain⟨h,hh⟩:∃h,hs[k]? =some h:=⟨hs[k]'(by omega),List.getElem?_eq_getElem _⟩;have hmem:=List.mem_of_getElem? hh;have hnd:=HF3.out.ok h hmem;have hnod:=HF3.out.nod;rw[hln2]at hnod;obtain⟨g,hAv,_,hgl⟩:=zah hnod (by omega);subst hAv;have hc:∀j u,h.hdr[j]? =some u→j<3→wr.cell? ⟨g,k*3+j,none⟩=some u:=by
    intro j u hu hj
    have:=hnod.cells (g:=g) rfl (k*3+j) u (by rw[zc7 Nh.hdr 3 (fun _=>rfl) hs k j h hh hj];exact hu);rw[Addr.add_lit,Nat.zero_add]at this;exact(HB.out.cell (p:=⟨g,k*3+j,none⟩) hgl).trans this
   have c0:=hc 0 _ rfl (by omega);have c1:=hc 1 _ rfl (by omega);have c2:=hc 2 _ rfl (by omega);rw[Nat.add_zero]at c0;have HWR:=Lib.hid (fun(W:World) (hb:Below wr.heap.size wr W)=>write_any W h.d h.A h.d.ways.length h.c (Sl.of_own (za2 (za2 (HF3.out.way h hmem) HB.out) hb)) rfl (by have:=hnd.len;omega) hnd.ways hnd.out);have hacc:(pre++((hs.map (·.d)).take k).flatMap zb0).length≤18+1800000*k:=by
    have:=z32 (ds:=(hs.map (·.d)).take k) fun d hd=>hokk d (List.mem_of_mem_take hd)
    rw[List.length_take]at this;rw[List.length_append];have:1800000*min k (hs.map (·.d)).length≤1800000*k:=Nat.mul_le_mul_left _ (Nat.min_le_left _ _);omega
   have hwl:=zr0 hnd;have hcat:=zni (pre++((hs.map (·.d)).take k).flatMap zb0) (zb0 h.d) (by omega);have HN2:Hid (strOfNums ((pre++((hs.map (·.d)).take k).flatMap zb0)++zb0 h.d)=strOfNums (pre++((hs.map (·.d)).take (k+1)).flatMap zb0)):=by
    show _=_;rw[List.take_add_one,List.getElem?_map,hh,List.flatMap_append];simp
   have hrow:h.row=.slice h.A h.d.ways.length h.c:=rfl;rw[hrow]at c2;generalize strOfNums ((pre++((hs.map (·.d)).take k).flatMap zb0)++zb0 h.d)=U at*;generalize strOfNums (pre++((hs.map (·.d)).take k).flatMap zb0)=S at*;generalize strOfNums (zb0 h.d)=T at*;clear hc hacc hwl hh hmem hnod hrow hokk;generalize h.d.fin=x1 at*;generalize h.d.out=x2 at*;go_wp2_with fail;refine(HWR.out _ (bnew (za0 wr) _)).mono ?_;rintro e w5 ⟨rfl,hb5⟩;go_wp2_with fail;go_roundw;case rel=>exact⟨k+1,by omega,by go_num,by rw[HN2.out],Lib.hid (zej HB.out hb5)⟩
   case measure=>simp[intOf];omega
  ·obtain rfl:ln=k:=by omega
   have hall:(hs.map (·.d)).take ln=hs.map (·.d):=List.take_of_length_le (by rw[List.length_map];omega);have HF:Hid (strOfNums (pre++(hs.map (·.d)).flatMap zb0)=strOfNums (buildZ l)):=by show _=_;rw[HZ.out]
   rw[hall];go_wp2_with fail;go_ret2;exact⟨by rw[HF.out];rfl,HB3.out.trans (HB.out.mono HB3.out.size)⟩
theorem zAe(w:World)(B:Nat)(hB:B≤w.heap.size)(A:Option Addr)(c:Nat)(h:Ents w B A 0 c []):
  Calls Tryz.prog 20 #[.slice A 0 c] w fun e w'=>e=.returned (.tuple #[.string (buildS []),.int .i64 (rightE [])])∧Below w.heap.size w w':=by
 have HR:=Lib.hid (zo3 w B hB A 0 c [] h);have hr:rightE []=0:=rfl;have HS:Hid (buildS []=strOfNums (zc5 [0,0])):=by
  show _=_;unfold buildS buildZ buildDs baseOf;simp
  intro hh
  exact absurd hr hh
 rw[hr]at HR⊢;have hmk:= @run_makeMap Tryz.prog;have HNS:=Lib.hid (fun(W:World) (A:Option Addr) (hs:Sl W W.heap.size 1 A 2 [.int .i64 0,.int .i64 0])=>zfb W A 2 2 W.heap.size [0,0] (by omega) hs (Nat.le_refl _) (by
  intro z hz
  simp at hz
  subst hz;exact⟨by omega,by omega⟩))
 clear h hr;go_enter Tryz.func20,Tryz.ntmps20
 go_wp2_with fail;refine HR.out.mono ?_;rintro e w1 ⟨rfl,hb1⟩;go_wp2_with fail;clear hmk;have HF:=Lib.hid (zGb w1 (nb:=w1.heap.size) rfl w.heap.size hb1.size);have hW:Below w.heap.size w ((w1.alloc (.map #[] 0)).alloc (.cells #[.slice none 0 0,.map (some w1.heap.size)] 83)):=bnew (bnew hb1 _) _;have HW:=Lib.hid hW;have k0:=cell_of_row _ (w1.heap.size+1) 0 _ _ (0,0) HF.out.blk;simp at k0
 refine(HNS.out _ _ (znk _ _ _ 1 2 (by simp) rfl)).mono ?_;rintro e w4 ⟨rfl,hb4⟩;have HB4:=Lib.hid (zej hW hb4);have hl:=HF.out.lt;have k4:w4.cell? ⟨w1.heap.size+1,0,none⟩=some (.slice none 0 0):=by
  refine(hb4.cell (p:=⟨w1.heap.size+1,0,none⟩) (by simp)).trans ?_;refine(World.cell?_alloc_lt _ _ ⟨w1.heap.size+1,0,none⟩ (by simp)).trans ?_;exact cell_of_row _ (w1.heap.size+1) 0 _ _ (0,0) HF.out.blk
 clear hb4 hW k0 hl;go_wp2_with fail;go_loopw [7,40] (fun v i wr=>i=.int .i64 0∧v=.string (strOfNums (zc5 [0,0]))∧wr=w4) (fun _ _ _=>0)
 case atStart=>exact⟨rfl,rfl,rfl⟩
 case round=>
  obtain⟨rfl,rfl,rfl⟩:=hrel;go_wp2_with fail;go_ret2;exact⟨by rw[HS.out];rfl,HB4.out⟩
theorem build_any(w:World)(B:Nat)(hB:B≤w.heap.size)(A:Option Addr)(n c:Nat)(l:List Ent)(h:Ents w B A n c l)(hwf:∀e∈l,fits64 e.2)(ht:Tab w):
  Calls Tryz.prog 20 #[.slice A n c] w fun e w'=>e=.returned (.tuple #[.string (buildS l),.int .i64 (rightE l)])∧Below w.heap.size w w':=by
 by_cases hr:rightE l=0
 ·cases l with
  |
   nil=>
   obtain rfl:n=0:=h.len.symm;exact zAe w B hB A c h
  |cons e r=>exact z58 w B hB A n c _ h hr hwf (by simp) ht
 ·exact zAf w B hB A n c l h hr
end F
namespace F
open Go.RowKit Go.Maps
def WayN(n:Nat)(x:Int×Int×Int):Prop:=(0≤x.1∧x.1≤255)∧zbd x.2.1∧0≤x.2.2∧x.2.2<(n:Int)
theorem zmb(t:List UInt8)(h:(za3 t).2.1=0):(za3 t).2.2.length<t.length:=by
 unfold za3 at h⊢;split
 ·rename_i hc;rw[if_pos hc]at h;cases h
 ·rename_i hc
  rw[if_neg hc]at h;unfold zb7 at h⊢;split
  ·rename_i he
   obtain⟨k,hk,k1,k2⟩:=zG3 t he;show(t.drop (numR t).2.1.toNat).length<_;rw[hk,Int.toNat_natCast,List.length_drop];omega
  ·rename_i he
   rw[if_neg he]at h;exact absurd h he
theorem zFj:∀(k:Nat) (acc:List Int) (t:List UInt8),(rdN k acc t).1=0→∃more,(rdN k acc t).2.1=acc++more∧more.length=k∧(∀z∈more,zbd z)∧(rdN k acc t).2.2.length+k≤t.length
 |0,acc,t,_=>⟨[],by simp[rdN],rfl,by simp,by simp[rdN]⟩
 |
  k+1,acc,t,h=>by
  by_cases h0:(za3 t).2.1=0
  ·rw[zvb _ _ h0]at h⊢;obtain⟨more,h1,h2,h3,h4⟩:=zFj k _ _ h;have hl:=zmb t h0;refine⟨(za3 t).1::more,by rw[h1,List.append_assoc];rfl,by rw[List.length_cons,h2],?_,by omega⟩;intro z hz
   rcases List.mem_cons.1 hz with rfl|hz
   ·exact zcd t h0
   ·exact h3 z hz
  ·rw[zth _ _ h0]at h;exact absurd h h0
def sizeOf(sz:List Int)(x:Int×Int×Int):Int:=sz.getD x.2.2.toNat 0
theorem getD_in{sz:List Int}{lo hi:Int}(h:∀x∈sz,lo≤x∧x≤hi)(h0:lo≤0∧0≤hi)(i:Nat):lo≤sz.getD i 0∧sz.getD i 0≤hi:=by
 rw[List.getD_eq_getElem?_getD];cases hx:sz[i]? with
 |none=>exact h0
 |some x=>exact h x (List.mem_of_getElem? hx)
theorem z7b{n:Nat}{sz dp:List Int}(hs:∀x∈sz,0≤x∧x≤65536)(hd:∀x∈dp,0≤x∧x≤64):∀(k:Nat) (ws:Ways) (s d:Int) (t:List UInt8),(rdW n sz dp k ws s d t).1=0→0≤d→∃more,(rdW n sz dp k ws s d t).2.1=ws++more∧more.length=k∧(∀x∈more,WayN n x)∧(rdW n sz dp k ws s d t).2.2.1=s+(more.map (sizeOf sz)).sum∧d≤(rdW n sz dp k ws s d t).2.2.2.1∧(rdW n sz dp k ws s d t).2.2.2.2.length≤t.length
 |0,ws,s,d,t,_,_=>⟨[],by simp[rdW],rfl,by simp,by simp[rdW],by simp[rdW],by simp[rdW]⟩
 |
  k+1,ws,s,d,t,h,h0=>by
  obtain⟨⟨e,vs,u⟩,hr⟩:∃r,rdN 3 [] t=r:=⟨_,rfl⟩;by_cases he:e=0
  ·subst he;obtain⟨more,h1,h2,h3,h4⟩:=zFj 3 [] t (by rw[hr]);rw[hr,List.nil_append]at h1;rw[hr]at h4;simp only at h1 h4;subst h1;obtain⟨a,b,c,rfl⟩:∃a b c,vs=[a,b,c]:=by
    match vs,h2 with
    |[a,b,c],_=>exact⟨a,b,c,rfl⟩
   have ha:=h3 a (by simp);have hb:=h3 b (by simp);have hc:=h3 c (by simp);by_cases hbad:255<a∨(n:Int)≤c
   ·rw[z7d hr hbad]at h;exact absurd h (by simp)
   ·obtain⟨q,rfl⟩:=Int.eq_ofNat_of_zero_le hc.1;have hq:q<n:=by omega
    have ha2:a≤255:=by omega
    rw[z7c hr ha2 hq]at h⊢;have hdd:d≤(if 0<sz.getD q 0 then max d (dp.getD q 0+1)else d):=by split<;>omega
    obtain⟨more,g1,g2,g3,g4,g5,g6⟩:=z7b hs hd k _ _ _ _ h (by omega);refine⟨(a,b,(q:Int))::more,by rw[g1,List.append_assoc];rfl,by rw[List.length_cons,g2],?_,?_,by omega,by omega⟩
    ·intro x hx
     rcases List.mem_cons.1 hx with rfl|hx
     ·exact⟨⟨ha.1,ha2⟩,hb,by show(0:Int)≤(q:Int);omega,by show(q:Int)<(n:Int);omega⟩
     ·exact g3 x hx
    ·rw[g4,List.map_cons,List.sum_cons];have:sizeOf sz (a,b,(q:Int))=sz.getD q 0:=rfl;omega
  ·rw[zte hr he]at h;exact absurd h he
def finN(b:Bool):Int:=if b then 1 else 0
theorem z07{fin:Bool}{out:Int}{w:Int×Ways×Int×Int×List UInt8}{d:Nd}{s h:Int}{u:List UInt8}(hr:zk9 fin out w=(0,d,s,h,u)):w=(0,d.ways,s,h,u)∧d.fin=fin∧d.out=out∧s≤65536∧h≤64:=by
 obtain⟨e,ws,s',h',u'⟩:=w;unfold zk9 at hr;simp only at hr;split at hr
 ·rename_i he
  injection hr with h1 _
  exact absurd h1 he
 split at hr
 ·injection hr with h1 _
  cases h1
 rename_i he hb
 have he:e=0:=by simpa using he
 subst he;injection hr with _ hr
 injection hr with h1 hr
 injection hr with h2 hr
 injection hr with h3 h4
 subst h1 h2 h3 h4;exact⟨rfl,rfl,rfl,by omega,by omega⟩
theorem zva{n:Nat}{sz dp:List Int}(hs:∀x∈sz,0≤x∧x≤65536)(hd:∀x∈dp,0≤x∧x≤64){t:List UInt8}{d:Nd}{s h:Int}{u:List UInt8}(hr:zca n sz dp t=(0,d,s,h,u)):
  zbd d.out∧(∀x∈d.ways,WayN n x)∧d.ways.length≤256∧s≤65536∧0≤s∧0≤h∧h≤64∧s=finN d.fin+(d.ways.map (sizeOf sz)).sum∧u.length<t.length:=by
 have hpos:∀l:Ways,0≤(l.map (sizeOf sz)).sum:=by
  intro l
  induction l with
  |nil=>simp
  |
   cons x r ih=>
   rw[List.map_cons,List.sum_cons];have:=(getD_in hs ⟨by omega,by omega⟩ x.2.2.toNat).1;unfold sizeOf at ih⊢;omega
 by_cases h1:(za3 t).2.1≠0
 ·rw[z06 h1]at hr;injection hr with e _
  exact absurd e h1
 have h1:(za3 t).2.1=0:=by simpa using h1
 have hl1:=zmb t h1;have hp1:=zcd t h1;by_cases h2:513<(za3 t).1
 ·rw[z05 h1 h2]at hr;injection hr with e _
  cases e
 by_cases h3:(za3 t).1%2=1
 ·by_cases h4:(za3 (za3 t).2.2).2.1=0
  ·rw[ztg h1 (by omega) h3 h4]at hr;obtain⟨e1,e2,e3,e4,e5⟩:=z07 hr;obtain⟨more,g1,g2,g3,g4,g5,g6⟩:=z7b hs hd _ _ _ _ _ (by rw[e1]) (Int.le_refl 0);rw[e1]at g1 g4 g5 g6;simp only[List.nil_append]at g1 g4 g5 g6;subst g1;have hl4:=zck (za3 t).2.2;have:=hpos d.ways;refine⟨by rw[e3];exact zcd _ h4,g3,by have:=hp1.1;omega,e4,by omega,g5,e5,?_,by omega⟩;rw[g4,e2];rfl
  ·rw[z04 h1 (by omega) h3 h4]at hr;injection hr with e _
   exact absurd e h4
 ·rw[ztf h1 (by omega) h3]at hr;obtain⟨e1,e2,e3,e4,e5⟩:=z07 hr;obtain⟨more,g1,g2,g3,g4,g5,g6⟩:=z7b hs hd _ _ _ _ _ (by rw[e1]) (Int.le_refl 0);rw[e1]at g1 g4 g5 g6;simp only[List.nil_append]at g1 g4 g5 g6;subst g1;have:=hpos d.ways;refine⟨by rw[e3];exact⟨by omega,by omega⟩,g3,by have:=hp1.1;omega,e4,by omega,g5,e5,?_,by omega⟩;rw[g4,e2];rfl
structure RdInv(ds:List Nd)(sz dp:List Int):Prop where
 lenS:sz.length=ds.length
 lenD:dp.length=ds.length
 szb:∀x∈sz,0≤x∧x≤65536
 dpb:∀x∈dp,0≤x∧x≤64
 fine:Fine ds
 few:∀d∈ds,d.ways.length≤256
 sum:∀(i:Nat) d,ds[i]? =some d→sz.getD i 0=finN d.fin+(d.ways.map (sizeOf sz)).sum
theorem RdInv.nil:RdInv [] [] []:=⟨rfl,rfl,by simp,by simp,fun i d h=>by simp at h,by simp,fun i d h=>by simp at h⟩
theorem RdInv.snoc{ds:List Nd}{sz dp:List Int}(h:RdInv ds sz dp){t:List UInt8}{d:Nd}{s k:Int}{u:List UInt8}(hr:zca ds.length sz dp t=(0,d,s,k,u)):RdInv (ds++[d]) (sz++[s]) (dp++[k]):=by
 obtain⟨p1,p2,p3,p4,p5,p6,p7,p8,_⟩:=zva h.szb h.dpb hr;have hget:∀x:Int×Int×Int,0≤x.2.2→x.2.2<(ds.length:Int)→sizeOf (sz++[s]) x=sizeOf sz x:=by
  intro x h0 h1
  unfold sizeOf;rw[List.getD_eq_getElem?_getD,List.getD_eq_getElem?_getD,List.getElem?_append_left (by rw[h.lenS];omega)]
 have hmap:∀ws:Ways,(∀x∈ws,0≤x.2.2∧x.2.2<(ds.length:Int))→ws.map (sizeOf (sz++[s]))=ws.map (sizeOf sz):=by
  intro ws hw
  apply List.map_congr_left
  intro x hx
  exact hget x (hw x hx).1 (hw x hx).2
 have hcase:∀(i:Nat) e,(ds++[d])[i]? =some e→ds[i]? =some e∧i<ds.length∨(i=ds.length∧e=d):=by
  intro i e he
  rcases Nat.lt_trichotomy i ds.length with hi|hi|hi
  ·rw[List.getElem?_append_left hi]at he;exact .inl ⟨he,hi⟩
  ·subst hi;rw[List.getElem?_append_right (Nat.le_refl _)]at he;simp at he
   exact .inr ⟨rfl,he.symm⟩
  ·rw[List.getElem?_eq_none (by simp;omega)]at he;cases he
 refine⟨by simp[h.lenS],by simp[h.lenD],?_,?_,?_,?_,?_⟩
 ·intro x hx
  rcases List.mem_append.1 hx with hx|hx
  ·exact h.szb x hx
  ·rw[List.mem_singleton.1 hx];exact⟨p5,p4⟩
 ·intro x hx
  rcases List.mem_append.1 hx with hx|hx
  ·exact h.dpb x hx
  ·rw[List.mem_singleton.1 hx];exact⟨p6,p7⟩
 ·intro i e he
  rcases hcase i e he with⟨he,_⟩|⟨rfl,rfl⟩
  ·exact h.fine i e he
  ·exact⟨p1,p2⟩
 ·intro e he
  rcases List.mem_append.1 he with he|he
  ·exact h.few e he
  ·rw[List.mem_singleton.1 he];exact p3
 ·intro i e he
  rcases hcase i e he with⟨he,hi⟩|⟨rfl,rfl⟩
  ·have hf:=(h.fine i e he).2;rw[hmap e.ways (fun x hx=>⟨(hf x hx).2.2.1,by have:=(hf x hx).2.2.2;omega⟩),←h.sum i e he];rw[List.getD_eq_getElem?_getD,List.getD_eq_getElem?_getD,List.getElem?_append_left (by rw[h.lenS];omega)]
  ·rw[hmap e.ways (fun x hx=>⟨(p2 x hx).2.2.1,(p2 x hx).2.2.2⟩),←p8];rw[List.getD_eq_getElem?_getD,List.getElem?_append_right (by rw[h.lenS];omega),h.lenS];simp
theorem z1c{ds:List Nd}{sz dp:List Int}(h:RdInv ds sz dp):∀(f i:Nat),i<f→i<ds.length→∀(t:List UInt8) (z:Int),((gath ds f i t z).length:Int)=sz.getD i 0
 |0,i,hi,_,_,_=>absurd hi (by omega)
 |
  f+1,i,hi,hn,t,z=>by
  obtain⟨d,hd⟩:∃d,ds[i]? =some d:=⟨ds[i]'hn,List.getElem?_eq_getElem _⟩;rw[gath_s hd,h.sum i d hd,List.length_append,Int.natCast_add];have hf:=(h.fine i d hd).2;have h1:(((if d.fin then[(t,IntKind.i64.wrap (z+d.out))]else[]):List Ent).length:Int)=finN d.fin:=by
   unfold finN;split<;>rfl
  rw[h1];congr 1
  generalize d.ways=ws at*;induction ws with
  |nil=>simp
  |
   cons x r ih=>
   have hx:=hf x (List.mem_cons_self ..);rw[List.flatMap_cons,List.length_append,Int.natCast_add,List.map_cons,List.sum_cons,ih (fun y hy=>hf y (List.mem_cons_of_mem _ hy)),z1c h f _ (by omega) (by omega)];rfl
theorem zF7{ds:List Nd}{sz dp:List Int}(h:RdInv ds sz dp)(base:Int)(hds:ds≠[]):((gath ds ds.length (ds.length-1) [] base).length:Int)=sz.getD (ds.length-1) 0:=by
 have:=List.length_pos_iff.2 hds;exact z1c h _ _ (by omega) (by omega) _ _
theorem zw8{ds:List Nd}:∀(f i:Nat) (t:List UInt8) (z:Int),∀e∈gath ds f i t z,fits64 e.2
 |0,_,_,_,e,he=>by cases he
 |
  f+1,i,t,z,e,he=>by
  cases hd:ds[i]? with
  |none=>rw[gath,hd]at he;cases he
  |
   some d=>
   rw[gath_s hd]at he;rcases List.mem_append.1 he with he|he
   ·split at he
    ·rw[List.mem_singleton.1 he];show fits64 (IntKind.i64.wrap _);rw[IntKind.wrap_i64];exact⟨by omega,by omega⟩
    ·cases he
   ·obtain⟨x,_,hx⟩:=List.mem_flatMap.1 he;exact zw8 f _ _ _ e hx
def zka:Nat→List Nd→List Int→List Int→List UInt8→Int×List Nd×List Int×List UInt8
 |0,ds,sz,_,t=>(0,ds,sz,t)
 |
  k+1,ds,sz,dp,t=>if(zca ds.length sz dp t).1≠0 then((zca ds.length sz dp t).1,[],[],[])else
  zka k (ds++[(zca ds.length sz dp t).2.1]) (sz++[(zca ds.length sz dp t).2.2.1]) (dp++[(zca ds.length sz dp t).2.2.2.1]) (zca ds.length sz dp t).2.2.2.2
theorem z7e{k:Nat}{ds:List Nd}{sz dp:List Int}{t:List UInt8}(h:(zca ds.length sz dp t).1≠0):zka (k+1) ds sz dp t=((zca ds.length sz dp t).1,[],[],[]):=if_pos h
theorem z08{k:Nat}{ds:List Nd}{sz dp:List Int}{t u:List UInt8}{d:Nd}{s q:Int}(h:zca ds.length sz dp t=(0,d,s,q,u)):zka (k+1) ds sz dp t=zka k (ds++[d]) (sz++[s]) (dp++[q]) u:=by
 rw[zka,h];exact if_neg (by simp)
def zy0(t:List UInt8)(v base:Int)(r:Int×List Nd×List Int×List UInt8):Int×List Nd×Int×Int:=
 if r.1≠0 then(r.1,[],0,0)else
 if r.2.2.2≠[]then(5,[],0,0)else
 if rightE (allE r.2.1 base)≠0∨buildS (allE r.2.1 base)≠⟨t.toArray⟩then(3,[],0,0)else
 (0,r.2.1,base,if 0<v then r.2.2.1.getD (v.toNat-1) 0 else 0)
def zq8(t:List UInt8):Int×List Nd×Int×Int:=
 if(za3 t).2.1≠0 then((za3 t).2.1,[],0,0)else
 if(za3 (za3 t).2.2).2.1≠0 then((za3 (za3 t).2.2).2.1,[],0,0)else
 zy0 t (za3 t).1 (za3 (za3 t).2.2).1 (zka (za3 t).1.toNat [] [] [] (za3 (za3 t).2.2).2.2)
theorem zHh{t:List UInt8}{v base e:Int}{r:List Nd×List Int×List UInt8}(h:e≠0):zy0 t v base (e,r)=(e,[],0,0):=if_pos h
theorem zHg{t:List UInt8}{v base:Int}{ds:List Nd}{sz:List Int}{u:List UInt8}(h:u≠[]):zy0 t v base (0,ds,sz,u)=(5,[],0,0):=if_pos h
theorem zHf{t:List UInt8}{v base:Int}{ds:List Nd}{sz:List Int}(h:rightE (allE ds base)≠0∨buildS (allE ds base)≠⟨t.toArray⟩):zy0 t v base (0,ds,sz,[])=(3,[],0,0):=if_pos h
theorem z81{t:List UInt8}{v base:Int}{ds:List Nd}{sz:List Int}(h:¬(rightE (allE ds base)≠0∨buildS (allE ds base)≠⟨t.toArray⟩)):zy0 t v base (0,ds,sz,[])=(0,ds,base,if 0<v then sz.getD (v.toNat-1) 0 else 0):=if_neg h
theorem zHk{t t2:List UInt8}{v e:Int}(h:za3 t=(v,e,t2))(he:e≠0):zq8 t=(e,[],0,0):=by
 unfold zq8;rw[h];exact if_pos he
theorem zHj{t t2 t3:List UInt8}{v v3 e:Int}(h:za3 t=(v,0,t2))(h3:za3 t2=(v3,e,t3))(he:e≠0):zq8 t=(e,[],0,0):=by
 unfold zq8;rw[h];simp only
 rw[if_neg (by simp),h3];exact if_pos he
theorem zHi{t t2 t3:List UInt8}{v v3:Int}(h:za3 t=(v,0,t2))(h3:za3 t2=(v3,0,t3)):zq8 t=zy0 t v v3 (zka v.toNat [] [] [] t3):=by
 unfold zq8;rw[h];simp only
 rw[if_neg (by simp),h3];exact if_neg (by simp)
end F
namespace F
open Go.RowKit
def digits(fl:Bool)(t:List UInt8)(k:Nat):List Int:=(List.range k).map fun i=>((zdg fl (zac t (i+1)):Nat):Int)
theorem znf:∀(k x:Nat),1≤k→x<256^k→x<18446744073709551616→szN x≤k
 |0,x,h,_,_=>by omega
 |
  k+1,x,_,h,hx=>by
  rcases Nat.lt_or_ge x 256 with h1|h1
  ·rw[z68 h1];omega
  ·rw[z69 h1 hx];rcases Nat.eq_zero_or_pos k with h0|h0
   ·subst h0;simp at h
    omega
   ·have:=znf k (x/256) h0 (by rw[Nat.pow_succ]at h;omega) (by omega);omega
theorem zng:∀(k x:Nat),256^k≤x→x<18446744073709551616→k+1≤szN x
 |0,x,_,_=>zt3 x
 |
  k+1,x,h,hx=>by
  have h1:256≤x:=by
   have:0<256^k:=Nat.pow_pos (by omega);rw[Nat.pow_succ]at h;omega
  rw[z69 h1 hx];have:=zng k (x/256) (by rw[Nat.pow_succ]at h;omega) (by omega);omega
theorem zui(fl:Bool)(t:List UInt8):∀k,(zdg fl (zac t 1)=0→accN fl t (k+1)<256^k)∧(zdg fl (zac t 1)≠0→256^k≤accN fl t (k+1))
 |
  0=>by
  simp only[accN,Nat.zero_mul,Nat.zero_add,Nat.pow_zero];omega
 |
  k+1=>by
  obtain⟨h1,h2⟩:=zui fl t k;have hc:=zn9 fl (zfj t (k+2));have e:accN fl t (k+2)=accN fl t (k+1)*256+zdg fl (zac t (k+2)):=rfl;rw[e,Nat.pow_succ];generalize 256^k=M at*;generalize accN fl t (k+1)=X at*;exact⟨fun h=>by have:=h1 h;omega,fun h=>by have:=h2 h;omega⟩
theorem zH1(fl:Bool)(t:List UInt8){k:Nat}(h1:1≤k)(h8:k≤8):(szN (accN fl t k)=k↔¬(1<k∧zdg fl (zac t 1)=0))∧szN (accN fl t k)≤k:=by
 obtain⟨j,rfl⟩:∃j,k=j+1:=⟨k-1,by omega⟩;have ha:=zm9 fl t (j+1);have hx:accN fl t (j+1)<18446744073709551616:=Nat.lt_of_lt_of_le ha (Nat.le_trans (Nat.pow_le_pow_right (by omega) h8) (by decide));have hle:=znf (j+1) _ (by omega) ha hx;refine⟨⟨fun h=>?_,fun h=>?_⟩,hle⟩
 ·rintro⟨h2,h3⟩;have:=znf j _ (by omega) ((zui fl t j).1 h3) hx;omega
 ·by_cases h3:zdg fl (zac t 1)=0
  ·have hj:j=0:=by
    rcases Nat.eq_zero_or_pos j with h0|h0
    ·exact h0
    ·exact absurd ⟨by omega,h3⟩ h
   subst hj;have:=zt3 (accN fl t (0+1));omega
  ·have:=zng j _ ((zui fl t j).2 h3) hx;omega
end F
namespace F
open Go.RowKit Go.Maps
def by8(zs:List Int):List UInt8:=zs.map fun n=>UInt8.ofNat n.toNat
theorem zdd(a b:List Int):by8 (a++b)=by8 a++by8 b:=List.map_append ..
theorem by8_length(a:List Int):(by8 a).length=a.length:=List.length_map ..
theorem zAi:∀(K x k:Nat),k<K→(beZ K x)[k]? =some ((x/256^(K-1-k)%256:Nat):Int)
 |0,_,_,h=>absurd h (by omega)
 |
  K+1,x,0,_=>by
  rw[beZ,List.getElem?_cons_zero];rfl
 |
  K+1,x,k+1,h=>by
  rw[beZ,List.getElem?_cons_succ,zAi K x k (by omega),show K+1-1-(k+1)=K-1-k by omega]
theorem zAd(h0:Int)(K x k:Nat)(r:List UInt8)(hk:k<K):zac (by8 (h0::beZ K x)++r) (k+1)=x/256^(K-1-k)%256:=by
 unfold zac by8;rw[List.getD_eq_getElem?_getD,List.map_cons,List.cons_append,List.getElem?_cons_succ,List.getElem?_append_left (by rw[List.length_map,zf9];exact hk),List.getElem?_map,zAi K x k hk];have hy:x/256^(K-1-k)%256<256:=Nat.mod_lt _ (by omega);generalize x/256^(K-1-k)%256=y at*;simp
 omega
theorem z2j(h0:Int)(K x:Nat)(hx:x<256^K)(r:List UInt8):∀k,k≤K→accN false (by8 (h0::beZ K x)++r) k=x/256^(K-k)
 |
  0,_=>by
  rw[accN,Nat.sub_zero,Nat.div_eq_of_lt hx]
 |
  k+1,hk=>by
  rw[accN,z2j h0 K x hx r k (by omega),zAd h0 K x k r (by omega)];have e:K-k=(K-1-k)+1:=by omega
  have e2:K-(k+1)=K-1-k:=by omega
  rw[e,e2,Nat.pow_succ,←Nat.div_div_eq_div_mul];generalize x/256^(K-1-k)=y;show y/256*256+y%256=y;omega
theorem zK3{x:Nat}(hx:x<18446744073709551616):x<256^szN x:=by
 rcases Nat.lt_or_ge x (256^szN x)with h|h
 ·exact h
 ·have:=zng _ x h hx;omega
theorem zCh{z:Int}(h:zbd z)(r:List UInt8):numR (by8 (numI z)++r)=(z,((numI z).length:Int),0):=by
 obtain⟨h0,h1⟩:=h;obtain⟨n,rfl⟩:=Int.eq_ofNat_of_zero_le h0;unfold numI numZ;rw[Int.toNat_natCast];by_cases hn:n≤111
 ·rw[if_pos hn];have hb:zac (by8 [((128+n:Nat):Int)]++r) 0=128+n:=by
   unfold zac by8;simp
   omega
  unfold numR;rw[if_neg (by simp[by8])];simp only[hb];rw[if_pos (by omega)];simp
  omega
 ·rw[if_neg hn];obtain⟨x,hx⟩:∃x,n-112=x:=⟨_,rfl⟩;rw[hx];have hx64:x<18446744073709551616:=by omega
  have h8:szN x≤8:=zzc (by omega);have hp:=zt3 x;obtain⟨K,hK⟩:∃K,szN x=K:=⟨_,rfl⟩;have hlt:=zK3 hx64;rw[hK]at h8 hp hlt⊢;obtain⟨t,ht⟩:∃t,by8 (((239+K:Nat):Int)::beZ K x)++r=t:=⟨_,rfl⟩;have hb:zac t 0=239+K:=by
   rw[←ht];unfold zac by8;simp
   omega
  have hacc:accN false t K=x:=by
   rw[←ht,z2j _ K x hlt r K (Nat.le_refl _),Nat.sub_self,Nat.pow_zero,Nat.div_one]
  have hl:K<t.length:=by
   rw[←ht,List.length_append,by8_length,List.length_cons,zf9];omega
  have hs:=(zH1 false t hp h8).1;rw[hacc]at hs;have hs:=hs.1 hK;rw[ht];unfold numR;rw[if_neg (by intro e;rw[e]at hl;simp at hl)];simp only[hb];rw[if_neg (by omega),if_neg (by omega)];have hf:decide (239+K<16)=false:=decide_eq_false (by omega);have hk:(if 239+K<16 then 16-(239+K)else 239+K-239)=K:=by rw[if_neg (by omega)];omega
  rw[hf,hk,if_neg (by omega),if_neg hs,hacc,if_pos (by omega),if_neg (by omega),List.length_cons,zf9];refine Prod.ext ?_ (Prod.ext ?_ rfl)
  ·show(x:Int)+112=(n:Int);omega
  ·show(K:Int)+1=((K+1:Nat):Int);omega
theorem zxj{z:Int}(h:zbd z)(r:List UInt8):zb7 (by8 (numI z)++r)=(z,0,r):=by
 unfold zb7;rw[zCh h r,if_pos rfl];simp only[Int.toNat_natCast];rw[List.drop_left' (by rw[by8_length])]
theorem ze6{z:Int}(h:zbd z)(r:List UInt8):za3 (by8 (numI z)++r)=(z,0,r):=by
 unfold za3;rw[zxj h r];rw[if_neg (by intro e;have:=h.1;have:=e.2;simp at this;omega)]
theorem zHd{zs:List Int}(h:∀z∈zs,zbd z)(acc:List Int)(r:List UInt8):rdN zs.length acc (by8 (zc5 zs)++r)=(0,acc++zs,r):=by
 induction zs generalizing acc with
 |nil=>simp[rdN,zc5,by8]
 |
  cons z zs ih=>
  have hz:=h z (List.mem_cons_self ..);have e:by8 (zc5 (z::zs))++r=by8 (numI z)++(by8 (zc5 zs)++r):=by
   show by8 (numI z++zc5 zs)++r=_;rw[zdd,List.append_assoc]
  have e1:=ze6 hz (by8 (zc5 zs)++r);rw[e,List.length_cons,zvb _ _ (by rw[e1]),e1,ih (fun x hx=>h x (List.mem_cons_of_mem _ hx)),List.append_assoc];rfl
def zl4(sz dp:List Int)(d:Int)(x:Int×Int×Int):Int:=if 0<sz.getD x.2.2.toNat 0 then max d (dp.getD x.2.2.toNat 0+1)else d
theorem zxk{n:Nat}{sz dp:List Int}:∀(more:Ways) (ws:Ways) (s d:Int) (r:List UInt8),(∀x∈more,WayN n x)→n≤1125899906842624→
  rdW n sz dp more.length ws s d (by8 (more.flatMap wayZ)++r)=(0,ws++more,s+(more.map (sizeOf sz)).sum,more.foldl (zl4 sz dp) d,r)
 |[],ws,s,d,r,_,_=>by simp[rdW,by8]
 |
  (a,b,c)::more,ws,s,d,r,h,hn=>by
  obtain⟨⟨h1,h2⟩,h3,h4,h5⟩:=h (a,b,c) (List.mem_cons_self ..);simp only at h1 h2 h3 h4 h5;have e:by8 (((a,b,c)::more).flatMap wayZ)++r=by8 (zc5 [a,b,c])++(by8 (more.flatMap wayZ)++r):=by
   rw[List.flatMap_cons,zdd,List.append_assoc];rfl
  have hr:=zHd (zs:=[a,b,c]) (fun z hz=>by
   simp only[List.mem_cons,List.not_mem_nil,or_false]at hz;rcases hz with rfl|rfl|rfl
   ·exact⟨h1,by omega⟩
   ·exact h3
   ·exact⟨h4,by omega⟩) [] (by8 (more.flatMap wayZ)++r)
  rw[List.nil_append,List.length_cons,List.length_cons,List.length_singleton]at hr;obtain⟨q,rfl⟩:=Int.eq_ofNat_of_zero_le h4;rw[e,List.length_cons,z7c hr h2 (by omega),zxk more _ _ _ r (fun x hx=>h x (List.mem_cons_of_mem _ hx)) hn,List.append_assoc,List.map_cons,List.sum_cons,List.foldl_cons];have e1:sizeOf sz (a,b,(q:Int))=sz.getD q 0:=rfl;have e2:zl4 sz dp d (a,b,(q:Int))=if 0<sz.getD q 0 then max d (dp.getD q 0+1)else d:=rfl
  rw[e1,e2,Int.add_assoc];rfl
theorem z3j{n:Nat}{sz dp:List Int}{d:Nd}(hn:n≤1125899906842624)(ho:zbd d.out)(hf:d.fin=false→d.out=0)(hw:∀x∈d.ways,WayN n x)(hl:d.ways.length≤256)
  (hs:finN d.fin+(d.ways.map (sizeOf sz)).sum≤65536) (hd:d.ways.foldl (zl4 sz dp) 0≤64) (r:List UInt8):
  zca n sz dp (by8 (zb0 d)++r)=(0,d,finN d.fin+(d.ways.map (sizeOf sz)).sum,d.ways.foldl (zl4 sz dp) 0,r):=by
 obtain⟨fin,out,ways⟩:=d;simp only at ho hf hw hl hs hd⊢;have hh:zbd (zh7 ⟨fin,out,ways⟩):=by
  unfold zh7;simp only
  constructor<;>split<;>omega
 cases fin with
 |
  true=>
  have e:by8 (zb0 ⟨true,out,ways⟩)++r=by8 (numI (zh7 ⟨true,out,ways⟩))++(by8 (numI out)++(by8 (ways.flatMap wayZ)++r)):=by
   unfold zb0;rw[if_pos rfl,zdd,zdd,List.append_assoc,List.append_assoc]
  have hz:zh7 ⟨true,out,ways⟩=2*(ways.length:Int)+1:=rfl;have r1:=ze6 hh (by8 (numI out)++(by8 (ways.flatMap wayZ)++r));have r2:=ze6 ho (by8 (ways.flatMap wayZ)++r);rw[hz]at r1 e;have hk:((2*(ways.length:Int)+1)/2).toNat=ways.length:=by omega
  rw[e,ztg (by rw[r1]) (by rw[r1];simp only;omega) (by rw[r1];simp only;omega) (by rw[r1,r2]),r1];simp only[r2,hk];rw[zxk ways [] 1 0 r hw hn];have hs':(1:Int)+(ways.map (sizeOf sz)).sum≤65536:=hs;rw[zti (by omega)];rfl
 |
  false=>
  have h0:=hf rfl;subst h0;have e:by8 (zb0 ⟨false,0,ways⟩)++r=by8 (numI (zh7 ⟨false,0,ways⟩))++(by8 (ways.flatMap wayZ)++r):=by
   unfold zb0;rw[if_neg (by simp),List.nil_append,zdd,List.append_assoc]
  have hz:zh7 ⟨false,0,ways⟩=2*(ways.length:Int):=by unfold zh7;simp
  have r1:=ze6 hh (by8 (ways.flatMap wayZ)++r);rw[hz]at r1 e;have hk:((2*(ways.length:Int))/2).toNat=ways.length:=by omega
  rw[e,ztf (by rw[r1]) (by rw[r1];simp only;omega) (by rw[r1];simp only;omega),r1];simp only[hk];rw[zxk ways [] 0 0 r hw hn];have hs':(0:Int)+(ways.map (sizeOf sz)).sum≤65536:=hs;rw[zti (by omega)];rfl
end F
namespace F
open Go.RowKit
def valD(l:List UInt8):Nat:=l.foldl (fun a c=>a*10+(c.toNat-48)) 0
theorem znd:∀u:Nat,valD (Lib.decDigits u)=u:=by
 intro u
 induction u using Nat.strongRecOn with
 |
  ind u ih=>
  rw[Lib.decDigits];split
  ·rename_i h
   unfold valD;simp
   omega
  ·rename_i h
   have h1:=ih (u/10) (by omega);unfold valD at h1⊢;rw[List.foldl_append,h1];simp
   omega
theorem zuc{u v:Nat}(h:Lib.decDigits u=Lib.decDigits v):u=v:=by
 rw[←znd u,h,znd]
theorem zpc:∀u:Nat,∀c∈Lib.decDigits u,48≤c.toNat∧c.toNat≤57:=by
 intro u
 induction u using Nat.strongRecOn with
 |
  ind u ih=>
  rw[Lib.decDigits];split
  ·rename_i h
   intro c hc
   rw[List.mem_singleton.1 hc];simp
   omega
  ·rename_i h
   intro c hc
   rcases List.mem_append.1 hc with hc|hc
   ·exact ih (u/10) (by omega) c hc
   ·rw[List.mem_singleton.1 hc];simp
    omega
theorem zGc(u:Nat):Lib.decDigits u≠[]:=by
 rw[Lib.decDigits];split<;>simp
theorem zu8{a b:Int}(h:Lib.itoa a=Lib.itoa b):a=b:=by
 have key:∀u v:Nat,Lib.decDigits u≠45::Lib.decDigits v:=by
  intro u v e
  have:=zpc u 45 (by rw[e];exact List.mem_cons_self ..);simp at this
 unfold Lib.itoa at h;by_cases h1:a<0<;>by_cases h2:b<0
 ·rw[if_pos h1,if_pos h2]at h;injection h with _ h
  have:=zuc h;omega
 ·rw[if_pos h1,if_neg h2]at h;exact absurd h.symm (key _ _)
 ·rw[if_neg h1,if_pos h2]at h;exact absurd h (key _ _)
 ·rw[if_neg h1,if_neg h2]at h;have:=zuc h;omega
theorem z97(a:Int):∀c∈Lib.itoa a,c≠32:=by
 intro c hc e
 subst e;unfold Lib.itoa at hc;split at hc
 ·rcases List.mem_cons.1 hc with e|hc
  ·exact absurd e (by decide)
  ·have:=zpc _ _ hc;simp at this
 ·have:=zpc _ _ hc;simp at this
def Bl(l:List UInt8):Prop:=l=[]∨∃r,l=32::r
theorem z67{l r:List UInt8}(h:∀c∈l,c≠32)(hr:Bl r):(l++r).takeWhile (fun c=>decide (c≠32))=l:=by
 induction l with
 |
  nil=>
  rcases hr with rfl|⟨r,rfl⟩
  ·rfl
  ·rfl
 |
  cons c l ih=>
  rw[List.cons_append,List.takeWhile_cons,if_pos (by simpa using h c (List.mem_cons_self ..)),ih fun x hx=>h x (List.mem_cons_of_mem _ hx)]
theorem zn8{a b:Int}{x y:List UInt8}(hx:Bl x)(hy:Bl y)(h:Lib.itoa a++x=Lib.itoa b++y):a=b∧x=y:=by
 have h1:=z67 (z97 a) hx;have h2:=z67 (z97 b) hy;rw[h]at h1;have e:Lib.itoa a=Lib.itoa b:=h1.symm.trans h2;have:=zu8 e;subst this;exact⟨rfl,List.append_cancel_left h⟩
theorem zsk(l:List (Int×Int×Int)):Bl (l.flatMap wayT):=by
 cases l with
 |nil=>exact .inl rfl
 |cons x r=>exact .inr ⟨_,by rw[List.flatMap_cons];unfold wayT;simp only[List.cons_append];rfl⟩
theorem zn1(a b c:Int)(r:List UInt8):wayT (a,b,c)++r=32::(Lib.itoa a++(32::(Lib.itoa b++(32::(Lib.itoa c++r))))):=by
 unfold wayT;simp
theorem zz9:∀l m:List (Int×Int×Int),l.flatMap wayT=m.flatMap wayT→l=m
 |[],[],_=>rfl
 |
  [],(a,b,c)::m,h=>by
  rw[List.flatMap_cons,zn1]at h;cases h
 |
  (a,b,c)::l,[],h=>by
  rw[List.flatMap_cons,zn1]at h;cases h
 |
  (a,b,c)::l,(a',b',c')::m,h=>by
  rw[List.flatMap_cons,List.flatMap_cons,zn1,zn1]at h;injection h with _ h1
  obtain⟨e1,h2⟩:=zn8 (.inr ⟨_,rfl⟩) (.inr ⟨_,rfl⟩) h1;injection h2 with _ h3
  obtain⟨e2,h4⟩:=zn8 (.inr ⟨_,rfl⟩) (.inr ⟨_,rfl⟩) h3;injection h4 with _ h5
  obtain⟨e3,h6⟩:=zn8 (zsk l) (zsk m) h5;rw[zz9 l m h6,e1,e2,e3]
theorem zH5{d e:Nd}(h:sgn d=sgn e):d=e:=by
 obtain⟨f,o,l⟩:=d;obtain⟨g,p,m⟩:=e;unfold sgn at h;simp only[List.append_assoc]at h;have hf:f=g∧Lib.itoa o++l.flatMap wayT=Lib.itoa p++m.flatMap wayT:=by
  have h1:Lib.formatBool true=[116,114,117,101]:=by decide+kernel
  have h2:Lib.formatBool false=[102,97,108,115,101]:=by decide+kernel
  cases f<;>cases g
  ·exact⟨rfl,List.append_cancel_left h⟩
  ·rw[h1,h2]at h;cases h
  ·rw[h1,h2]at h;cases h
  ·exact⟨rfl,List.append_cancel_left h⟩
 obtain⟨e1,h1⟩:=hf;obtain⟨e2,h2⟩:=zn8 (zsk l) (zsk m) h1;rw[zz9 l m h2,e1,e2]
end F
end Go.Proofs.YtaociahafamncaaGreatDoor
