/- Folded. -/
import Derived.Test.YtaociahafamncaaGreatDoorHM30
set_option maxRecDepth 100000
set_option maxHeartbeats 40000000
namespace Go.Proofs.YtaociahafamncaaGreatDoor
section
open Go.RowKit
theorem z7g{W:World}{b b' e s n:Nat}{v:Value}{xs:List Value}(h:W.ownsRow b e s v n xs)(hb:∀q,v.ownBlock=some q→b'≤q):W.ownsRow b' e s v n xs:=by
 refine⟨h.1,?_⟩;rcases h.2 with hn|⟨g,cap,cur,rfl,hg,rest⟩
 ·exact .inl hn
 ·exact .inr ⟨g,cap,cur,rfl,hb g rfl,rest⟩
theorem zh2{a b c:World}{r:Option Nat}{r':Option Nat}(h:a.grownBy b r)(h':b.grownBy c r')(hr:∀q,r'=some q→some q=r∨a.heap.size≤q):a.grownBy c r:=
 ⟨h'.os.trans h.os,h'.tape.trans h.tape,h'.output.trans h.output,Nat.le_trans h.size h'.size,fun k hk hne=>(h'.block k (Nat.lt_of_lt_of_le hk h.size) (fun e=>by
  rcases hr k e.symm with h1|h1
  ·exact hne h1
  ·omega)).trans (h.block k hk hne)⟩
theorem zmf{a b:World}{B:Nat}{r:Option Nat}(h:a.grownBy b r)(hB:B≤a.heap.size)(hr:∀q,r=some q→B≤q):Below B a b:=(Below.refl B a).grown h hB hr
structure FrR(w W:World)(v0:Option Nat)(n:Nat)(L:List Bool)(O F:Rw):Prop where
 gb:w.grownBy W v0
 llen:L.length=n
 seen:W.ownsRow w.heap.size 4 1 (.slice (some ⟨w.heap.size,0,none⟩) n n) n (L.map .bool)
 fam:Fam W 0 [O,F]
 olo:∀q,O.val.ownBlock=some q→w.heap.size≤q
 flo:∀q,F.val.ownBlock=some q→some q=v0∨w.heap.size≤q
section
variable {w W W':World}{v0:Option Nat}{n:Nat}{L:List Bool}{O F:Rw}
theorem FrR.ro(h:FrR w W v0 n L O F):O.own W 0:=h.fam.own O (List.mem_cons_self ..)
theorem FrR.rf(h:FrR w W v0 n L O F):F.own W 0:=h.fam.own F (by simp)
theorem FrR.outAt(h:FrR w W v0 n L O F){t:Nat}{b:Bool}(hf:L[t]? =some b):W.cell? ⟨w.heap.size,t,none⟩=some (.bool b):=zak h.seen (by rw[List.getElem?_map,hf];rfl)
theorem FrR.setO(h:FrR w W v0 n L O F){t:Nat}:FrR w (W.setCell ⟨w.heap.size,t,none⟩ (.bool true)) v0 n (L.set t true) O F∧W.frozen? ⟨w.heap.size,t,none⟩=false∧w.heap.size<W.heap.size:=by
 obtain⟨q1,q2,cs,q3⟩:=zb3 h.seen;refine⟨⟨zh2 h.gb (za7 _ _ _) (fun q hq=>.inr (by injection hq with hq;have hq:w.heap.size=q:=hq;omega)),by rw[List.length_set];exact h.llen,?_,h.fam.other q3 (by decide),h.olo,h.flo⟩,free_at q3 _,q2⟩;rw[List.map_set];exact zf0 h.seen
theorem FrR.growO(h:FrR w W v0 n L O F){y:Rw}(hg:W.grownBy W' O.val.ownBlock)(hy:y.own W' 0)(hm:y.val.ownBlock=O.val.ownBlock∨∃g,y.val.ownBlock=some g∧W.heap.size≤g):FrR w W' v0 n L y F:=
 ⟨zh2 h.gb hg (fun q hq=>.inr (h.olo q hq)),h.llen,h.seen.kept hg (za4 h.ro h.seen (by decide)),h.fam.set (t:=0) rfl hg hy hm,fun q hq=>by
  rcases hm with h1|⟨g,h1,h2⟩
  ·exact h.olo q (by rw[←h1];exact hq)
  ·rw[h1]at hq;injection hq with hq
   have:=h.gb.size;omega,h.flo⟩
theorem FrR.growF(h:FrR w W v0 n L O F){y:Rw}(hg:W.grownBy W' F.val.ownBlock)(hy:y.own W' 0)(hm:y.val.ownBlock=F.val.ownBlock∨∃g,y.val.ownBlock=some g∧W.heap.size≤g):FrR w W' v0 n L O y:=
 ⟨zh2 h.gb hg (fun q hq=>h.flo q hq),h.llen,h.seen.kept hg (za4 h.rf h.seen (by decide)),h.fam.set (t:=1) rfl hg hy hm,h.olo,fun q hq=>by
  rcases hm with h1|⟨g,h1,h2⟩
  ·exact h.flo q (by rw[←h1];exact hq)
  ·rw[h1]at hq;injection hq with hq
   have:=h.gb.size;exact .inr (by omega)⟩
theorem FrR.cutF(h:FrR w W v0 n L O F){A:Option Addr}{c:Nat}{l:List Int}{x:Int}(hT:F=⟨A,c,l++[x]⟩):FrR w W v0 n L O ⟨A,c,l⟩:=by
 subst hT;have hr:=h.rf;have hv:(Rw.val ⟨A,c,l⟩).ownBlock=(Rw.val ⟨A,c,l++[x]⟩).ownBlock:=by cases A<;>rfl
 refine⟨h.gb,h.llen,h.seen,⟨fun z hz=>?_,?_⟩,h.olo,fun q hq=>h.flo q (by rw[←hv];exact hq)⟩
 ·rcases List.mem_cons.1 hz with rfl|hz
  ·exact h.ro
  ·rw[List.mem_singleton.1 hz];have hr':W.ownsRow 0 3 1 (.slice A (l++[x]).length c) (l++[x]).length ((l++[x]).map (.int .i64)):=hr;have:=z7h (k:=l.length) hr' (by simp) (fun e=>by
    rcases hr'.2 with⟨_,h0⟩|⟨g,_,_,hv,_⟩
    ·simp at h0
    ·injection hv with hv _ _
     rw[e]at hv;cases hv)
   rw[Nat.mul_one,List.map_append,List.take_left' (by simp)]at this;exact this
 ·have h1:=(List.pairwise_cons.1 h.fam.ap).1 _ (List.mem_singleton.2 rfl);refine List.pairwise_cons.2 ⟨fun z hz=>?_,List.pairwise_singleton _ _⟩;rw[List.mem_singleton.1 hz];unfold Ap at h1⊢;rw[hv];exact h1
end
theorem FrR.start{w:World}{n fb p cf:Nat}{Af:Option Addr}{F0:List Int}(hn:n≤20000)(h:w.ownsRow fb 3 1 (.slice Af p cf) p (F0.map (.int .i64))):
  FrR w ((w.alloc (.cells (madeCells #[.bool false] n) 4)).alloc (.cells #[] 3)) (Value.slice Af p cf).ownBlock n (List.replicate n false) ⟨some ⟨w.heap.size+1,0,none⟩,0,[]⟩ ⟨Af,cf,F0⟩:=by
 have hp:F0.length=p:=by simpa using h.1
 have hv:(Rw.val ⟨Af,cf,F0⟩)=.slice Af p cf:=by show Value.slice _ _ _=_;rw[hp]
 have b0:=bnew (za0 w) (.cells (madeCells #[.bool false] n) 4);refine⟨World.grownBy.trans (World.grownBy_alloc w _ _) (World.grownBy_alloc _ _ _),by simp,?_,⟨fun z hz=>?_,?_⟩,fun q hq=>?_,fun q hq=>?_⟩
 ·rw[List.map_replicate];exact za2 (zgj w (.bool false) n (by omega) 4 rfl (Nat.le_refl _)) (bnew (za0 _) _)
 ·rcases List.mem_cons.1 hz with rfl|hz
  ·exact zc1 (w.alloc (.cells (madeCells #[.bool false] n) 4)) 3 1 (by simp) (Nat.zero_le _)
  ·rw[List.mem_singleton.1 hz];show World.ownsRow _ _ _ _ (Rw.val _) _ _;rw[hv];show World.ownsRow _ _ _ _ _ F0.length _;rw[hp];exact own_lower (za2 h (bnew (bnew (za0 w) _) _)) (Nat.zero_le _)
 ·refine List.pairwise_cons.2 ⟨fun z hz=>?_,List.pairwise_singleton _ _⟩;rw[List.mem_singleton.1 hz];cases hb:(Rw.val ⟨Af,cf,F0⟩).ownBlock with
  |none=>exact .inr (.inl hb)
  |
   some q=>
   refine .inr (.inr ?_);rw[hb];rw[hv]at hb;have:=(h.lt q hb).2;show some (w.heap.size+1)≠some q;intro e
   injection e with e
   omega
 ·have:some (w.heap.size+1)=some q:=hq;injection this with this
  omega
 ·rw[hv]at hq;exact .inl hq.symm
theorem z1e(w:World)(B:Nat)(hB:B≤w.heap.size)(A:Option Addr)(n c:Nat)(H:List Lsh)(h:LoIn w B A n c H)(hn:n≤20000)(hg:LGood (H.map (·.d)))(fb:Nat)(hfb:B≤fb)(Af:Option Addr)(p cf:Nat)(F0:List Int)(hown:w.ownsRow fb 3 1 (.slice Af p cf) p (F0.map (.int .i64)))(hp:p≤1099511627776)(hF:∀y∈F0,0≤y∧y<(n:Int)):
  Calls Tryz.prog 78 #[.slice A n c,.slice Af p cf] w fun e w'=>∃(A':Option Addr) (q c':Nat),e=.returned (.slice A' q c')∧w'.ownsRow w.heap.size 3 1 (.slice A' q c') q ((setL n (Clo (H.map (·.d)) fun x=>((x:Nat):Int)∈F0)).map (.int .i64))∧w.grownBy w' (Value.slice Af p cf).ownBlock:=by
 have HS:=Lib.hid h;have hlen:=h.len;have HST:=Lib.hid (FrR.start hn hown);have hpl:F0.length=p:=by simpa using hown.1
 have HV0:Hid (∀q,(Value.slice Af p cf).ownBlock=some q→B≤q):=fun q hq=>Nat.le_trans hfb (hown.lt q hq).1
 obtain⟨l,hl⟩:∃l,H.map (·.d)=l:=⟨_,rfl⟩;have HD:=Lib.hid hl;rw[hl]at hg;rw[hl];have HG:=Lib.hid hg;have hll:l.length=n:=by rw[←hl,List.length_map];exact hlen
 have HLL:=Lib.hid hll;have HFS:Hid (FreP l F0 (List.replicate n false) [] F0):=by
  rw[←hll];exact FreP.start fun y hy=>⟨y.toNat,by have:=hF y hy;omega,by have:=hF y hy;omega⟩
 have HFR:Hid (∀s∈l,s.free.length≤2097152):=fun s hs=>by
  rw[←hl]at hs;obtain⟨x,hx,rfl⟩:=List.mem_map.1 hs;exact(h.fr x hx).2.2.1
 have HMU:Hid (mu l (List.replicate n false)+F0.length≤2000000000000):=by
  have h1:=zKb (L:=List.replicate n false) HFR.out;rw[hll]at h1;show _≤_;omega
 have HPL:=Lib.hid hpl;have i0:(0:Int)≤(n:Int):=by omega
 have m2:=fun w=>zob n (by omega) w
 generalize(Value.slice Af p cf).ownBlock=v0 at*;clear h hg hown hl hll hpl hF;go_enter Tryz.func78,Tryz.ntmps78
 go_wp2_with fail;clear m2;go_loopg [1,6] (mu l (List.replicate n false)+F0.length) (fun gk fv ov wr=>∃(L:List Bool) (Af:Option Addr) (p cf:Nat) (F:List Int) (Ao:Option Addr) (q co:Nat) (O:List Int),fv=.slice Af p cf∧ov=.slice Ao q co∧Hid (p=F.length∧q=O.length∧FrR w wr v0 n L ⟨Ao,co,O⟩ ⟨Af,cf,F⟩)∧Hid (FreP l F0 L O F∧mu l L+F.length≤gk∧mu l L+F.length≤2000000000000))
 case atStart=>exact⟨_,Af,p,cf,F0,_,0,0,[],rfl,rfl,⟨HPL.out.symm,rfl,HST.out⟩,HFS.out,Nat.le_refl _,HMU.out⟩
 case round=>
  clear HST HFS HMU HPL;obtain⟨L,Af,p,cf,F,Ao,q,co,O,rfl,rfl,HR,HP⟩:=hrel;by_cases hp0:p=0
  ·subst hp0;have hF:F=[]:=List.eq_nil_of_length_eq_zero HR.out.1.symm;have HOR:Hid (wr.ownsRow w.heap.size 3 1 (.slice Ao q co) q (O.map (.int .i64))):=by
    rw[HR.out.2.1];exact z7g HR.out.2.2.ro HR.out.2.2.olo
   have hq:q≤n:=by rw[HR.out.2.1,←HLL.out];exact HP.out.1.few
   have HLS:Hid (sorted O=setL n (Clo l fun x=>((x:Nat):Int)∈F0)):=by
    have h1:=HP.out.1;rw[hF]at h1;rw[←HLL.out];exact h1.last
   clear HP hF;go_wp2_with fail;refine(zze HOR.out (by omega)).mono ?_;rintro e w7 ⟨rfl,hown7,hg7⟩;have HO7:=Lib.hid hown7;have HG7:=Lib.hid hg7;clear hown7 hg7;go_wp2_with fail;go_ret;exact⟨Ao,q,co,rfl,by rw[←HLS.out];exact HO7.out,zh2 HR.out.2.2.gb HG7.out fun r hr=>.inr (HOR.out.lt r hr).1⟩
  ·obtain⟨p',rfl⟩:∃q,p=q+1:=⟨p-1,by omega⟩;have hpb:p'+1≤2000000000000:=by have:=HP.out.2.2;rw[HR.out.1];omega
   obtain⟨F',y,rfl⟩:∃F' y,F=F'++[y]:=⟨F.dropLast,F.getLast (fun e=>by have:=HR.out.1;rw[e]at this;cases this),(List.dropLast_concat_getLast _).symm⟩;have hp':p'=F'.length:=by have:=HR.out.1;rw[List.length_append,List.length_singleton]at this;omega
   have HP':=Lib.hid hp';obtain⟨x,rfl,hxl,_⟩:=HP.out.1.fin y (by simp);rw[HLL.out]at hxl;have hrow:wr.ownsRow 0 3 1 (.slice Af (p'+1) cf) (p'+1) ((F'++[(x:Int)]).map (.int .i64)):=by rw[HR.out.1];exact HR.out.2.2.rf
   obtain⟨tg,rfl,_,htl⟩:=zah hrow (by omega);have ht0:=zak (j:=p') (u:=.int .i64 (x:Int)) hrow (by rw[List.map_append,List.getElem?_append_right (by rw[List.length_map];omega),List.length_map,hp',Nat.sub_self];rfl);have htc:=(za1 hrow);have htcc:p'+1≤cf:=by
    obtain⟨A1,c1,e1,h1⟩:=htc;injection e1 with _ _ e1
    omega
   have HRC:=Lib.hid (HR.out.2.2.cutF rfl);obtain⟨lv,hlv⟩:∃b,L[x]? =some b:=⟨L[x]'(by rw[HRC.out.llen];exact hxl),List.getElem?_eq_getElem _⟩;have ho0:=HRC.out.outAt hlv;have hol:=(zb3 HRC.out.seen).2.1;have HQ0:=Lib.hid HR.out.2.1;have HFEW:Hid (mu l L+F'.length+1≤gk∧mu l L+F'.length≤2000000000000):=by have h1:=HP.out.2.1;have h2:=HP.out.2.2;rw[List.length_append,List.length_singleton]at h1 h2;exact⟨by omega,by omega⟩
   have HFP:=Lib.hid HP.out.1;have i1:(0:Int)≤(x:Int):=by omega
   have i2:(x:Int)<(n:Int):=by omega
   have hqo:q≤n:=by rw[HR.out.2.1,←HLL.out];exact HP.out.1.few
   have HLV:=Lib.hid hlv;clear hrow htc HP HR hp' hlv;cases lv with
   |
    true=>
    have HFN:=Lib.hid (HFP.out.skip HLV.out);go_wp2_with fail;go_roundg (mu l L+F'.length)
    case rel=>exact⟨L,_,p',cf,F',Ao,q,co,O,rfl,rfl,⟨HP'.out,HQ0.out,HRC.out⟩,HFN.out,Nat.le_refl _,HFEW.out.2⟩
    case measure=>have:=HFEW.out.1;omega
   |
    false=>
    obtain⟨X,hX⟩:∃X,H[x]? =some X:=⟨H[x]'(by omega),List.getElem?_eq_getElem _⟩;have hlx:l[x]? =some X.d:=by rw[←HD.out,List.getElem?_map,hX];rfl
    have hXm:=List.mem_of_getElem? hX;have HLK:=Lib.hid hlx;have HFN:=Lib.hid (HFP.out.take HG.out HLV.out hlx);have hmu:=zG5 hlx HLV.out;obtain⟨m,hm⟩:∃m,X.d.free.length=m:=⟨_,rfl⟩;have hm20:=(HS.out.fr X hXm).2.2.1;have hme:=(HS.out.fr X hXm).2.1;have hmn:=(HS.out.fr X hXm).2.2.2;rw[hm]at hmu hm20 hme hmn;have HMN:=Lib.hid hmn;have HML:=Lib.hid hm;have HSO:=Lib.hid (HRC.out.setO (t:=x));have hof:=HSO.out.2.1;have HBX:=Lib.hid (zmf HSO.out.1.gb hB HV0.out);have HSX:=Lib.hid (HS.out.keep HBX.out (Nat.le_refl _));obtain⟨hb,hoff,rfl,hhb,hcell⟩:=HSX.out.at_ (by omega);have s2:=(hcell x X hX).2.2;rw[hm]at s2;have HFSL:Hid (Sl (wr.setCell ⟨w.heap.size,x,none⟩ (.bool true)) B 1 X.F m (X.d.free.map (.int .i64))):=by rw[←hm];exact(HSX.out.fr X hXm).1
    have hhbw:hb<(wr.setCell ⟨w.heap.size,x,none⟩ (.bool true)).heap.size:=Nat.lt_of_lt_of_le hhb (Nat.le_trans hB HSO.out.1.gb.size);have HRO:Hid ((wr.setCell ⟨w.heap.size,x,none⟩ (.bool true)).ownsRow 0 3 1 (.slice Ao q co) q (O.map (.int .i64))):=by rw[HQ0.out];exact HSO.out.1.ro
    have HSF:=Lib.hid HSO.out.1;have HW0:Hid (w.heap.size≤wr.heap.size):=HRC.out.gb.size;clear hcell hX hlx hXm hmn hm HSO HFP HRC;have HONE:Hid (∀u∈X.d.free.map (Value.int .i64),u.oneCell'=true):=fun u hu=>by obtain⟨z,_,rfl⟩:=List.mem_map.1 hu;rfl
    have hbsz:B≤(wr.setCell ⟨w.heap.size,x,none⟩ (.bool true)).heap.size:=Nat.le_trans hB HSF.out.gb.size;go_wp2_with (first
     |(
       at_builtin;refine zab (wr.setCell ⟨w.heap.size,x,none⟩ (.bool true)) (wr.setCell ⟨w.heap.size,x,none⟩ (.bool true)) _ rfl _ _ _ rfl zf3 (.slice Ao q co) q (O.map (.int .i64)) rfl HRO.out rfl (by simp) rfl (by simp[Value.oneCell']) (by unfold maxLen;omega) (by omega) (Nat.zero_le _) (Below.refl _ _) ?_
       intro v8 w8 hown8 _ hg8 hor8
       obtain⟨A8,c8,rfl,_⟩:=za1 hown8;have hvo:(Rw.val ⟨Ao,co,O⟩)=.slice Ao q co:=by show Value.slice _ _ _=_;rw[HQ0.out]
       have HVN:Hid ((Rw.mk A8 c8 (O++[(x:Int)])).val=.slice A8 (q+1) c8):=by show Value.slice _ _ _=_;rw[List.length_append,HQ0.out];rfl
       have HR8:=Lib.hid (HSF.out.growO (y:=⟨A8,c8,O++[(x:Int)]⟩) (by rw[hvo];exact hg8) (by
        have e1:(O++[(x:Int)]).length=q+1:=by rw[List.length_append,HQ0.out];rfl
        have e2:(O++[(x:Int)]).map (Value.int .i64)=O.map (.int .i64)++[.int .i64 (x:Int)]:=by rw[List.map_append];rfl
        show World.ownsRow _ _ _ _ (.slice _ _ _) _ _;rw[e1,e2];exact hown8) (by rw[hvo,HVN.out];exact hor8))
       have hb8:=zmf hg8 hbsz (fun r hr=>Nat.le_trans hB (HSF.out.olo r (by rw[hvo];exact hr)));have s8:=(hb8.cell (p:=⟨hb,hoff+x*3+2,none⟩) hhb).trans s2;have HF8S:=Lib.hid (HFSL.out.below hb8);have hhb8:hb<w8.heap.size:=Nat.lt_of_lt_of_le hhbw hg8.size;have HF8:Hid (w8.ownsRow 0 3 1 (.slice (some ⟨tg,0,none⟩) p' cf) p' (F'.map (.int .i64))):=by rw[HP'.out];exact HR8.out.rf
       clear hown8 hg8 hor8 hb8 s2 hvo)
     |(
       at_builtin;refine zad w8 w8 rfl _ _ _ rfl zf3 (.slice (some ⟨tg,0,none⟩) p' cf) p' (F'.map (.int .i64)) rfl HF8.out (A:=X.F) (m:=m) (c:=X.e) rfl HF8S.out HMN.out HONE.out (by unfold maxLen;omega) (by omega) (Nat.zero_le _) (Below.refl _ _) ?_
       intro v9 w9 hown9 _ hg9 hor9
       obtain⟨A9,c9,rfl,_⟩:=za1 hown9;have HO9:=Lib.hid hown9;have HG9:=Lib.hid hg9;have HOR9:=Lib.hid hor9;clear hown9 hg9 hor9))
    have HVF:Hid ((Rw.mk (some ⟨tg,0,none⟩) cf F').val=.slice (some ⟨tg,0,none⟩) p' cf):=by show Value.slice _ _ _=_;rw[HP'.out]
    have HLN:Hid (p'+m=(F'++X.d.free).length):=by show _=_;rw[List.length_append,HP'.out,HML.out]
    have HVG:Hid ((Rw.mk A9 c9 (F'++X.d.free)).val=.slice A9 (p'+m) c9):=by show Value.slice _ _ _=_;rw[HLN.out]
    have HR9:=Lib.hid (HR8.out.growF (W':=w9) (y:=⟨A9,c9,F'++X.d.free⟩) (by rw[HVF.out];exact HG9.out) (by
     show World.ownsRow _ _ _ _ (.slice _ _ _) _ _;rw[←HLN.out,List.map_append];exact HO9.out) (by rw[HVF.out,HVG.out];exact HOR9.out))
    have HQN:Hid (q+1=(O++[(x:Int)]).length):=by show _=_;rw[List.length_append,HQ0.out];rfl
    have HME:Hid (mu l (L.set x true)+(F'++X.d.free).length+1≤mu l L+F'.length+1∧mu l (L.set x true)+(F'++X.d.free).length≤2000000000000):=by
     have:=HFEW.out.2;rw[←HLN.out];have:=HP'.out;exact⟨by omega,by omega⟩
    clear HO9 HG9 HOR9 HR8 HF8 HF8S s8 HSF HRO;go_wp2_with fail;go_roundg (mu l (L.set x true)+(F'++X.d.free).length)
    case rel=>exact⟨_,A9,p'+m,c9,F'++X.d.free,A8,q+1,c8,O++[(x:Int)],rfl,rfl,⟨HLN.out,HQN.out,HR9.out⟩,HFN.out,Nat.le_refl _,HME.out.2⟩
    case measure=>have:=HFEW.out.1;have:=HME.out.1;omega
end
section
open Go.RowKit
def txt(d:List St)(L:List Bool)(C:List Int)(x:Nat):List UInt8:=
 if L.getD x false then sigT (C.getD x 0) ((d.getD x (false,[])).1) (ledA (ledF L C) (d.getD x (false,[])).2)else[]
theorem z64{d:List St}{L:List Bool}{C:List Int}{x:Nat}{s:St}{c:Int}{b:Bool}(hs:d[x]? =some s)(hb:L[x]? =some b)(hc:C[x]? =some c):txt d L C x=if b then sigT c s.1 (ledA (ledF L C) s.2)else[]:=by
 unfold txt;rw[List.getD_eq_getElem?_getD,List.getD_eq_getElem?_getD,List.getD_eq_getElem?_getD,hs,hb,hc];rfl
structure TxtP(T:Nat→List UInt8)(i:Nat)(ss:List (List UInt8))(X:List Int):Prop where
 nd:ss.Nodup
 frm:∀s∈ss,∃j,j<i∧T j=s
 at_:∀j,j<i→∃q:Nat,idx ss (T j)=some q∧X[j]? =some (q:Int)
theorem zG9{ss:List (List UInt8)}(h:ss.Nodup){k:Nat}{s:List UInt8}(hk:ss[k]? =some s):idx ss s=some k:=by
 induction ss generalizing k with
 |nil=>cases hk
 |
  cons x r ih=>
  obtain⟨h1,h2⟩:=List.nodup_cons.1 h;rw[idx];cases k with
  |
   zero=>
   simp at hk
   rw[if_pos hk]
  |
   succ k=>
   have hk:r[k]? =some s:=by simpa using hk
   rw[if_neg fun e=>h1 (by rw[e];exact List.mem_of_getElem? hk),ih h2 hk];rfl
theorem TxtP.start(T:Nat→List UInt8)(X:List Int):TxtP T 0 [] X:=⟨List.Pairwise.nil,fun _ hs=>absurd hs List.not_mem_nil,fun _ hj=>absurd hj (Nat.not_lt_zero _)⟩
theorem TxtP.old{T:Nat→List UInt8}{i q:Nat}{ss:List (List UInt8)}{X:List Int}(h:TxtP T i ss X)(hq:idx ss (T i)=some q)(hi:i<X.length):TxtP T (i+1) ss (X.set i (q:Int)):=by
 refine⟨h.nd,fun s hs=>?_,fun j hj=>?_⟩
 ·obtain⟨j,h1,h2⟩:=h.frm s hs;exact⟨j,by omega,h2⟩
 ·by_cases e:j=i
  ·subst e;exact⟨q,hq,by rw[List.getElem?_set,if_pos rfl,if_pos hi]⟩
  ·obtain⟨r,h1,h2⟩:=h.at_ j (by omega);exact⟨r,h1,by rw[List.getElem?_set,if_neg (fun e'=>e e'.symm)];exact h2⟩
theorem TxtP.new{T:Nat→List UInt8}{i:Nat}{ss:List (List UInt8)}{X:List Int}(h:TxtP T i ss X)(hq:idx ss (T i)=none)(hi:i<X.length):TxtP T (i+1) (ss++[T i]) (X.set i (ss.length:Nat)):=by
 have hnin:=zu9 hq;refine⟨?_,fun s hs=>?_,fun j hj=>?_⟩
 ·refine List.nodup_append.2 ⟨h.nd,List.pairwise_singleton _ _,fun a ha b hb=>?_⟩;rw[List.mem_singleton.1 hb];exact fun e=>hnin (by rw[←e];exact ha)
 ·rcases List.mem_append.1 hs with hs|hs
  ·obtain⟨j,h1,h2⟩:=h.frm s hs;exact⟨j,by omega,h2⟩
  ·exact⟨i,by omega,(List.mem_singleton.1 hs).symm⟩
 ·by_cases e:j=i
  ·subst e;refine⟨ss.length,?_,by rw[List.getElem?_set,if_pos rfl,if_pos hi]⟩;rw[zii,hq];simp
  ·obtain⟨r,h1,h2⟩:=h.at_ j (by omega);refine⟨r,?_,by rw[List.getElem?_set,if_neg (fun e'=>e e'.symm)];exact h2⟩;rw[zii,h1]
theorem TxtP.few{T:Nat→List UInt8}{i:Nat}{ss:List (List UInt8)}{X:List Int}(h:TxtP T i ss X):ss.length≤i:=by
 have:=all_len ss.length ((List.range i).map fun j=>(idx ss (T j)).getD 0) fun k hk=>by
  obtain⟨j,h1,h2⟩:=h.frm ss[k] (List.getElem_mem hk);refine List.mem_map.2 ⟨j,List.mem_range.2 h1,?_⟩;rw[h2,zG9 h.nd (List.getElem?_eq_getElem hk)];rfl
 rwa[List.length_map,List.length_range]at this
def zi1(C:List Int)(x:Nat):Nat:=(C.getD x 0).toNat
structure ClsIn(n:Nat)(C:List Int):Prop where
 len:C.length=n
 in_:∀x∈C,0≤x∧x<(n:Int)
theorem TxtP.round{d:List St}{L:List Bool}{C X:List Int}{ss:List (List UInt8)}(hg:Good d)(hl:∀(x:Nat) b,L[x]? =some b→(b=true↔(auOf d).live x))(hL:L.length=d.length)(hC:ClsIn d.length C)(hX:X.length=d.length)(h:TxtP (txt d L C) d.length ss X):
  Round (auOf d) d.length (zi1 C) (zi1 X) ss.length∧ClsIn d.length X:=by
 have hat:∀x,x<d.length→idx ss (txt d L C x)=some (zi1 X x):=fun x hx=>by
  obtain⟨q,h1,h2⟩:=h.at_ x hx;rw[h1];unfold zi1;rw[List.getD_eq_getElem?_getD,h2];simp
 have honto:Onto d.length (zi1 X) ss.length:=by
  refine⟨fun x hx=>(zp2 (hat x hx)).1,fun k hk=>?_⟩;obtain⟨j,h1,h2⟩:=h.frm ss[k] (List.getElem_mem hk);refine⟨j,h1,?_⟩;have h3:=zG9 h.nd (List.getElem?_eq_getElem hk);rw[←h2,hat j h1]at h3;injection h3
 refine⟨⟨honto,fun x hx y hy=>?_⟩,⟨hX,fun z hz=>?_⟩⟩
 ·have e1:zi1 X x=zi1 X y↔txt d L C x=txt d L C y:=by
   constructor
   ·intro e
    have h1:=(zp2 (hat x hx)).2;have h2:=(zp2 (hat y hy)).2;rw[e,h2]at h1;injection h1 with h1
    exact h1.symm
   ·intro e
    have h1:=hat x hx;rw[e,hat y hy]at h1;injection h1 with h1
    exact h1.symm
  rw[e1];have hcase:∀x,x<d.length→∃s b c,d[x]? =some s∧L[x]? =some b∧C[x]? =some c∧0≤c∧zi1 C x=c.toNat∧(b=true↔(auOf d).live x)∧(∀a∈ledA (ledF L C) s.2,Pos3 a)∧ledA (ledF L C) s.2=runs (gOf d (zi1 C) x) 256∧(auOf d).fin x=s.1:=fun x hx=>by
   obtain⟨s,hs⟩:∃s,d[x]? =some s:=⟨d[x],List.getElem?_eq_getElem _⟩;obtain⟨b,hb⟩:∃b,L[x]? =some b:=⟨L[x]'(by omega),List.getElem?_eq_getElem _⟩;obtain⟨c,hc⟩:∃c,C[x]? =some c:=⟨C[x]'(by have:=hC.len;omega),List.getElem?_eq_getElem _⟩;refine⟨s,b,c,hs,hb,hc,(hC.in_ c (List.mem_of_getElem? hc)).1,?_,hl x b hb,fun a ha=>?_,z91 hg hl hL hs,?_⟩
   ·unfold zi1;rw[List.getD_eq_getElem?_getD,hc];rfl
   ·have:=z90 (L:=L) (C:=C) (hg.asc s (List.mem_of_getElem? hs)) (fun z hz=>by have:=hC.in_ z hz;have:=hg.few;omega) a ha;exact⟨this.1.1,this.2.1.1,this.2.2.1⟩
   ·show((d[x]?).map (·.1)).getD false=s.1;rw[hs];rfl
  obtain⟨s,b,c,hs,hb,hc,hc0,hcx,hlx,hp,hr,hf⟩:=hcase x hx;obtain⟨s',b',c',hs',hb',hc',hc0',hcy,hly,hp',hr',hf'⟩:=hcase y hy;rw[z64 hs hb hc,z64 hs' hb' hc'];unfold keyOf;have hk:∀z,runs (fun c=>((auOf d).stepL z c).map (zi1 C)) 256=runs (gOf d (zi1 C) z) 256:=fun z=>rfl
  rw[hk,hk,←hr,←hr',hf,hf',hcx,hcy];cases b with
  |
   true=>
   have hlx':=hlx.1 rfl;cases b' with
   |
    true=>
    have hly':=hly.1 rfl;simp only[hlx',hly',if_true];constructor
    ·intro e
     obtain⟨e1,e2,e3⟩:=zC1 hc0 hc0' hp hp' e;rw[e1,e2,e3]
    ·intro e
     injection e with e
     injection e with e1 e
     injection e with e2 e3
     rw[show c=c' by omega,e2,e3]
   |
    false=>
    have hny:¬(auOf d).live y:=fun hh=>by have:=hly.2 hh;cases this
    simp only[hlx',hny,if_true,if_false,Bool.false_eq_true];exact⟨fun e=>absurd e (z6g _ _ _ hc0),fun e=>by cases e⟩
  |
   false=>
   have hnx:¬(auOf d).live x:=fun hh=>by have:=hlx.2 hh;cases this
   cases b' with
   |
    true=>
    have hly':=hly.1 rfl;simp only[hly',hnx,if_true,if_false,Bool.false_eq_true];exact⟨fun e=>absurd e.symm (z6g _ _ _ hc0'),fun e=>by cases e⟩
   |
    false=>
    have hny:¬(auOf d).live y:=fun hh=>by have:=hly.2 hh;cases this
    simp only[hnx,hny,if_false,Bool.false_eq_true]
 ·obtain⟨j,hj⟩:=List.mem_iff_getElem?.1 hz;have hjn:j<d.length:=by rw[←hX];exact(List.getElem?_eq_some_iff.1 hj).1
  obtain⟨q,h1,h2⟩:=h.at_ j hjn;rw[hj]at h2;injection h2 with h2
  have h3:=(zp2 h1).1;have h4:=z82 honto;omega
end
end Go.Proofs.YtaociahafamncaaGreatDoor
