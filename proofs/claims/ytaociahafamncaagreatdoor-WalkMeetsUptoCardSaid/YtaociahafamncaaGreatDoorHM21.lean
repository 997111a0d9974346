/- Folded. -/
import Derived.Test.YtaociahafamncaaGreatDoorHM20
set_option maxRecDepth 100000
set_option maxHeartbeats 40000000
namespace Go.Proofs.YtaociahafamncaaGreatDoor
section
open Go.RowKit
theorem zf3:Elem Tryz.prog 71 3 1 8:=Elem.mk_ Tryz.underlying71 (z:=.int .i64 0) (by kernel_rfl) rfl (by omega)
theorem zc3{W W':World}{b e s n k t:Nat}{v:Value}{xs:List Value}{cs:Array Value}{f:Nat×Nat}(ho:W.ownsRow b e s v n xs)(hg:W.grownBy W' v.ownBlock)(hk:W.heap[k]? =some (.cells cs t f))(he:t≠e):W'.heap[k]? =some (.cells cs t f):=by
 refine(hg.block k (Array.getElem?_eq_some_iff.1 hk).1 fun e'=>?_).trans hk;rcases za5 ho hk he with h|h
 ·rw[h]at e';cases e'
 ·exact h e'.symm
theorem zgc{W:World}{k b j:Nat}{o:Obj}{u:Value}(hk:W.heap[k]? =some o)(h:k≠b):(W.setCell ⟨b,j,none⟩ u).heap[k]? =some o:=(Below.heap_setCell _ _ _ k h).trans hk
theorem zb9{W:World}{b e s n g j t:Nat}{v u:Value}{xs:List Value}{cs:Array Value}{f:Nat×Nat}(ho:W.ownsRow b e s v n xs)(hk:W.heap[g]? =some (.cells cs t f))(he:t≠e):(W.setCell ⟨g,j,none⟩ u).ownsRow b e s v n xs:=
 ho.kept (za7 _ _ _) (za5 ho hk he)
structure AlR(w W:World)(n bk ob:Nat)(F:List Rw)(L:List Bool)(T:Rw):Prop where
 bel:Below w.heap.size w W
 len:F.length=n
 llen:L.length=n
 back:W.ownsRow w.heap.size 71 1 (.slice (some ⟨bk,0,none⟩) n n) n (F.map Rw.val)
 out:W.ownsRow w.heap.size 4 1 (.slice (some ⟨ob,0,none⟩) n n) n (L.map .bool)
 fam:Fam W w.heap.size (T::F)
section
variable {w W W':World}{n bk ob:Nat}{F:List Rw}{L:List Bool}{T:Rw}
theorem AlR.keep(h:AlR w W n bk ob F L T)(hb:Below W.heap.size W W'):AlR w W' n bk ob F L T:=
 ⟨za9 h.bel hb,h.len,h.llen,za2 h.back hb,za2 h.out hb,h.fam.below hb⟩
theorem zb3{W:World}{b e s n g c:Nat}{xs:List Value}(h:W.ownsRow b e s (.slice (some ⟨g,0,none⟩) n c) n xs):b≤g∧g<W.heap.size∧∃cs,W.heap[g]? =some (.cells cs e (0,0)):=by
 rcases h.2 with⟨hv,_⟩|⟨g',cap,cur,hv,hb,hg,_⟩
 ·cases hv
 ·injection hv with hv _ _
  injection hv with hv
  injection hv with hv _ _
  subst hv;exact⟨hb,(Array.getElem?_eq_some_iff.1 hg).1,_,hg⟩
theorem zak{W:World}{b e n g c j:Nat}{u:Value}{xs:List Value}(h:W.ownsRow b e 1 (.slice (some ⟨g,0,none⟩) n c) n xs)(hu:xs[j]? =some u):W.cell? ⟨g,j,none⟩=some u:=by
 have:=h.cells (g:=g) rfl j u hu;rwa[Addr.add_lit,Nat.zero_add]at this
theorem zn2{W:World}{b e s n g c:Nat}{xs:List Value}(h:W.ownsRow b e s (.slice (some ⟨g,0,none⟩) n c) n xs)(j:Nat):W.frozen? ⟨g,j,none⟩=false:=by
 obtain⟨_,_,cs,hg⟩:=zb3 h;exact free_at hg j
theorem AlR.backAt(h:AlR w W n bk ob F L T){t:Nat}{f:Rw}(hf:F[t]? =some f):W.cell? ⟨bk,t,none⟩=some f.val:=zak h.back (by rw[List.getElem?_map,hf];rfl)
theorem AlR.outAt(h:AlR w W n bk ob F L T){t:Nat}{b:Bool}(hf:L[t]? =some b):W.cell? ⟨ob,t,none⟩=some (.bool b):=zak h.out (by rw[List.getElem?_map,hf];rfl)
theorem AlR.frow(h:AlR w W n bk ob F L T){t:Nat}{f:Rw}(hf:F[t]? =some f):f.own W w.heap.size:=h.fam.own f (List.mem_cons_of_mem _ (List.mem_of_getElem? hf))
theorem AlR.todo(h:AlR w W n bk ob F L T):T.own W w.heap.size:=h.fam.own T (List.mem_cons_self ..)
theorem AlR.growB(h:AlR w W n bk ob F L T){t:Nat}{f y:Rw}(hf:F[t]? =some f)(hg:W.grownBy W' f.val.ownBlock)(hy:y.own W' w.heap.size)(hm:y.val.ownBlock=f.val.ownBlock∨∃g,y.val.ownBlock=some g∧W.heap.size≤g):
  AlR w (W'.setCell ⟨bk,t,none⟩ y.val) n bk ob (F.set t y) L T∧W'.cell? ⟨bk,t,none⟩=some f.val∧W'.frozen? ⟨bk,t,none⟩=false∧bk<W'.heap.size∧
   ∀(k:Nat) (cs:Array Value) (e:TypeId) (z:Nat×Nat),e≠3→e≠71→W.heap[k]? =some (.cells cs e z)→W'.heap[k]? =some (.cells cs e z)∧(W'.setCell ⟨bk,t,none⟩ y.val).heap[k]? =some (.cells cs e z):=by
 have hr:=h.frow hf;have hb':W'.ownsRow w.heap.size 71 1 (.slice (some ⟨bk,0,none⟩) n n) n (F.map Rw.val):=h.back.kept hg (za4 hr h.back (by decide));have ho':W'.ownsRow w.heap.size 4 1 (.slice (some ⟨ob,0,none⟩) n n) n (L.map .bool):=h.out.kept hg (za4 hr h.out (by decide));obtain⟨q1,q2,cs,q3⟩:=zb3 hb';have hfam:Fam W' w.heap.size ((T::F).set (t+1) y):=h.fam.set (by simpa using hf) hg hy hm;have hset:(F.set t y).map Rw.val=(F.map Rw.val).set t y.val:=by rw[List.map_set]
 have hlt:∀q,f.val.ownBlock=some q→w.heap.size≤q:=fun q hq=>(hr.lt q hq).1
 refine⟨⟨?_,by rw[List.length_set];exact h.len,h.llen,?_,zb9 ho' q3 (by decide),hfam.other q3 (by decide)⟩,?_,free_at q3 _,q2,fun k cs' e z he1 he2 hk=>?_⟩
 ·exact below_set (h.bel.grown hg h.bel.size hlt) q1 (Nat.le_refl _)
 ·rw[hset];exact zf0 hb'
 ·exact zak hb' (by rw[List.getElem?_map,hf];rfl)
 ·have hk':=zc3 hr hg hk he1;refine⟨hk',zgc hk' fun e'=>?_⟩;subst e';rw[q3]at hk';injection hk' with hk'
  injection hk' with _ hk' _
  exact he2 hk'.symm
theorem AlR.growT(h:AlR w W n bk ob F L T){y:Rw}(hg:W.grownBy W' T.val.ownBlock)(hy:y.own W' w.heap.size)(hm:y.val.ownBlock=T.val.ownBlock∨∃g,y.val.ownBlock=some g∧W.heap.size≤g):
  AlR w W' n bk ob F L y∧∀(k:Nat) (cs:Array Value) (e:TypeId) (z:Nat×Nat),e≠3→W.heap[k]? =some (.cells cs e z)→W'.heap[k]? =some (.cells cs e z):=by
 have hr:=h.todo;have hlt:∀q,T.val.ownBlock=some q→w.heap.size≤q:=fun q hq=>(hr.lt q hq).1
 exact⟨⟨h.bel.grown hg h.bel.size hlt,h.len,h.llen,h.back.kept hg (za4 hr h.back (by decide)),h.out.kept hg (za4 hr h.out (by decide)),h.fam.set (t:=0) rfl hg hy hm⟩,fun k cs e z he hk=>zc3 hr hg hk he⟩
theorem AlR.setO(h:AlR w W n bk ob F L T){t:Nat}:
  AlR w (W.setCell ⟨ob,t,none⟩ (.bool true)) n bk ob F (L.set t true) T∧W.frozen? ⟨ob,t,none⟩=false∧ob<W.heap.size∧
   ∀(k:Nat) (cs:Array Value) (e:TypeId) (z:Nat×Nat),e≠4→W.heap[k]? =some (.cells cs e z)→(W.setCell ⟨ob,t,none⟩ (.bool true)).heap[k]? =some (.cells cs e z):=by
 obtain⟨q1,q2,cs,q3⟩:=zb3 h.out;refine⟨⟨below_set h.bel q1 (Nat.le_refl _),h.len,by rw[List.length_set];exact h.llen,zb9 h.back q3 (by decide),?_,h.fam.other q3 (by decide)⟩,free_at q3 _,q2,fun k cs' e z he hk=>zgc hk fun e'=>?_⟩
 ·rw[List.map_set];exact zf0 h.out
 ·subst e';rw[q3]at hk;injection hk with hk
  injection hk with _ hk _
  exact he hk.symm
theorem AlR.cutT(h:AlR w W n bk ob F L T){A:Option Addr}{c:Nat}{l:List Int}{x:Int}(hT:T=⟨A,c,l++[x]⟩):AlR w W n bk ob F L ⟨A,c,l⟩:=by
 subst hT;have hr:=h.todo;refine⟨h.bel,h.len,h.llen,h.back,h.out,⟨fun z hz=>?_,?_⟩⟩
 ·rcases List.mem_cons.1 hz with rfl|hz
  ·have hr':W.ownsRow w.heap.size 3 1 (.slice A (l++[x]).length c) (l++[x]).length ((l++[x]).map (.int .i64)):=hr;have:=z7h (k:=l.length) hr' (by simp) (fun e=>by
    rcases hr'.2 with⟨_,h0⟩|⟨g,_,_,hv,_⟩
    ·simp at h0
    ·injection hv with hv _ _
     rw[e]at hv;cases hv)
   rw[Nat.mul_one,List.map_append,List.take_left' (by simp)]at this;exact this
  ·exact h.fam.own z (List.mem_cons_of_mem _ hz)
 ·obtain⟨h1,h2⟩:=List.pairwise_cons.1 h.fam.ap;refine List.pairwise_cons.2 ⟨fun z hz=>?_,h2⟩;have hv:(Rw.val ⟨A,c,l⟩).ownBlock=(Rw.val ⟨A,c,l++[x]⟩).ownBlock:=by
   cases A<;>rfl
  have:=h1 z hz;unfold Ap at this⊢;rw[hv];exact this
end
theorem AlR.start(w:World)(n:Nat)(hn:n≤1000000){W:World}(hW:W=((w.alloc (.cells (madeCells #[.slice none 0 0] n) 71)).alloc (.cells #[] 3)).alloc (.cells (madeCells #[.bool false] n) 4)):
  AlR w W n w.heap.size (w.heap.size+1+1) (List.replicate n ⟨none,0,[]⟩) (List.replicate n false) ⟨some ⟨w.heap.size+1,0,none⟩,0,[]⟩:=by
 subst hW;have b0:=bnew (za0 w) (.cells (madeCells #[.slice none 0 0] n) 71);have b1:=bnew b0 (.cells #[] 3);have b2:=bnew b1 (.cells (madeCells #[.bool false] n) 4);have o0:=zgj w (.slice none 0 0) n (by omega) 71 rfl (Nat.le_refl _);have o1:=za2 (za2 o0 (bnew (za0 _) (.cells #[] 3))) (bnew (za0 _) (.cells (madeCells #[.bool false] n) 4));refine⟨b2,by simp,by simp,?_,?_,⟨fun x hx=>?_,List.pairwise_cons.2 ⟨fun x hx=>?_,?_⟩⟩⟩
 ·have e:(List.replicate n (⟨none,0,[]⟩:Rw)).map Rw.val=List.replicate n (.slice none 0 0):=by rw[List.map_replicate];rfl
  rw[e];exact o1
 ·rw[List.map_replicate];exact zgj _ (.bool false) n (by omega) 4 (by simp) b1.size
 ·rcases List.mem_cons.1 hx with rfl|hx
  ·have h2:(w.alloc (.cells (madeCells #[.slice none 0 0] n) 71)).alloc (.cells #[] 3)|>.ownsRow w.heap.size 3 1 (.slice (some ⟨w.heap.size+1,0,none⟩) 0 0) 0 []:=zc1 _ 3 1 (by simp) b0.size
   exact za2 h2 (bnew (za0 _) _)
  ·rw[(List.mem_replicate.1 hx).2];exact⟨rfl,.inl ⟨rfl,rfl⟩⟩
 ·rw[(List.mem_replicate.1 hx).2];exact .inr (.inl rfl)
 ·rw[List.pairwise_replicate];exact .inr (.inl rfl)
end
section
open Go.RowKit
structure Ash where
 A:Option Addr
 c:Nat
 l:List Arc3
def Ash.val(x:Ash):Value:=.slice x.A x.l.length x.c
structure ListsIn(w:World)(B:Nat)(A:Option Addr)(n:Nat)(Ls:List Ash):Prop where
 len:Ls.length=n
 sl:Sl w w.heap.size 1 A n (Ls.map Ash.val)
 ar:∀x∈Ls,ArcsIn w B x.A x.l.length x.c x.l∧x.l.length≤2097152∧x.l.length≤x.c
 nb:n≤20000
theorem ListsIn.keep{w w':World}{B n:Nat}{A:Option Addr}{Ls:List Ash}(h:ListsIn w B A n Ls)(hb:Below w.heap.size w w')(hB:B≤w.heap.size):ListsIn w' B A n Ls:=
 ⟨h.len,(h.sl.below hb).more hb.size,fun x hx=>⟨(h.ar x hx).1.keep (hb.mono hB) (Nat.le_refl _),(h.ar x hx).2⟩,h.nb⟩
theorem ListsIn.at_{w:World}{B n:Nat}{A:Option Addr}{Ls:List Ash}(h:ListsIn w B A n Ls)(hn:0<n):∃b off,A=some ⟨b,off,none⟩∧b<w.heap.size∧∀k x,Ls[k]? =some x→w.cell? ⟨b,off+k,none⟩=some x.val:=by
 obtain⟨b,off,hA,hb,hc⟩:=h.sl.at_ hn;exact⟨b,off,hA,hb,fun k x hx=>hc k _ (by rw[List.getElem?_map,hx];rfl)⟩
def cutA(a:Arc3):List Int:=[a.1,a.2.1+1]
def cutL(Ls:List Ash):List Int:=[0,256]++(Ls.flatMap (·.l)).flatMap cutA
theorem zEb(w:World)(B:Nat)(hB:B≤w.heap.size)(A:Option Addr)(n c:Nat)(Ls:List Ash)(h:ListsIn w B A n Ls)(hok:∀x∈Ls,∀a∈x.l,0≤a.1∧a.1≤a.2.1∧a.2.1≤255):
  Calls Tryz.prog 79 #[.slice A n c] w fun e w'=>∃(A':Option Addr) (q c':Nat),e=.returned (.slice A' q c')∧w'.ownsRow w.heap.size 3 1 (.slice A' q c') q ((Lib.compact (sorted (cutL Ls))).map (.int .i64))∧Below w.heap.size w w':=by
 have HS:=Lib.hid h;have HOK:=Lib.hid hok;have hlen:=h.len;have hnb:=h.nb;clear h hok;go_enter Tryz.func79,Tryz.ntmps79
 go_wp2_with fail;have HO0:Hid ((w.alloc (.cells #[.int .i64 0,.int .i64 256] 3)).ownsRow w.heap.size 3 1 (.slice (some ⟨w.heap.size,0,none⟩) 2 2) 2 (([0,256]:List Int).map (.int .i64))):=zg1 w #[.int .i64 0,.int .i64 256] 3 1 2 rfl (by unfold maxLen;omega) rfl (Nat.le_refl _);have HB0:=Lib.hid (bnew (za0 w) (.cells #[.int .i64 0,.int .i64 256] 3));go_loopw [3,11] (fun ov iv wr=>∃(i q co:Nat) (Ao:Option Addr) (O:List Int),iv=.int .i64 i∧ov=.slice Ao q co∧i≤n∧q≤2+4194304*i∧Hid (O=[0,256]++((Ls.take i).flatMap (·.l)).flatMap cutA)∧Hid (wr.ownsRow w.heap.size 3 1 (.slice Ao q co) q (O.map (.int .i64)))∧Hid (Below w.heap.size w wr)) (fun _ iv _=>n-(intOf iv).toNat)
 case atStart=>exact⟨0,2,2,_,[0,256],rfl,rfl,Nat.zero_le _,by omega,rfl,HO0,HB0⟩
 case round=>
  clear HO0 HB0;obtain⟨i,q,co,Ao,O,rfl,rfl,hin,hqb,HO,HR,HB⟩:=hrel;by_cases hlt:i<n
  ·have HW:=Lib.hid (HS.out.keep HB.out hB);obtain⟨x,hx⟩:∃x,Ls[i]? =some x:=⟨Ls[i]'(by omega),List.getElem?_eq_getElem _⟩;obtain⟨lb,loff,rfl,hlb,hlc⟩:=HW.out.at_ (by omega);obtain⟨m,hm⟩:∃m,x.l.length=m:=⟨_,rfl⟩;have hxm:=List.mem_of_getElem? hx;have l0:wr.cell? ⟨lb,loff+i,none⟩=some (.slice x.A m x.c):=by rw[←hm];exact hlc i x hx
   have hm20:=(HS.out.ar x hxm).2;rw[hm]at hm20;obtain⟨hm20,hmc⟩:=hm20;have HM:=Lib.hid hm;have HXM:=Lib.hid hxm;have HTK:Hid ((Ls.take (i+1)).flatMap (·.l)=(Ls.take i).flatMap (·.l)++x.l):=by show _=_;rw[List.take_add_one,hx,List.flatMap_append];simp
   clear hx hlc hxm hm;go_wp2_with fail;go_loopw [3,17] (fun ov jv wj=>∃(j q co:Nat) (Ao:Option Addr) (O:List Int),jv=.int .i64 j∧ov=.slice Ao q co∧j≤m∧q≤2+4194304*i+2*j∧Hid (O=[0,256]++((Ls.take i).flatMap (·.l)++x.l.take j).flatMap cutA)∧Hid (wj.ownsRow w.heap.size 3 1 (.slice Ao q co) q (O.map (.int .i64)))∧Hid (Below w.heap.size w wj)) (fun _ jv _=>m-(intOf jv).toNat)
   case atStart=>exact⟨0,q,co,Ao,O,rfl,rfl,Nat.zero_le _,by omega,by rw[List.take_zero,List.append_nil];exact HO,HR,HB⟩
   case round=>
    clear HO HR HB HW l0;obtain⟨j,q,co,Ao,O,rfl,rfl,hjm,hqb,HO,HR,HB⟩:=hrel;by_cases hjl:j<m
    ·have HWJ:=(HS.out.keep HB.out hB);obtain⟨a,ha⟩:∃a,x.l[j]? =some a:=⟨x.l[j]'(by rw[HM.out];exact hjl),List.getElem?_eq_getElem _⟩;obtain⟨ab,aoff,hxA,hab,hac⟩:=(HWJ.ar x HXM.out).1.at_ (by rw[HM.out];omega);obtain⟨a0,a1,a2⟩:=hac j a ha;have habw:ab<wr.heap.size:=Nat.lt_of_lt_of_le hab (Nat.le_trans hB HB.out.size);have haok:=HOK.out x HXM.out a (List.mem_of_getElem? ha);have HTJ:Hid (x.l.take (j+1)=x.l.take j++[a]):=by show _=_;rw[List.take_add_one,ha];rfl
     rw[hxA];obtain⟨lo,hi,tt⟩:=a;simp only at a0 a1 a2 haok;have q1:IntKind.i64.wrap (hi+1)=hi+1:=IntWalk.i64_in _ (by omega);have HR1:=Lib.hid (za2 HR.out (bnew (za0 wr) (.cells #[.int .i64 lo,.int .i64 hi,.int .i64 tt] 76)));have HB1:=Lib.hid (bnew HB.out (.cells #[.int .i64 lo,.int .i64 hi,.int .i64 tt] 76));have hbs1:=HB1.out.size;clear hac ha HWJ;go_wp2_with (at_builtin;refine zb8 w (wr.alloc (.cells #[.int .i64 lo,.int .i64 hi,.int .i64 tt] 76)) _ rfl _ _ _ rfl zf3 _ _ _ rfl HR1.out (m:=2) rfl (by simp) rfl (by simp[Value.oneCell']) (by unfold maxLen;omega) (by omega) hbs1 HB1.out ?_;intro v9 w9 hown9 hb9 _ _;obtain⟨A9,c9,rfl,_⟩:=za1 hown9;have HO9:=Lib.hid hown9;have HB9:=Lib.hid hb9;clear hown9 hb9)
     have HON:Hid (O++[lo,hi+1]=[0,256]++((Ls.take i).flatMap (·.l)++x.l.take (j+1)).flatMap cutA):=by
      show _=_;rw[HTJ.out,HO.out,←List.append_assoc,List.flatMap_append,List.flatMap_append,List.flatMap_append];simp[cutA]
     have HR9:Hid (w9.ownsRow w.heap.size 3 1 (.slice A9 (q+2) c9) (q+2) ((O++[lo,hi+1]).map (.int .i64))):=by
      rw[List.map_append];exact HO9.out
     clear HO9 HR HR1 HO;go_wp2_with fail;go_roundw;case rel=>exact⟨j+1,q+2,c9,A9,O++[lo,hi+1],by go_num,rfl,by omega,by omega,HON,HR9,HB9⟩
     case measure=>simp[intOf];omega
    ·obtain rfl:m=j:=by omega
     have HON:Hid (O=[0,256]++((Ls.take (i+1)).flatMap (·.l)).flatMap cutA):=by
      have h1:=HO.out;have htk:x.l.take m=x.l:=List.take_of_length_le (by rw[HM.out];exact Nat.le_refl _);rw[htk]at h1;show _=_;rw[HTK.out];exact h1
     clear HO;go_wp2_with fail;go_roundw;case rel=>exact⟨i+1,q,co,Ao,O,by go_num,rfl,by omega,by omega,HON,HR,HB⟩
     case measure=>simp[intOf];omega
  ·obtain rfl:n=i:=by omega
   have HOE:Hid (O=cutL Ls):=by
    have h1:=HO.out;rw[List.take_of_length_le (by omega)]at h1;exact h1
   have hq0:0<q:=by
    have h1:=HR.out.1;rw[List.length_map,HOE.out,cutL,List.length_append]at h1;simp at h1
    omega
   have HBS:=Lib.hid HB.out.size;clear HO;go_wp2_with fail;refine(zze HR.out (by omega)).mono ?_;rintro e w7 ⟨rfl,hown7,hg7⟩;have HO7:=Lib.hid hown7;have HB7:=Lib.hid (HB.out.grown hg7 HB.out.size (fun r hr=>(HR.out.lt r hr).1));clear hown7 hg7 HR;go_wp2_with fail;refine(zyj HO7.out (by omega) hq0).mono ?_;rintro e w8 ⟨rfl,hown8,hg8⟩;have HO8:=Lib.hid hown8;have HB8:=Lib.hid (HB7.out.grown hg8 HB7.out.size (fun r hr=>(HO7.out.lt r hr).1));clear hown8 hg8 HO7;have HLE:=Lib.hid HOE.out;go_wp2_with fail;go_ret;exact⟨_,_,_,rfl,by rw[←HLE.out];exact HO8.out,HB8.out⟩
end
section
open Go.RowKit
def ze4(l:List Lst)(z:Int):List Arc3:=((l[z.toNat]?).map (·.arcs)).getD []
def zpa(l:List Lst)(z:Int):Bool:=((l[z.toNat]?).map (·.fin)).getD false
def zq7(l:List Lst)(S:List Int)(c:Nat)(x:Nat):Prop:=∃z∈S,∃a∈ze4 l z,a.1≤(c:Int)∧(c:Int)≤a.2.1∧a.2.2=(x:Int)
open Classical in
noncomputable def stepS(l:List Lst)(S:List Int)(c:Nat):Option (List Int):=if∃x,zq7 l S c x then some (setL l.length (Clo l (zq7 l S c)))else none
def finS(l:List Lst)(S:List Int):Bool:=S.any (zpa l)
noncomputable def subW(l:List Lst):Bfs (List Int):=⟨stepS l,fun z y=>decide (z=y),id⟩
theorem zda(l:List Lst):Plain (subW l):=⟨fun _ _=>rfl,fun _=>rfl⟩
theorem zxg{l:List Lst}{S:List Int}{c c':Nat}(h:∀x,zq7 l S c x↔zq7 l S c' x):stepS l S c=stepS l S c':=by
 have e:zq7 l S c=zq7 l S c':=funext fun x=>propext (h x)
 unfold stepS;rw[e]
theorem z3a{l:List Lst}{S:List Int}{c:Nat}{T:List Int}(hT:∀z,z∈T↔∃y∈S,∃a∈ze4 l y,a.1≤(c:Int)∧(c:Int)≤a.2.1∧a.2.2=z)(hpos:∀z∈T,0≤z):
  stepS l S c=if T=[]then none else some (setL l.length (Clo l fun x=>((x:Nat):Int)∈T)):=by
 have e:zq7 l S c=fun x=>((x:Nat):Int)∈T:=funext fun x=>propext ((hT (x:Int)).symm)
 unfold stepS;rw[e];by_cases h:T=[]
 ·rw[if_pos h,if_neg];rintro⟨x,hx⟩;rw[h]at hx;cases hx
 ·rw[if_neg h,if_pos];obtain⟨z,hz⟩:=List.exists_mem_of_ne_nil _ h;refine⟨z.toNat,?_⟩;have:=hpos z hz;show((z.toNat:Nat):Int)∈T;rw[show((z.toNat:Nat):Int)=z by omega];exact hz
theorem z13{L:List Int}(h:L.Pairwise fun x y=>x<y){k:Nat}{u v:Int}(hu:L[k]? =some u)(hv:L[k+1]? =some v){z:Int}(hz:z∈L):z≤u∨v≤z:=by
 obtain⟨j,hj⟩:=List.mem_iff_getElem?.1 hz;have hjl:=(List.getElem?_eq_some_iff.1 hj);have hkl:=(List.getElem?_eq_some_iff.1 hu);have hvl:=(List.getElem?_eq_some_iff.1 hv);rcases Nat.lt_trichotomy j k with h1|h1|h1
 ·have:=List.pairwise_iff_getElem.1 h j k hjl.1 hkl.1 h1;rw[hjl.2,hkl.2]at this;omega
 ·subst h1;rw[hu]at hj;injection hj with hj
  omega
 ·by_cases e:j=k+1
  ·subst e;rw[hv]at hj;injection hj with hj
   omega
  ·have:=List.pairwise_iff_getElem.1 h (k+1) j hvl.1 hjl.1 (by omega);rw[hjl.2,hvl.2]at this;omega
structure CutP(l:List Lst)(S:List Int)(C:List Int):Prop where
 lt:C.Pairwise fun x y=>x<y
 in_:∀x∈C,0≤x∧x≤256
 zero:C[0]? =some 0
 last:C[C.length-1]? =some 256
 two:2≤C.length
 arc:∀z∈S,∀a∈ze4 l z,a.1∈C∧a.2.1+1∈C
theorem zA1{C:List Int}(h:C.Pairwise fun x y=>x<y)(hin:∀x∈C,0≤x∧x≤256)(h0:(0:Int)∈C):C[0]? =some 0:=by
 cases C with
 |nil=>cases h0
 |
  cons x r=>
  rcases List.mem_cons.1 h0 with e|hr
  ·rw[←e];rfl
  ·have:=(List.pairwise_cons.1 h).1 0 hr;have:=hin x (List.mem_cons_self ..);omega
theorem zEc{C:List Int}(h:C.Pairwise fun x y=>x<y)(hin:∀x∈C,0≤x∧x≤256)(h0:(256:Int)∈C):C[C.length-1]? =some 256:=by
 obtain⟨j,hj⟩:=List.mem_iff_getElem?.1 h0;obtain⟨h1,h2⟩:=List.getElem?_eq_some_iff.1 hj;by_cases e:j=C.length-1
 ·rw[←e];exact hj
 ·have h3:=List.pairwise_iff_getElem.1 h j (C.length-1) h1 (by omega) (by omega);have h4:=hin _ (List.getElem_mem (show C.length-1<C.length by omega));rw[h2]at h3;omega
theorem zJ8{l:List Lst}{S:List Int}{Ls:List Ash}(hg:LGood l)(hLs:Ls.map (·.l)=S.map (ze4 l)):CutP l S (Lib.compact (sorted (cutL Ls))):=by
 obtain⟨h1,h2⟩:=zqj (zv6 (cutL Ls));have hmem:∀x,x∈Lib.compact (sorted (cutL Ls))↔x∈cutL Ls:=fun x=>(h2 x).trans (zg6 _ x)
 have hcut:∀x,x∈cutL Ls↔x=0∨x=256∨∃z∈S,∃a∈ze4 l z,x=a.1∨x=a.2.1+1:=fun x=>by
  unfold cutL;rw[List.mem_append,List.mem_flatMap];have e:Ls.flatMap (·.l)=(S.map (ze4 l)).flatten:=by rw[←hLs,List.flatMap_def]
  rw[e];constructor
  ·rintro(h|⟨a,ha,hx⟩)
   ·simp at h
    rcases h with h|h
    ·exact .inl h
    ·exact .inr (.inl h)
   ·rw[List.mem_flatten]at ha;obtain⟨L,hL,haL⟩:=ha;obtain⟨z,hz,rfl⟩:=List.mem_map.1 hL;simp[cutA]at hx
    exact .inr (.inr ⟨z,hz,a,haL,hx⟩)
  ·rintro(h|h|⟨z,hz,a,ha,hx⟩)
   ·left;simp[h]
   ·left;simp[h]
   ·right
    refine⟨a,?_,by simpa[cutA]using hx⟩;rw[List.mem_flatten];exact⟨_,List.mem_map_of_mem hz,ha⟩
 have hok:∀z,∀a∈ze4 l z,0≤a.1∧a.1≤a.2.1∧a.2.1≤255:=fun z a ha=>by
  unfold ze4 at ha;cases hz:l[z.toNat]? with
  |none=>rw[hz]at ha;cases ha
  |
   some s=>
   rw[hz]at ha;have:=hg.arc s (List.mem_of_getElem? hz) a ha;exact⟨this.1,this.2.1,this.2.2.1⟩
 have hin:∀x∈Lib.compact (sorted (cutL Ls)),0≤x∧x≤256:=fun x hx=>by
  rcases(hcut x).1 ((hmem x).1 hx)with h|h|⟨z,_,a,ha,h⟩
  ·omega
  ·omega
  ·have:=hok z a ha;rcases h with h|h<;>omega
 have h0:(0:Int)∈Lib.compact (sorted (cutL Ls)):=(hmem 0).2 ((hcut 0).2 (.inl rfl));have h256:(256:Int)∈Lib.compact (sorted (cutL Ls)):=(hmem 256).2 ((hcut 256).2 (.inr (.inl rfl)));have hz:=zA1 h1 hin h0;have hl:=zEc h1 hin h256;refine⟨h1,hin,hz,hl,?_,fun z hz a ha=>⟨(hmem _).2 ((hcut _).2 (.inr (.inr ⟨z,hz,a,ha,.inl rfl⟩))),(hmem _).2 ((hcut _).2 (.inr (.inr ⟨z,hz,a,ha,.inr rfl⟩)))⟩⟩;apply Classical.byContradiction
 intro hn
 have:(Lib.compact (sorted (cutL Ls))).length-1=0:=by omega
 rw[this,hz]at hl;injection hl with hl
 exact absurd hl (by decide)
theorem CutP.same{l:List Lst}{S C:List Int}(h:CutP l S C){k u v:Nat}(hu:C[k]? =some ((u:Nat):Int))(hv:C[k+1]? =some ((v:Nat):Int)){c:Nat}(h1:u≤c)(h2:c<v):stepS l S c=stepS l S u:=by
 refine zxg fun x=>?_
 unfold zq7;constructor
 ·rintro⟨z,hz,a,ha,a1,a2,a3⟩;obtain⟨b1,b2⟩:=h.arc z hz a ha;have c1:=z13 h.lt hu hv b1;have c2:=z13 h.lt hu hv b2;exact⟨z,hz,a,ha,by omega,by omega,a3⟩
 ·rintro⟨z,hz,a,ha,a1,a2,a3⟩;obtain⟨b1,b2⟩:=h.arc z hz a ha;have c1:=z13 h.lt hu hv b1;have c2:=z13 h.lt hu hv b2;exact⟨z,hz,a,ha,by omega,by omega,a3⟩
theorem zeb{σ:Type}(W:Bfs σ)(x0:σ):∀f,(W.run f 0 [x0])[0]? =some x0
 |0=>rfl
 |
  f+1=>by
  have ih:=zeb W x0 f;rw[W.run_succ];split
  ·rename_i x _
   obtain⟨more,hm⟩:=W.row_pre x (W.run f 0 [x0]) 256;have hl:=(List.getElem?_eq_some_iff.1 ih).1;rw[hm,List.getElem?_append_left hl];exact ih
  ·exact ih
theorem zu0{σ:Type}(W:Bfs σ)(fin:σ→Bool){met:List σ}(h0:met≠[])(hl:met.length≤20000):Good (W.out fin met):=by
 have hlen:(W.out fin met).length=met.length:=by unfold Bfs.out;rw[List.length_map]
 refine⟨fun e=>h0 (List.map_eq_nil_iff.1 e),by rw[hlen];exact hl,fun s hs=>?_,fun s hs a ha=>?_⟩
 ·obtain⟨x,_,rfl⟩:=List.mem_map.1 hs;exact(zf4 _ 256).1
 ·obtain⟨x,_,rfl⟩:=List.mem_map.1 hs;obtain⟨c,k,_,hg,hk⟩:=zgi _ 256 a ha;obtain⟨y,_,hf⟩:=Option.bind_eq_some_iff.1 hg;obtain⟨z,hz,_⟩:=ze7 hf;have:=(List.getElem?_eq_some_iff.1 hz).1;rw[hlen];omega
theorem MadeP.leq{W:Bfs (List Int)}{fin fin0:List Int→Bool}{x0:List Int}{i:Nat}{met:List (List Int)}{ds:List St}(hW:Plain W)(h:MadeP W fin fin0 x0 i met ds)(hi:i=met.length):Leq (auOf ds) 0 ⟨fin,W.step⟩ x0:=by
 obtain⟨e,hm,_⟩:=h.last hW hi;rw[e];intro s
 refine ztk W fin (fun z y hzy=>?_) hm s 0 x0 ?_
 ·rw[hW.eqv,decide_eq_true_eq]at hzy;rw[hzy];exact Leq.refl _ _
 ·rw[h.run];exact zeb W x0 i
theorem MadeP.good{W:Bfs (List Int)}{fin fin0:List Int→Bool}{x0:List Int}{i:Nat}{met:List (List Int)}{ds:List St}(hW:Plain W)(h:MadeP W fin fin0 x0 i met ds)(hi:i=met.length)(hl:met.length≤20000):Good ds:=by
 obtain⟨e,_,_⟩:=h.last hW hi;rw[e];refine zu0 W fin (fun e=>?_) hl;have:=zeb W x0 i;rw[←h.run,e]at this;cases this
end
section
open Classical in
noncomputable def zA7(n:Nat)(P:Nat→Prop):List Bool:=(List.range n).map fun x=>decide (P x)
theorem zA5(n:Nat)(P:Nat→Prop):(zA7 n P).length=n:=by unfold zA7;rw[List.length_map,List.length_range]
open Classical in
theorem zA6{n:Nat}{P:Nat→Prop}{x:Nat}:(zA7 n P)[x]? =some true↔x<n∧P x:=by
 unfold zA7;rw[List.getElem?_map];by_cases h:x<n
 ·rw[List.getElem?_range h];show some (decide (P x))=some true↔_;simp[h]
 ·rw[List.getElem?_eq_none (by rw[List.length_range];omega)];simp[h]
theorem zAh{A B:List Bool}(hl:A.length=B.length)(h:∀x:Nat,A[x]? =some true↔B[x]? =some true):A=B:=by
 apply List.ext_getElem?
 intro x
 by_cases hx:x<A.length
 ·have h1:=h x;rw[List.getElem?_eq_getElem hx,List.getElem?_eq_getElem (by omega)]at h1⊢;congr 1
  cases ha:A[x]<;>cases hb:B[x]<;>rw[ha,hb]at h1<;>simp at h1<;>rfl
 ·rw[List.getElem?_eq_none (by omega),List.getElem?_eq_none (by omega)]
structure SpP(l:List Lst)(B0 B:List Bool):Prop where
 len:B.length=l.length
 base:∀x:Nat,B0[x]? =some true→B[x]? =some true
 clo:∀x:Nat,B[x]? =some true→Clo l (fun y=>B0[y]? =some true) x
theorem SpP.start{l:List Lst}{B:List Bool}(h:B.length=l.length):SpP l B B:=⟨h,fun _ h=>h,fun _ h=>.base h⟩
theorem SpP.set{l:List Lst}{B0 B:List Bool}(h:SpP l B0 B){i x:Nat}{s:Lst}(hi:B[i]? =some true)(hs:l[i]? =some s)(hx:((x:Nat):Int)∈s.free):SpP l B0 (B.set x true):=by
 refine⟨by rw[List.length_set];exact h.len,fun y hy=>?_,fun y hy=>?_⟩
 ·rw[List.getElem?_set];split
  ·rename_i e
   subst e;have:=(List.getElem?_eq_some_iff.1 (h.base x hy)).1;rw[if_pos this]
  ·exact h.base y hy
 ·rw[List.getElem?_set]at hy;split at hy
  ·rename_i e
   subst e;exact .step (h.clo i hi) hs hx
  ·exact h.clo y hy
def zuj(l:List Lst)(B:List Bool)(i k:Nat):Prop:=(∀(y:Nat) s,y<i→B[y]? =some true→l[y]? =some s→∀t∈s.free,B[t.toNat]? =some true)∧∀s,l[i]? =some s→B[i]? =some true→∀t∈s.free.take k,B[t.toNat]? =some true
theorem zuj.zero(l:List Lst)(B:List Bool):zuj l B 0 0:=⟨fun y s h=>absurd h (by omega),fun s _ _ t ht=>by simp at ht⟩
theorem zuj.next{l:List Lst}{B:List Bool}{i k:Nat}(h:zuj l B i k)(he:∀s,l[i]? =some s→B[i]? =some true→s.free.length≤k):zuj l B (i+1) 0:=by
 refine⟨fun y s hy hb hs t ht=>?_,fun s _ _ t ht=>by simp at ht⟩;by_cases e:y<i
 ·exact h.1 y s e hb hs t ht
 ·obtain rfl:y=i:=by omega
  exact h.2 s hs hb t (by rw[List.take_of_length_le (he s hs hb)];exact ht)
theorem zuj.one{l:List Lst}{B:List Bool}{i k:Nat}{s:Lst}{t:Int}(h:zuj l B i k)(hs:l[i]? =some s)(ht:s.free[k]? =some t)(hb:B[t.toNat]? =some true):zuj l B i (k+1):=by
 refine⟨h.1,fun s' hs' hi u hu=>?_⟩;rw[hs]at hs';injection hs' with hs'
 subst hs';rw[List.take_add_one,ht]at hu;rcases List.mem_append.1 hu with hu|hu
 ·exact h.2 s hs hi u hu
 ·simp at hu
  rw[hu];exact hb
theorem SpP.done{l:List Lst}{B0 B:List Bool}(h:SpP l B0 B)(hc:zuj l B l.length 0):B=zA7 l.length (Clo l fun y=>B0[y]? =some true):=by
 refine zAh (by rw[zA5];exact h.len) fun x=>?_
 rw[zA6];constructor
 ·intro hx
  have:=(List.getElem?_eq_some_iff.1 hx).1;rw[h.len]at this;exact⟨this,h.clo x hx⟩
 ·rintro⟨_,hx⟩;induction hx with
  |base h1=>exact h.base _ h1
  |
   @step y x s hy hs hx ih=>
   have hyl:=(List.getElem?_eq_some_iff.1 hs).1;have:=hc.1 y s hyl (ih hyl) hs _ hx;rwa[Int.toNat_natCast]at this
def ovP(l:List Lst)(P:Nat→Prop)(c:Nat)(x:Nat):Prop:=∃(z:Nat) (s:Lst),P z∧l[z]? =some s∧∃a∈s.arcs,a.1≤(c:Int)∧(c:Int)≤a.2.1∧a.2.2=(x:Int)
def runP(l:List Lst):(Nat→Prop)→List Nat→Nat→Prop
 |P,[]=>P
 |P,c::r=>runP l (Clo l (ovP l P c)) r
open Classical in
noncomputable def endB(l:List Lst)(P:Nat→Prop):Bool:=decide (∃(z:Nat) (s:Lst),l[z]? =some s∧s.fin=true∧P z)
theorem zvi{l:List Lst}{P:Nat→Prop}{c:Nat}:zq7 l (setL l.length P) c=ovP l P c:=by
 funext x
 apply propext
 unfold zq7 ovP;constructor
 ·rintro⟨z,hz,a,ha,h⟩;obtain⟨y,rfl,hy,hp⟩:=zd6.1 hz;unfold ze4 at ha;rw[Int.toNat_natCast,List.getElem?_eq_getElem hy]at ha;exact⟨y,l[y],hp,List.getElem?_eq_getElem hy,a,ha,h⟩
 ·rintro⟨z,s,hp,hs,a,ha,h⟩;refine⟨(z:Int),zd6.2 ⟨z,rfl,(List.getElem?_eq_some_iff.1 hs).1,hp⟩,a,?_,h⟩;unfold ze4;rw[Int.toNat_natCast,hs];exact ha
theorem z2a{l:List Lst}{P:Nat→Prop}(h:∀x,¬P x):∀x,¬Clo l P x:=fun x hx=>by
 induction hx with
 |base h1=>exact h _ h1
 |step _ _ _ ih=>exact ih
open Classical in
theorem zzj{l:List Lst}:∀(r:List Nat){P:Nat→Prop},(∀x,¬P x)→endB l (runP l P r)=false
 |
  [],P,h=>by
  unfold endB;exact decide_eq_false fun⟨z,s,_,_,hz⟩=>h z hz
 |c::r,P,h=>zzj r (z2a fun x ⟨z,s,hz,_⟩=>h z hz)
open Classical in
theorem zDh{l:List Lst}{P:Nat→Prop}:finS l (setL l.length P)=endB l P:=by
 rw[Bool.eq_iff_iff];unfold finS endB;rw[List.any_eq_true,decide_eq_true_eq];constructor
 ·rintro⟨z,hz,hf⟩;obtain⟨y,rfl,hy,hp⟩:=zd6.1 hz;unfold zpa at hf;rw[Int.toNat_natCast,List.getElem?_eq_getElem hy]at hf;exact⟨y,l[y],List.getElem?_eq_getElem hy,hf,hp⟩
 ·rintro⟨z,s,hs,hf,hp⟩;refine⟨(z:Int),zd6.2 ⟨z,rfl,(List.getElem?_eq_some_iff.1 hs).1,hp⟩,?_⟩;unfold zpa;rw[Int.toNat_natCast,hs];exact hf
theorem zB1(l:List Lst):∀(s:List Nat) (P:Nat→Prop),(∀c∈s,c<256)→(⟨finS l,stepS l⟩:Au (List Int)).acc (setL l.length P) s=endB l (runP l P s)
 |[],P,_=>zDh
 |
  c::r,P,h=>by
  rw[Au.acc,if_pos (h c (List.mem_cons_self ..))];have e:(⟨finS l,stepS l⟩:Au (List Int)).step (setL l.length P) c=stepS l (setL l.length P) c:=rfl;rw[e];unfold stepS;rw[zvi];by_cases hx:∃x,ovP l P c x
  ·rw[if_pos hx];exact zB1 l r _ fun c hc=>h c (List.mem_cons_of_mem _ hc)
  ·rw[if_neg hx];exact(zzj r (z2a fun x h1=>hx ⟨x,h1⟩)).symm
end
section
open Go.RowKit Go.Maps
structure SpR(w W:World)(ob oc n:Nat)(L:List Bool):Prop where
 own:W.ownsRow w.heap.size 4 1 (.slice (some ⟨ob,0,none⟩) n oc) n (L.map .bool)
 bel:Below w.heap.size w W
theorem SpR.keep{w W W':World}{ob oc n:Nat}{L:List Bool}(h:SpR w W ob oc n L)(hb:Below W.heap.size W W'):SpR w W' ob oc n L:=⟨za2 h.own hb,za9 h.bel hb⟩
theorem SpR.get{w W:World}{ob oc n:Nat}{L:List Bool}(h:SpR w W ob oc n L){t:Nat}{b:Bool}(hf:L[t]? =some b):W.cell? ⟨ob,t,none⟩=some (.bool b):=zak h.own (by rw[List.getElem?_map,hf];rfl)
theorem SpR.len{w W:World}{ob oc n:Nat}{L:List Bool}(h:SpR w W ob oc n L):L.length=n:=by
 have:=h.own.1;rw[List.length_map]at this;omega
theorem SpR.cap{w W:World}{ob oc n:Nat}{L:List Bool}(h:SpR w W ob oc n L):n≤oc:=by
 obtain⟨A1,c1,e1,h1⟩:=za1 h.own;injection e1 with _ _ e1
 omega
theorem SpR.set{w W:World}{ob oc n:Nat}{L:List Bool}(h:SpR w W ob oc n L)(t:Nat)(b:Bool):SpR w (W.setCell ⟨ob,t,none⟩ (.bool b)) ob oc n (L.set t b)∧W.frozen? ⟨ob,t,none⟩=false∧ob<W.heap.size:=by
 obtain⟨q1,q2,cs,q3⟩:=zb3 h.own;refine⟨⟨?_,below_set h.bel q1 (Nat.le_refl _)⟩,free_at q3 _,q2⟩;rw[List.map_set];exact zf0 h.own
end
section
open Go.RowKit Go.Maps
open F (Ent Nd Nh gath gath_s Fine byteAt DictAt waysC wayC entsC entC entsC_len)
def zk5(most:Nat)(R:List Ent×Bool)(l:List Ent):List Ent×Bool:=if R.2 then R else runM most R.1 l
theorem z74(most:Nat)(R:List Ent×Bool)(a b:List Ent):zk5 most R (a++b)=zk5 most (zk5 most R a) b:=by
 obtain⟨h,g⟩:=R;cases g with
 |true=>rfl
 |
  false=>
  show runM most h (a++b)=if(runM most h a).2 then _ else _
  rw[z00];rfl
theorem zo1(most:Nat)(R:List Ent×Bool):zk5 most R []=R:=by
 obtain⟨h,g⟩:=R;cases g<;>rfl
theorem z73(most:Nat)(R:List Ent×Bool)(l:List Ent):(zk5 most R l).1.length≤R.1.length+l.length:=by
 have h:∀(l h:List Ent),(runM most h l).1.length≤h.length+l.length:=by
  intro l
  induction l with
  |nil=>intro h;exact Nat.le_refl _
  |
   cons e r ih=>
   intro h
   have e1:runM most h (e::r)=if h.length=most then(h,true)else runM most (h++[e]) r:=rfl
   rw[e1];split
   ·simp
   ·have:=ih (h++[e]);simp only[List.length_append,List.length_cons,List.length_nil]at this⊢;omega
 unfold zk5;split
 ·omega
 ·exact h l R.1
def mtW(ds:List Nd)(M:Au Nat)(dead:Nat→Bool)(f:Nat)(t:List UInt8)(z:Int)(q:Nat)(ws:List (Int×Int×Int)):List Ent:=ws.flatMap fun x=>match M.step q x.1.toNat with
 |some q'=>mtE ds M dead f x.2.2.toNat (t++[UInt8.ofNat x.1.toNat]) (IntKind.i64.wrap (z+x.2.1)) q'
 |none=>[]
theorem zCk{ds:List Nd}{M:Au Nat}{dead:Nat→Bool}{f:Nat}{t:List UInt8}{z:Int}{q:Nat}{ws:List (Int×Int×Int)}{j:Nat}{y:Int×Int×Int}(hy:ws[j]? =some y):mtW ds M dead f t z q (ws.take (j+1))=mtW ds M dead f t z q (ws.take j)++match M.step q y.1.toNat with
 |some q'=>mtE ds M dead f y.2.2.toNat (t++[UInt8.ofNat y.1.toNat]) (IntKind.i64.wrap (z+y.2.1)) q'
 |none=>[]:=by
 unfold mtW;rw[List.take_add_one,hy,List.flatMap_append];simp
structure MatAt(W:World)(mb p n c:Nat)(A:Option Addr)(ob oc most:Nat)(v:Value)(F:List Ent)(more:Bool):Prop where
 blk:W.heap[mb]? =some (.cells #[.pointer (some ⟨p,0,none⟩),.slice A n c,.slice (some ⟨ob,0,none⟩) n oc,.int .i64 (most:Int),v,.bool more] 62 (0,0))
 own:W.ownsRow (mb+1) 29 2 v F.length (entsC F)
section
variable {W W':World}{mb p n c:Nat}{A:Option Addr}{ob oc most:Nat}{v:Value}{F:List Ent}{more:Bool}
theorem MatAt.lt(h:MatAt W mb p n c A ob oc most v F more):mb<W.heap.size:=(Array.getElem?_eq_some_iff.1 h.blk).1
theorem MatAt.keep(h:MatAt W mb p n c A ob oc most v F more)(hb:Below W.heap.size W W'):MatAt W' mb p n c A ob oc most v F more:=⟨(hb.block mb h.lt).trans h.blk,za2 h.own hb⟩
theorem MatAt.cells(h:MatAt W mb p n c A ob oc most v F more):W.cell? ⟨mb,0,none⟩=some (.pointer (some ⟨p,0,none⟩))∧W.cell? ⟨mb,1,none⟩=some (.slice A n c)∧W.cell? ⟨mb,2,none⟩=some (.slice (some ⟨ob,0,none⟩) n oc)∧W.cell? ⟨mb,3,none⟩=some (.int .i64 (most:Int))∧W.cell? ⟨mb,4,none⟩=some v∧W.cell? ⟨mb,5,none⟩=some (.bool more):=
 ⟨cell_of_row _ mb 0 _ _ (0,0) h.blk,cell_of_row _ mb 1 _ _ (0,0) h.blk,cell_of_row _ mb 2 _ _ (0,0) h.blk,cell_of_row _ mb 3 _ _ (0,0) h.blk,cell_of_row _ mb 4 _ _ (0,0) h.blk,cell_of_row _ mb 5 _ _ (0,0) h.blk⟩
def MatAt.foot(mb:Nat)(v:Value)(b:Nat):Prop:=b=mb∨some b=v.ownBlock
theorem MatAt.low(h:MatAt W mb p n c A ob oc most v F more){b:Nat}(hb:MatAt.foot mb v b):mb≤b∧b<W.heap.size:=by
 rcases hb with rfl|hb
 ·exact⟨Nat.le_refl _,h.lt⟩
 ·have:=h.own.lt b hb.symm;omega
end
structure MidM(mb p n c:Nat)(A:Option Addr)(ob oc most:Nat)(W:World)(v0:Value)(T:Nat)(R0:List Ent×Bool)(l:List Ent)(F:List Ent)(more:Bool)(W':World)(v:Value):Prop where
 run:zk5 most R0 l=(F,more)
 mat:MatAt W' mb p n c A ob oc most v F more
 but:But (MatAt.foot mb v0) W W'
 sub:∀b,some b=v.ownBlock→some b=v0.ownBlock∨T≤b
end
end Go.Proofs.YtaociahafamncaaGreatDoor
