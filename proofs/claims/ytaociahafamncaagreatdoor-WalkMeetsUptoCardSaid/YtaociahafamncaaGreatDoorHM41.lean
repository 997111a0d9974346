/- Folded. -/
import Derived.Test.YtaociahafamncaaGreatDoorHM39
import Derived.StillTailTactics
set_option maxRecDepth 100000
set_option maxHeartbeats 40000000
namespace Go.Proofs.YtaociahafamncaaGreatDoor
section
open Go.RowKit Go.Maps
structure OutR(w W:World)(Ao:Option Addr)(q co:Nat)(hs:List Sh):Prop where
 bel:Below w.heap.size w W
 out:W.ownsRow w.heap.size 74 2 (.slice Ao q co) q (hs.flatMap Sh.hdr)
 fam:GFam W w.heap.size 76 3 (hs.map Sh.row)
structure GrR(w W:World)(sp:Nat)(fin:Bool)(Ao:Option Addr)(q co:Nat)(Ac:Option Addr)(pc cc:Nat)(arcs:List Arc3)(hs:List Sh):Prop where
 bel:Below w.heap.size w W
 out:W.ownsRow w.heap.size 74 2 (.slice Ao q co) q (hs.flatMap Sh.hdr)
 fam:GFam W w.heap.size 76 3 (⟨.slice Ac pc cc,pc,zaa arcs⟩::hs.map Sh.row)
 blk:W.heap[sp]? =some (.cells #[.bool fin,.slice Ac pc cc] 74 (0,0))
 lo:w.heap.size≤sp
 ne:(Value.slice Ao q co).ownBlock=none∨(Value.slice Ao q co).ownBlock≠some sp
section
variable {w W W':World}{sp:Nat}{fin:Bool}{Ao:Option Addr}{q co:Nat}{Ac:Option Addr}{pc cc:Nat}{arcs new:List Arc3}{hs:List Sh}
theorem OutR.keep(h:OutR w W Ao q co hs)(hb:Below W.heap.size W W'):OutR w W' Ao q co hs:=⟨za9 h.bel hb,za2 h.out hb,h.fam.below hb⟩
theorem OutR.start(w:World):OutR w w none 0 0 []:=⟨za0 w,⟨rfl,.inl ⟨rfl,rfl⟩⟩,GFam.nil _ _ _ _⟩
theorem OutR.sts(h:OutR w W Ao q co hs)(hq:hs.length=q):OwnSts W w.heap.size (.slice Ao q co) hs:=⟨by rw[hq];exact h.out,h.fam⟩
theorem OutR.other{b e s n:Nat}{v:Value}{xs:List Value}(h:OutR w W Ao q co hs)(ho:W.ownsRow b e s v n xs)(he1:e≠74)(he2:e≠76)(hb:w.heap.size≤b)(hg:W.grownBy W' v.ownBlock):OutR w W' Ao q co hs:=
 ⟨h.bel.grown hg h.bel.size (fun r hr=>Nat.le_trans hb (ho.lt r hr).1),h.out.kept hg (za4 ho h.out he1),h.fam.kept hg fun x hx=>za4 ho (h.fam.own x hx) he2⟩
theorem GrR.keep(h:GrR w W sp fin Ao q co Ac pc cc arcs hs)(hb:Below W.heap.size W W'):GrR w W' sp fin Ao q co Ac pc cc arcs hs:=
 ⟨za9 h.bel hb,za2 h.out hb,h.fam.below hb,(hb.block sp (Array.getElem?_eq_some_iff.1 h.blk).1).trans h.blk,h.lo,h.ne⟩
theorem GrR.cells(h:GrR w W sp fin Ao q co Ac pc cc arcs hs):W.cell? ⟨sp,0,none⟩=some (.bool fin)∧W.cell? ⟨sp,1,none⟩=some (.slice Ac pc cc)∧W.frozen? ⟨sp,1,none⟩=false∧sp<W.heap.size:=
 ⟨cell_of_row _ sp 0 _ _ (0,0) h.blk,cell_of_row _ sp 1 _ _ (0,0) h.blk,free_at h.blk _,(Array.getElem?_eq_some_iff.1 h.blk).1⟩
theorem GrR.row(h:GrR w W sp fin Ao q co Ac pc cc arcs hs):W.ownsRow w.heap.size 76 3 (.slice Ac pc cc) pc (zaa arcs):=h.fam.own ⟨.slice Ac pc cc,pc,zaa arcs⟩ (List.mem_cons_self ..)
theorem GrR.len(h:GrR w W sp fin Ao q co Ac pc cc arcs hs):arcs.length=pc:=by
 have:=h.row.1;rw[zl8]at this;omega
theorem GrR.other{b e s n:Nat}{v:Value}{xs:List Value}(h:GrR w W sp fin Ao q co Ac pc cc arcs hs)(ho:W.ownsRow b e s v n xs)(he1:e≠74)(he2:e≠76)(hb:w.heap.size≤b)(hg:W.grownBy W' v.ownBlock):GrR w W' sp fin Ao q co Ac pc cc arcs hs:=
 ⟨h.bel.grown hg h.bel.size (fun r hr=>Nat.le_trans hb (ho.lt r hr).1),h.out.kept hg (za4 ho h.out he1),h.fam.kept hg fun x hx=>za4 ho (h.fam.own x hx) he2,zc3 ho hg h.blk (fun e'=>he1 e'.symm),h.lo,h.ne⟩
theorem GrR.grow{A2:Option Addr}{p2 c2:Nat}(h:GrR w W sp fin Ao q co Ac pc cc arcs hs)(hown:W'.ownsRow w.heap.size 76 3 (.slice A2 p2 c2) p2 (zaa new))(hg:W.grownBy W' (Value.slice Ac pc cc).ownBlock)(hor:(Value.slice A2 p2 c2).ownBlock=(Value.slice Ac pc cc).ownBlock∨∃g,(Value.slice A2 p2 c2).ownBlock=some g∧W.heap.size≤g):
  (W'.cell? ⟨sp,1,none⟩=some (.slice Ac pc cc)∧W'.frozen? ⟨sp,1,none⟩=false∧sp<W'.heap.size)∧GrR w (W'.setCell ⟨sp,1,none⟩ (.slice A2 p2 c2)) sp fin Ao q co A2 p2 c2 new hs∧
  ∀{b e s n:Nat}{v:Value}{xs:List Value},e≠74→e≠76→W.ownsRow b e s v n xs→(W'.setCell ⟨sp,1,none⟩ (.slice A2 p2 c2)).ownsRow b e s v n xs:=by
 have hr:=h.row;have hblk:W'.heap[sp]? =some (.cells #[.bool fin,.slice Ac pc cc] 74 (0,0)):=zc3 hr hg h.blk (by decide);have hbel:Below w.heap.size w W':=h.bel.grown hg h.bel.size (fun r hq=>(hr.lt r hq).1);have hout:=h.out.kept hg (za4 hr h.out (by decide));have hfam:GFam W' w.heap.size 76 3 (⟨.slice A2 p2 c2,p2,zaa new⟩::hs.map Sh.row):=h.fam.head hg hown hor;refine⟨⟨cell_of_row _ sp 1 _ _ (0,0) hblk,free_at hblk _,(Array.getElem?_eq_some_iff.1 hblk).1⟩,⟨below_set hbel h.lo (Nat.le_refl _),hout.kept (za7 _ _ _) h.ne,hfam.kept (za7 _ _ _) fun x hx=>za5 (hfam.own x hx) hblk (by decide),?_,h.lo,h.ne⟩,fun h1 h2 h3=>zb9 (h3.kept hg (za4 hr h3 (fun e=>h2 e.symm))) hblk (fun e=>h1 e.symm)⟩;have h4:=blk_set (j:=1) hblk (.slice A2 p2 c2);exact h4
end
theorem z1a{l:List Arc3}{c k:Nat}(hc:c≤256)(h:∀a∈l,0≤a.2.1∧a.2.1≤256):∀a∈zeh l (c:Int) (k:Int),0≤a.2.1∧a.2.1≤256:=by
 intro a ha
 unfold zeh at ha;split at ha
 ·rename_i b hb
  split at ha
  ·rcases List.mem_append.1 ha with ha|ha
   ·exact h a (List.dropLast_subset _ ha)
   ·rw[List.mem_singleton.1 ha];exact⟨by show(0:Int)≤(c:Int);omega,by show(c:Int)≤256;omega⟩
  ·rcases List.mem_append.1 ha with ha|ha
   ·exact h a ha
   ·rw[List.mem_singleton.1 ha];exact⟨by show(0:Int)≤(c:Int);omega,by show(c:Int)≤256;omega⟩
 ·rw[List.mem_singleton.1 ha];exact⟨by show(0:Int)≤(c:Int);omega,by show(c:Int)≤256;omega⟩
theorem zw6(l:List Arc3)(c k:Int):(zeh l c k).length≤l.length+1:=by
 unfold zeh;split
 ·split
  ·rw[List.length_append,List.length_dropLast,List.length_singleton];omega
  ·rw[List.length_append,List.length_singleton];omega
 ·rw[List.length_singleton];omega
end
section
variable {σ:Type}
theorem Bfs.num_more{W:Bfs σ}{met more:List σ}{x:σ}{c k:Nat}(h:W.num met x c=some k):W.num (met++more) x c=some k:=by
 unfold Bfs.num at h⊢;obtain⟨y,hy,hf⟩:=Option.bind_eq_some_iff.1 h;rw[hy];show zai _ (met++more)=some k;rw[zba,hf]
structure ByP(W:Bfs σ)(x:σ)(met0:List σ)(c:Nat)(met:List σ)(arcs:List Arc3):Prop where
 row:met=W.row x met0 c
 arcs:arcs=runs (W.num met x) c
 has:∀c',c'<c→∀y,W.step x c'=some y→∃k,W.num met x c'=some k
theorem ByP.start(W:Bfs σ)(x:σ)(met:List σ):ByP W x met 0 met []:=⟨rfl,rfl,fun c h=>absurd h (by omega)⟩
section
variable {W:Bfs σ}{x y:σ}{met0 met:List σ}{c k:Nat}{arcs:List Arc3}
theorem ByP.none_(h:ByP W x met0 c met arcs)(hn:W.step x c=none):ByP W x met0 (c+1) met arcs:=by
 refine⟨by rw[Bfs.row,hn];exact h.row,?_,fun c' hc y hy=>?_⟩
 ·have hnum:W.num met x c=none:=by unfold Bfs.num;rw[hn];rfl
  rw[runs,hnum];exact h.arcs
 ·by_cases e:c'<c
  ·exact h.has c' e y hy
  ·obtain rfl:c'=c:=by omega
   rw[hn]at hy;cases hy
theorem ByP.old(h:ByP W x met0 c met arcs)(hy:W.step x c=some y)(hf:zai (fun z=>W.eqv z y) met=some k):ByP W x met0 (c+1) met (zeh arcs (c:Int) (k:Int)):=by
 have hnum:W.num met x c=some k:=by unfold Bfs.num;rw[hy];exact hf
 refine⟨by rw[Bfs.row,hy];simp only;rw[←h.row,hf],by rw[runs,hnum,h.arcs],fun c' hc y' hy'=>?_⟩;by_cases e:c'<c
 ·exact h.has c' e y' hy'
 ·obtain rfl:c'=c:=by omega
  exact⟨k,hnum⟩
theorem ByP.new(he:∀z,W.eqv (W.rep z) z=true)(h:ByP W x met0 c met arcs)(hy:W.step x c=some y)(hf:zai (fun z=>W.eqv z y) met=none):ByP W x met0 (c+1) (met++[W.rep y]) (zeh arcs (c:Int) (met.length:Int)):=by
 have hnum:W.num (met++[W.rep y]) x c=some met.length:=by
  unfold Bfs.num;rw[hy];show zai _ (met++[W.rep y])=_;rw[zba,hf];simp[zai,he]
 have hold:∀c',c'<c→W.num (met++[W.rep y]) x c'=W.num met x c':=fun c' hc=>by
  cases hs:W.step x c' with
  |none=>unfold Bfs.num;rw[hs];rfl
  |
   some z=>
   obtain⟨k,hk⟩:=h.has c' hc z hs;rw[hk];exact Bfs.num_more hk
 refine⟨by rw[Bfs.row,hy];simp only;rw[←h.row,hf],?_,fun c' hc y' hy'=>?_⟩
 ·rw[runs,hnum,h.arcs,zcc c hold]
 ·by_cases e:c'<c
  ·obtain⟨k,hk⟩:=h.has c' e y' hy';exact⟨k,Bfs.num_more hk⟩
  ·obtain rfl:c'=c:=by omega
   exact⟨_,hnum⟩
end
structure ByA(W:Bfs σ)(fin:σ→Bool)(x0:σ)(i:Nat)(met:List σ)(ds:List St):Prop where
 run:met=W.run i 0 [x0]
 le:i≤met.length
 out:ds=(met.take i).map fun x=>(fin x,runs (W.num met x) 256)
 has:∀j x,j<i→met[j]? =some x→∀c,c<256→∀y,W.step x c=some y→∃k,W.num met x c=some k
theorem ByA.start(W:Bfs σ)(fin:σ→Bool)(x0:σ):ByA W fin x0 0 [x0] []:=⟨rfl,Nat.zero_le _,rfl,fun j x h=>absurd h (by omega)⟩
theorem ByA.step{W:Bfs σ}{fin:σ→Bool}{x0 x:σ}{i:Nat}{met met1:List σ}{ds:List St}{arcs:List Arc3}(h:ByA W fin x0 i met ds)(hx:met[i]? =some x)(hb:ByP W x met 256 met1 arcs):ByA W fin x0 (i+1) met1 (ds++[(fin x,arcs)]):=by
 obtain⟨more,hm⟩:=W.row_pre x met 256;rw[←hb.row]at hm;have hil:=(List.getElem?_eq_some_iff.1 hx).1;have hrun:met1=W.run (i+1) 0 [x0]:=by
  rw[W.run_succ,Nat.zero_add,←h.run,hx];exact hb.row
 have hpre:∀j,j<i→met1[j]? =met[j]? :=fun j hj=>by rw[hm,List.getElem?_append_left (by omega)]
 have hx1:met1[i]? =some x:=by rw[hm,List.getElem?_append_left hil];exact hx
 refine⟨hrun,by rw[hm,List.length_append];omega,?_,fun j z hj hz c hc y hy=>?_⟩
 ·rw[List.take_add_one,hx1];show _=((met1.take i++[x]).map _);rw[List.map_append,h.out];congr 1
  ·have e:met1.take i=met.take i:=by rw[hm,List.take_append_of_le_length (by omega)]
   rw[e];refine List.map_congr_left fun z hz=>?_
   obtain⟨j,hj⟩:=List.mem_iff_getElem?.1 hz;have hji:j<i:=by
    have:=(List.getElem?_eq_some_iff.1 hj).1;rw[List.length_take]at this;omega
   rw[List.getElem?_take_of_lt hji]at hj;refine congrArg (Prod.mk (fin z)) (zcc 256 fun c hc=>?_);cases hs:W.step z c with
   |none=>unfold Bfs.num;rw[hs];rfl
   |
    some y=>
    obtain⟨k,hk⟩:=h.has j z hji hj c hc y hs;rw[hk,hm];exact(Bfs.num_more hk).symm
  ·rw[hb.arcs];rfl
 ·by_cases e:j<i
  ·rw[hpre j e]at hz;obtain⟨k,hk⟩:=h.has j z e hz c hc y hy;rw[hm];exact⟨k,Bfs.num_more hk⟩
  ·obtain rfl:j=i:=by omega
   rw[hx1]at hz;injection hz with hz
   subst hz;exact hb.has c hc y hy
theorem ByA.last{W:Bfs σ}{fin:σ→Bool}{x0:σ}{i:Nat}{met:List σ}{ds:List St}(h:ByA W fin x0 i met ds)(hi:met.length≤i):ds=W.out fin met∧met=W.run i 0 [x0]∧(W.run i 0 [x0])[i]? =none:=by
 refine⟨?_,h.run,?_⟩
 ·rw[h.out,List.take_of_length_le hi];rfl
 ·rw[←h.run];exact List.getElem?_eq_none hi
theorem ByA.leq[DecidableEq σ]{W:Bfs σ}(hW:Plain W){fin:σ→Bool}{x0:σ}{i:Nat}{met:List σ}{ds:List St}(h:ByA W fin x0 i met ds)(hi:met.length≤i):Leq (auOf ds) 0 ⟨fin,W.step⟩ x0:=by
 obtain⟨h1,h2,h3⟩:=h.last hi;rw[h1];intro s
 refine ztk W fin (fun z y hzy=>?_) (fun y hy=>?_) s 0 x0 ?_
 ·rw[hW.eqv,decide_eq_true_eq]at hzy;rw[hzy];exact Leq.refl _ _
 ·rw[h2]at hy⊢;obtain⟨j,hj⟩:=List.mem_iff_getElem?.1 hy;have h4:=(List.getElem?_eq_some_iff.1 hj).1;have h5:=List.getElem?_eq_none_iff.1 h3;exact Bfs.run_met W hW.refl x0 i j y (by omega) hj
 ·rw[h2];exact zeb W x0 i
theorem ByA.good{W:Bfs σ}{fin:σ→Bool}{x0:σ}{i:Nat}{met:List σ}{ds:List St}(h:ByA W fin x0 i met ds)(hi:met.length≤i)(hl:met.length≤20000):Good ds:=by
 obtain⟨h1,h2,_⟩:=h.last hi;rw[h1];refine zu0 W fin (fun e=>?_) hl;have:=zeb W x0 i;rw[←h2,e]at this;cases this
end
section
open Go.RowKit
theorem zr8(w:World)(B:Nat)(hB:B≤w.heap.size)(A:Option Addr)(n c:Nat)(H:List Sh)(h:StsIn w B A n c H):
  Calls Tryz.prog 18 #[.slice A n c] w fun e w'=>e=.returned (.int .i64 (zb2 (H.map (·.d))))∧Below w.heap.size w w':=by
 have HS:=Lib.hid h;have hlen:=h.len;have hcm:=h.cm;by_cases h0:n=0
 ·subst h0;have hH:H=[]:=List.eq_nil_of_length_eq_zero hlen;have HE:Hid (zb2 (H.map (·.d))=1):=by rw[hH];rfl
  clear h hlen hH;go_enter Tryz.func18,Tryz.ntmps18
  go_wp2_with fail;go_ret;exact⟨by rw[HE.out];rfl,za0 w⟩
 have q0:((n:Int)==0)=false:=by simp;omega
 have q01:(n==0)=false:=by simp;omega
 by_cases hbig:20000<n
 ·have q1:decide ((n:Int)>20000)=true:=decide_eq_true (by omega);have q2:decide (n>20000)=true:=decide_eq_true (by omega);have HE:Hid (zb2 (H.map (·.d))=8):=by
   show _=_;unfold zb2;rw[if_neg (by intro e;rw[List.map_eq_nil_iff]at e;rw[e]at hlen;exact h0 hlen.symm),List.length_map,hlen,if_pos hbig]
  clear h hlen hbig;go_enter Tryz.func18,Tryz.ntmps18
  go_wp2_with fail;go_ret;exact⟨by rw[HE.out];rfl,za0 w⟩
 have q1:decide ((n:Int)>20000)=false:=decide_eq_false (by omega);have q2:decide (n>20000)=false:=decide_eq_false (by omega);have HE:Hid (zb2 (H.map (·.d))=if(H.map (·.d)).all (fun s=>okA n (-1) s.2)then 0 else 3):=by
  show _=_;unfold zb2;rw[if_neg (by intro e;rw[List.map_eq_nil_iff]at e;rw[e]at hlen;exact h0 hlen.symm),List.length_map,hlen,if_neg hbig]
 clear h hbig;go_enter Tryz.func18,Tryz.ntmps18
 go_wp2_with fail;clear q0 q01 q1 q2;go_loopw [3] (fun iv wr=>∃k:Nat,k≤n∧iv=.int .i64 k∧Hid (∀x∈H.take k,okA n (-1) x.d.2=true)∧Hid (Below w.heap.size w wr)) (fun iv _=>n-(intOf iv).toNat)
 case atStart=>exact⟨0,Nat.zero_le _,rfl,fun x hx=>by simp at hx,za0 w⟩
 case round=>
  obtain⟨k,hk,rfl,HK,HB⟩:=hrel;by_cases hlt:k<n
  ·obtain⟨x,hx⟩:∃x,H[k]? =some x:=⟨H[k]'(by omega),List.getElem?_eq_getElem _⟩;have hxm:=List.mem_of_getElem? hx;have hxar:=HS.out.ar x hxm;obtain⟨m,hm⟩:∃m,x.d.2.length=m:=⟨_,rfl⟩;have hm47:=hxar.2.2;have hmc:=hxar.2.1;rw[hm]at hm47 hmc;obtain⟨b,off,rfl,hb,_⟩:=HS.out.at_ (by omega);have HM:=Lib.hid hm;have HXM:=Lib.hid hxm;have HXK:=Lib.hid hx;have i0:(0:Int)≤(k:Int):=by omega
   have i1:(k:Int)<(n:Int):=by omega
   clear hx hxm hxar hm;have H0:Hid (okA n (-1) x.d.2=okA n (-1) (x.d.2.drop 0)∧((0=0∧(-1:Int)= -1)∨∃pa,x.d.2[0-1]? =some pa∧(-1:Int)=pa.2.1∧0<0)):=⟨rfl,.inl ⟨rfl,rfl⟩⟩;go_wp2_with fail;go_loopw [4] (fun jv wj=>∃(j:Nat) (last:Int),j≤m∧jv=.int .i64 j∧-1≤last∧Hid (okA n (-1) x.d.2=okA n last (x.d.2.drop j)∧((j=0∧last= -1)∨∃pa,x.d.2[j-1]? =some pa∧last=pa.2.1∧0<j))∧Hid (Below w.heap.size w wj)) (fun jv _=>m-(intOf jv).toNat)
   case atStart=>exact⟨0,-1,Nat.zero_le _,rfl,by omega,⟨rfl,.inl ⟨rfl,rfl⟩⟩,HB⟩
   case round=>
    clear H0;obtain⟨j,last,hj,rfl,hl1,HO,HBJ⟩:=hrel;have HWJ:=Lib.hid (HS.out.keep (HBJ.out.mono hB) (Nat.le_refl _));obtain⟨b',off',hbb,_,hcell⟩:=HWJ.out.at_ (by omega);injection hbb with hbb
    injection hbb with hb1 hb2 _
    subst hb1 hb2;obtain⟨_,k1⟩:=hcell k x HXK.out;rw[HM.out]at k1;have hbw:b<wr.heap.size:=Nat.lt_of_lt_of_le hb (Nat.le_trans hB HBJ.out.size);clear hcell;by_cases hjm:j<m
    ·obtain⟨ab,aoff,hxA,hab,hac⟩:=HWJ.out.arc HXM.out (by rw[HM.out];omega);obtain⟨a,ha⟩:∃a,x.d.2[j]? =some a:=⟨x.d.2[j]'(by rw[HM.out];exact hjm),List.getElem?_eq_getElem _⟩;obtain⟨a0,a1,a2⟩:=hac j a ha;have habw:ab<wr.heap.size:=Nat.lt_of_lt_of_le hab (Nat.le_trans hB HBJ.out.size);have hdrop:x.d.2.drop j=a::x.d.2.drop (j+1):=by
      obtain⟨h1,h2⟩:=List.getElem?_eq_some_iff.1 ha;rw[List.drop_eq_getElem_cons h1,h2]
     have hoo:=HO.out.1;rw[hdrop,okA]at hoo;have HOO:=Lib.hid hoo;have HBN:=Lib.hid (bnew HBJ.out (.cells #[.int .i64 a.1,.int .i64 a.2.1,.int .i64 a.2.2] 76));rw[hxA]at k1;have HA:=Lib.hid ha;have hpv:j=0∧last= -1∨0<j∧wr.cell? ⟨ab,aoff+(j-1)*3+1,none⟩=some (.int .i64 last):=by
      rcases HO.out.2 with h|⟨pa,h1,h2,h3⟩
      ·exact .inl h
      ·exact .inr ⟨h3,by rw[h2];exact(hac (j-1) pa h1).2.1⟩
     clear hac ha hdrop hoo HO;obtain⟨lo,hi,tt⟩:=a;simp only at a0 a1 a2 HOO HBN;have HBAD:Hid (¬(last<lo∧lo≤hi∧hi≤255∧0≤tt∧tt<(n:Int))→zb2 (H.map (·.d))=3):=fun hbad=>by
      rw[HE.out,if_neg];rw[List.all_eq_true];intro h
      have:=h x.d (List.mem_map_of_mem HXM.out);rw[HOO.out,decide_eq_false hbad]at this;simp at this
     by_cases c1:lo<0
     ·have p1:decide (lo<0)=true:=decide_eq_true c1;have HB3:=Lib.hid (HBAD.out (by omega));clear hpv c1;go_wp2_with fail;go_region
      all_goals
       go_wp2_with fail;go_ret;exact⟨by rw[HB3.out];rfl,by first|exact HBN.out|exact Below.drew HBN.out⟩
     have p1:decide (lo<0)=false:=decide_eq_false c1;by_cases c2:255<hi
     ·have p2:decide (hi>255)=true:=decide_eq_true c2;have HB3:=Lib.hid (HBAD.out (by omega));clear hpv c1;go_wp2_with fail;go_region
      all_goals
       go_wp2_with fail;go_ret;exact⟨by rw[HB3.out];rfl,by first|exact HBN.out|exact Below.drew HBN.out⟩
     have p2:decide (hi>255)=false:=decide_eq_false c2;by_cases c3:hi<lo
     ·have p3:decide (lo>hi)=true:=decide_eq_true c3;have HB3:=Lib.hid (HBAD.out (by omega));clear hpv c1 c2;go_wp2_with fail;go_region
      all_goals
       go_wp2_with fail;go_ret;exact⟨by rw[HB3.out];rfl,by first|exact HBN.out|exact Below.drew HBN.out⟩
     have p3:decide (lo>hi)=false:=decide_eq_false c3;by_cases c4:tt<0
     ·have p4:decide (tt<0)=true:=decide_eq_true c4;have HB3:=Lib.hid (HBAD.out (by omega));clear hpv c1 c2 c3;go_wp2_with fail;go_region
      all_goals
       go_wp2_with fail;go_ret;exact⟨by rw[HB3.out];rfl,by first|exact HBN.out|exact Below.drew HBN.out⟩
     have p4:decide (tt<0)=false:=decide_eq_false c4;by_cases c5:(n:Int)≤tt
     ·have p5:decide (tt≥(n:Int))=true:=decide_eq_true c5;have HB3:=Lib.hid (HBAD.out (by omega));clear hpv c1 c2 c3 c4;go_wp2_with fail;go_region
      all_goals
       go_wp2_with fail;go_ret;exact⟨by rw[HB3.out];rfl,by first|exact HBN.out|exact Below.drew HBN.out⟩
     have p5:decide (tt≥(n:Int))=false:=decide_eq_false c5;have hrelN:last<lo→Hid (okA n (-1) x.d.2=okA n hi (x.d.2.drop (j+1))∧((j+1=0∧hi= -1)∨∃pa,x.d.2[j+1-1]? =some pa∧hi=pa.2.1∧0<j+1)):=fun hll=>by
      refine⟨?_,.inr ⟨(lo,hi,tt),HA.out,rfl,by omega⟩⟩;rw[HOO.out,decide_eq_true (by omega)];rfl
     rcases hpv with⟨hj0,hl0⟩|⟨hj0,kp⟩
     ·have HON:=hrelN (by omega);have hhi: -1≤hi:=by omega
      have p6:decide ((j:Int)>0)=false:=decide_eq_false (by omega);have p7:decide (j>0)=false:=decide_eq_false (by omega);clear c1 c2 c3 c4 c5 hrelN hl0 hj0;go_wp2_with fail;go_region
      all_goals
       go_wp2_with fail;go_roundw;case rel=>exact⟨j+1,hi,by omega,by go_num,hhi,HON,by first|exact HBN|exact Below.drew HBN.out⟩
       case measure=>simp[intOf];omega
     ·have p6:decide ((j:Int)>0)=true:=decide_eq_true (by omega);have p7:decide (j>0)=true:=decide_eq_true (by omega);obtain⟨jp,hjp⟩:∃p,j-1=p:=⟨_,rfl⟩;have hidx:(j:Int)-1=(jp:Int):=by omega
      rw[hjp]at kp;have i2:(0:Int)≤(jp:Int):=by omega
      have i3:(jp:Int)<(m:Int):=by omega
      by_cases c6:lo≤last
      ·have p8:decide (last≥lo)=true:=decide_eq_true c6;have HB3:=Lib.hid (HBAD.out (by omega));clear c1 c2 c3 c4 c5 hrelN hjp;go_wp2_with fail;go_region
       all_goals
        go_wp2_with fail;go_ret;exact⟨by rw[HB3.out];rfl,by first|exact HBN.out|exact Below.drew HBN.out⟩
      ·have p8:decide (last≥lo)=false:=decide_eq_false c6;have HON:=hrelN (by omega);have hhi: -1≤hi:=by omega
       clear c1 c2 c3 c4 c5 c6 hrelN hjp;go_wp2_with fail;go_region
       all_goals
        go_wp2_with fail;go_roundw;case rel=>exact⟨j+1,hi,by omega,by go_num,hhi,HON,by first|exact HBN|exact Below.drew HBN.out⟩
        case measure=>simp[intOf];omega
    ·obtain rfl:j=m:=by omega
     have hok:okA n (-1) x.d.2=true:=by
      rw[HO.out.1,List.drop_of_length_le (by rw[HM.out];exact Nat.le_refl _)];rfl
     have HKN:Hid (∀y∈H.take (k+1),okA n (-1) y.d.2=true):=fun y hy=>by
      rw[List.take_add_one,HXK.out]at hy;rcases List.mem_append.1 hy with hy|hy
      ·exact HK.out y hy
      ·rw[List.mem_singleton.1 hy];exact hok
     clear hok;go_wp2_with fail;go_roundw;case rel=>exact⟨k+1,by omega,by go_num,HKN,HBJ⟩
     case measure=>simp[intOf];omega
  ·obtain rfl:k=n:=by omega
   have hall:H.take k=H:=List.take_of_length_le (by omega);rw[hall]at HK;have HE2:Hid (zb2 (H.map (·.d))=0):=by
    show _=_;rw[HE.out,if_pos];rw[List.all_eq_true];intro s hs
    obtain⟨x,hx,rfl⟩:=List.mem_map.1 hs;exact HK.out x hx
   go_wp2_with fail;go_ret;exact⟨by rw[HE2.out];rfl,HB.out⟩
end
section
open Go.RowKit Go.Maps
def zK8(p:Nat×Nat):List Value:=[.int .i64 (p.1:Int),.int .i64 (p.2:Int)]
def z7f(l:List (Nat×Nat)):List Value:=l.flatMap zK8
def zj1(p:Nat×Nat):List Int:=[(p.1:Int),(p.2:Int)]
theorem zra(l:List (Nat×Nat)):(z7f l).length=l.length*2:=flat_length zK8 2 (fun _=>rfl) l
end
section
open Go.RowKit Go.Maps
structure Br where
 A:Option Addr
 c:Nat
 l:List Bool
def Br.val(x:Br):Value:=.slice x.A x.l.length x.c
def Br.row(x:Br):GRow:=⟨x.val,x.l.length,x.l.map .bool⟩
structure Mat(w:World)(B:Nat)(A:Option Addr)(n:Nat)(R:List Br):Prop where
 len:R.length=n
 sl:Sl w B 1 A n (R.map Br.val)
 ar:∀x∈R,Sl w B 1 x.A x.l.length (x.l.map .bool)∧x.l.length=n
section
variable {w w':World}{B B' n:Nat}{A:Option Addr}{R:List Br}
theorem Mat.keep(h:Mat w B A n R)(hb:Below B w w')(hB:B≤B'):Mat w' B' A n R:=
 ⟨h.len,(h.sl.below hb).more hB,fun x hx=>⟨((h.ar x hx).1.below hb).more hB,(h.ar x hx).2⟩⟩
theorem Mat.cell(h:Mat w B A n R){i k:Nat}(hi:i<n)(hk:k<n):∃b,zi3 (R.map (·.l)) i k=some b:=by
 obtain⟨x,hx⟩:∃x,R[i]? =some x:=⟨R[i]'(by rw[h.len];exact hi),List.getElem?_eq_getElem _⟩;have hl:=(h.ar x (List.mem_of_getElem? hx)).2;unfold zi3;rw[List.getElem?_map,hx];exact⟨x.l[k]'(by omega),List.getElem?_eq_getElem _⟩
theorem Mat.get(h:Mat w B A n R){i k:Nat}{b:Bool}(hi:zi3 (R.map (·.l)) i k=some b):∃ob oo xc rb ro,A=some ⟨ob,oo,none⟩∧ob<B∧w.cell? ⟨ob,oo+i,none⟩=some (.slice (some ⟨rb,ro,none⟩) n xc)∧rb<B∧w.cell? ⟨rb,ro+k,none⟩=some (.bool b):=by
 unfold zi3 at hi;obtain⟨r,hr,hk⟩:=Option.bind_eq_some_iff.1 hi;rw[List.getElem?_map]at hr;obtain⟨x,hx,rfl⟩:=Option.map_eq_some_iff.1 hr;have h1:=(List.getElem?_eq_some_iff.1 hx).1;obtain⟨h2,h3⟩:=h.ar x (List.mem_of_getElem? hx);have h4:=(List.getElem?_eq_some_iff.1 hk).1;obtain⟨ob,oo,rfl,hob,hc⟩:=h.sl.at_ (show 0<n by omega);obtain⟨rb,ro,hA,hrb,hrc⟩:=h2.at_ (show 0<x.l.length by omega);have h5:=hc i x.val (by rw[List.getElem?_map,hx];rfl);unfold Br.val at h5;rw[hA,h3]at h5;exact⟨ob,oo,x.c,rb,ro,rfl,hob,h5,hrb,hrc k (.bool b) (by rw[List.getElem?_map,hk];rfl)⟩
end
end
section
def ap0(d:List St):List (List Bool):=d.map fun s=>d.map fun t=>s.1 !=t.1
theorem ApP.set{d:List St}(hg:Good d){L:List Bool}(hL:Gone d L){F:List (List Bool)}(h:ApP d F){i k:Nat}(hi:i<d.length)(hk:k<d.length){r:List Bool}(hr:F[i]? =some r)(hu:unlB d L F i k=true):ApP d (F.set i (r.set k true)):=by
 have hrl:=h.row r (List.mem_of_getElem? hr);refine⟨by rw[List.length_set];exact h.len,fun q hq=>?_,fun x y hxy=>?_,fun x y hx hy hf=>?_⟩
 ·rcases List.mem_or_eq_of_mem_set hq with hq|rfl
  ·exact h.row q hq
  ·rw[List.length_set];exact hrl
 ·rw[z2b hr (by omega)]at hxy;split at hxy
  ·rename_i e
   obtain⟨rfl,rfl⟩:=e;exact z63 hg hL h hi hk hu
  ·exact h.sound x y hxy
 ·rw[z2b hr (by omega)];split
  ·rfl
  ·exact h.base x y hx hy hf
def ApTo(d:List St)(L:List Bool)(F:List (List Bool))(i k:Nat):Prop:=∀i' k':Nat,i'<d.length→k'<d.length→(i'<i∨i'=i∧k'<k)→zi3 F i' k'=some false→unlB d L F i' k'=false
theorem ApTo.zero(d:List St)(L:List Bool)(F:List (List Bool)):ApTo d L F 0 0:=fun i' k' _ _ h=>by omega
theorem ApTo.one{d:List St}{L:List Bool}{F:List (List Bool)}{i k:Nat}(h:ApTo d L F i k)(hu:zi3 F i k=some false→unlB d L F i k=false):ApTo d L F i (k+1):=fun i' k' h1 h2 h3 h4=>by
 by_cases e:i'=i∧k'=k
 ·obtain⟨rfl,rfl⟩:=e;exact hu h4
 ·exact h i' k' h1 h2 (by omega) h4
theorem ApTo.next{d:List St}{L:List Bool}{F:List (List Bool)}{i k:Nat}(h:ApTo d L F i k)(hk:d.length≤k):ApTo d L F (i+1) 0:=fun i' k' h1 h2 h3 h4=>h i' k' h1 h2 (by omega) h4
structure IniP(d:List St)(F:List (List Bool))(i k:Nat):Prop where
 len:F.length=d.length
 done:∀(x:Nat) s,x<i→d[x]? =some s→F[x]? =some (d.map fun t=>s.1 !=t.1)
 cur:∀s,d[i]? =some s→0<k→∃r,F[i]? =some r∧r.length=d.length∧∀(y:Nat) t,y<k→d[y]? =some t→r[y]? =some (s.1 !=t.1)
theorem IniP.start{d:List St}{F:List (List Bool)}(h:F.length=d.length):IniP d F 0 0:=⟨h,fun x s h=>absurd h (by omega),fun s _ h=>absurd h (by omega)⟩
theorem IniP.one{d:List St}{F:List (List Bool)}{i k:Nat}{s t:St}{r:List Bool}(h:IniP d F i k)(hs:d[i]? =some s)(ht:d[k]? =some t)(hr:F[i]? =some r)(hl:r.length=d.length):IniP d (F.set i (r.set k (s.1 !=t.1))) i (k+1):=by
 have hi:=(List.getElem?_eq_some_iff.1 hr).1;have hk:=(List.getElem?_eq_some_iff.1 ht).1;refine⟨by rw[List.length_set];exact h.len,fun x s' hx hs'=>by rw[List.getElem?_set_ne (by omega)];exact h.done x s' hx hs',fun s' hs' _=>?_⟩;rw[hs]at hs';injection hs' with hs'
 subst hs';refine⟨r.set k (s.1 !=t.1),by rw[List.getElem?_set_self hi],by rw[List.length_set];exact hl,fun y u hy hu=>?_⟩;by_cases e:k=y
 ·subst e;rw[ht]at hu;injection hu with hu
  subst hu;rw[List.getElem?_set_self (by omega)]
 ·rw[List.getElem?_set_ne e];obtain⟨r',h1,h2,h3⟩:=h.cur s hs (by omega);rw[hr]at h1;injection h1 with h1
  subst h1;exact h3 y u (by omega) hu
theorem IniP.next{d:List St}{F:List (List Bool)}{i k:Nat}(h:IniP d F i k)(hk:d.length≤k)(hi:i<d.length):IniP d F (i+1) 0:=by
 refine⟨h.len,fun x s hx hs=>?_,fun s _ h=>absurd h (by omega)⟩;by_cases e:x<i
 ·exact h.done x s e hs
 ·obtain rfl:x=i:=by omega
  obtain⟨r,h1,h2,h3⟩:=h.cur s hs (by omega);rw[h1];congr 1
  apply List.ext_getElem?
  intro y
  by_cases hy:y<d.length
  ·rw[h3 y d[y] (by omega) (List.getElem?_eq_getElem hy),List.getElem?_map,List.getElem?_eq_getElem hy];rfl
  ·rw[List.getElem?_eq_none (by omega),List.getElem?_eq_none (by rw[List.length_map];omega)]
theorem IniP.last{d:List St}{F:List (List Bool)}(h:IniP d F d.length 0):F=ap0 d:=by
 unfold ap0;apply List.ext_getElem?
 intro y
 by_cases hy:y<d.length
 ·rw[h.done y d[y] hy (List.getElem?_eq_getElem hy),List.getElem?_map,List.getElem?_eq_getElem hy];rfl
 ·rw[List.getElem?_eq_none (by rw[h.len];omega),List.getElem?_eq_none (by rw[List.length_map];omega)]
end
section
open Go.RowKit Go.Maps
abbrev natC(l:List Nat):List Value:=l.map fun z:Nat=>Value.int .i64 (z:Int)
def MetP(n:Nat)(met:List Nat):Prop:=met.Nodup∧∀x∈met,x<n
theorem MetP.few{n:Nat}{met:List Nat}(h:MetP n met):met.length≤n:=zq4 (cls:=id) h.1 h.2
end
section
open Go.RowKit Go.Maps
structure BoC(w W:World)(a e:List St)(pp sp:Nat)(fin:Bool)(Ao:Option Addr)(q co:Nat)(hs:List Sh)(u v:Nat)(ch:Nat)(ps0:List (Nat×Nat))(Ap:Option Addr)(m cp:Nat)(ps:List (Nat×Nat))(Ac:Option Addr)(pc cc:Nat)(arcs:List Arc3):Prop where
 gr:GrR w W sp fin Ao q co Ac pc cc arcs hs
 row_:W.ownsRow w.heap.size 161 2 (.slice Ap m cp) m (z7f ps)
 pb:W.heap[pp]? =some (.cells #[.int .i64 (u:Int),.int .i64 (v:Int)] 161 (0,0))
 pn:(Value.slice Ap m cp).ownBlock≠some pp
 by_:ByP (zci a e) (zj1 (u,v)) (ps0.map zj1) ch (ps.map zj1) arcs
 few:pc≤ch
 fewm:m≤ps0.length+ch
 hi:∀x∈arcs,0≤x.2.1∧x.2.1≤256
section
variable {w W W':World}{a e:List St}{pp sp:Nat}{fin:Bool}{Ao:Option Addr}{q co:Nat}{hs:List Sh}{u v ch:Nat}{ps0:List (Nat×Nat)}{Ap:Option Addr}{m cp:Nat}{ps:List (Nat×Nat)}{Ac:Option Addr}{pc cc:Nat}{arcs:List Arc3}
theorem BoC.keep(h:BoC w W a e pp sp fin Ao q co hs u v ch ps0 Ap m cp ps Ac pc cc arcs)(hb:Below W.heap.size W W'):BoC w W' a e pp sp fin Ao q co hs u v ch ps0 Ap m cp ps Ac pc cc arcs:=⟨h.gr.keep hb,za2 h.row_ hb,(hb.block pp (Array.getElem?_eq_some_iff.1 h.pb).1).trans h.pb,h.pn,h.by_,h.few,h.fewm,h.hi⟩
theorem BoC.len(h:BoC w W a e pp sp fin Ao q co hs u v ch ps0 Ap m cp ps Ac pc cc arcs):ps.length=m:=by
 have:=h.row_.1;rw[zra]at this;omega
theorem BoC.none_(h:BoC w W a e pp sp fin Ao q co hs u v ch ps0 Ap m cp ps Ac pc cc arcs)(hn:(zci a e).step (zj1 (u,v)) ch=none):BoC w W a e pp sp fin Ao q co hs u v (ch+1) ps0 Ap m cp ps Ac pc cc arcs:=⟨h.gr,h.row_,h.pb,h.pn,h.by_.none_ hn,by have:=h.few;omega,by have:=h.fewm;omega,h.hi⟩
theorem BoC.grow{y:Nat×Nat}{k:Nat}{ps1:List (Nat×Nat)}{Ap1:Option Addr}{m1 cp1:Nat}{A2:Option Addr}{p2 c2:Nat}{W1:World}
  (h:BoC w W a e pp sp fin Ao q co hs u v ch ps0 Ap m cp ps Ac pc cc arcs) (hch:ch<256) (hy:(zci a e).step (zj1 (u,v)) ch=some (zj1 y))
  (hk:(zai (fun z=>(zci a e).eqv z (zj1 y)) (ps.map zj1)=some k∧ps1=ps)∨(zai (fun z=>(zci a e).eqv z (zj1 y)) (ps.map zj1)=none∧k=(ps.map zj1).length∧ps1=ps++[y]))
  (hgr:GrR w W1 sp fin Ao q co Ac pc cc arcs hs) (hrow:W1.ownsRow w.heap.size 161 2 (.slice Ap1 m1 cp1) m1 (z7f ps1)) (hpb:W1.heap[pp]? =some (.cells #[.int .i64 (u:Int),.int .i64 (v:Int)] 161 (0,0))) (hpn:(Value.slice Ap1 m1 cp1).ownBlock≠some pp)
  (hp2:(zeh arcs (ch:Int) (k:Int)).length=p2) (hown:W'.ownsRow w.heap.size 76 3 (.slice A2 p2 c2) p2 (zaa (zeh arcs (ch:Int) (k:Int)))) (hg:W1.grownBy W' (Value.slice Ac pc cc).ownBlock) (hor:(Value.slice A2 p2 c2).ownBlock=(Value.slice Ac pc cc).ownBlock∨∃g,(Value.slice A2 p2 c2).ownBlock=some g∧W1.heap.size≤g):
  (W'.cell? ⟨sp,1,none⟩=some (.slice Ac pc cc)∧W'.frozen? ⟨sp,1,none⟩=false∧sp<W'.heap.size)∧BoC w (W'.setCell ⟨sp,1,none⟩ (.slice A2 p2 c2)) a e pp sp fin Ao q co hs u v (ch+1) ps0 Ap1 m1 cp1 ps1 A2 p2 c2 (zeh arcs (ch:Int) (k:Int)):=by
 obtain⟨h1,h2,h3⟩:=hgr.grow hown hg hor;have hpb1:W'.heap[pp]? =some (.cells #[.int .i64 (u:Int),.int .i64 (v:Int)] 161 (0,0)):=zc3 hgr.row hg hpb (by decide);have hne:pp≠sp:=fun e'=>by
  have h4:=hgr.blk;rw[←e',hpb]at h4;injection h4 with h4
  injection h4 with _ h4 _
  exact absurd h4 (by decide)
 have hlen:m1≤ps0.length+(ch+1):=by
  have h5:=hrow.1;rw[zra]at h5;have h6:=h.len;have h7:=h.fewm;rcases hk with⟨_,rfl⟩|⟨_,_,rfl⟩
  ·omega
  ·rw[List.length_append,List.length_singleton]at h5;omega
 refine⟨h1,h2,h3 (by decide) (by decide) hrow,zgc hpb1 hne,hpn,?_,?_,hlen,z1a (by omega) h.hi⟩
 ·rcases hk with⟨hf,rfl⟩|⟨hf,rfl,rfl⟩
  ·exact h.by_.old hy hf
  ·rw[List.map_append];exact h.by_.new (fun z=>decide_eq_true rfl) hy hf
 ·have:=zw6 arcs (ch:Int) (k:Int);have:=h.few;have:=h.gr.len;omega
end
end
section
open Go.RowKit Go.Maps
structure LsC(w W:World)(d:List St)(n sp:Nat)(fin:Bool)(Ao:Option Addr)(q co:Nat)(hs:List Sh)(x ch:Nat)(met0:List Nat)(Am:Option Addr)(m cm:Nat)(met:List Nat)(Ac:Option Addr)(pc cc:Nat)(arcs:List Arc3):Prop where
 gr:GrR w W sp fin Ao q co Ac pc cc arcs hs
 row_:W.ownsRow w.heap.size 3 1 (.slice Am m cm) m (natC met)
 mp:MetP n met
 by_:ByP (zb6 (auOf d) id) x met0 ch met arcs
 few:pc≤ch
 hi:∀a∈arcs,0≤a.2.1∧a.2.1≤256
section
variable {w W W':World}{d:List St}{n sp:Nat}{fin:Bool}{Ao:Option Addr}{q co:Nat}{hs:List Sh}{x ch:Nat}{met0:List Nat}{Am:Option Addr}{m cm:Nat}{met:List Nat}{Ac:Option Addr}{pc cc:Nat}{arcs:List Arc3}
theorem LsC.keep(h:LsC w W d n sp fin Ao q co hs x ch met0 Am m cm met Ac pc cc arcs)(hb:Below W.heap.size W W'):LsC w W' d n sp fin Ao q co hs x ch met0 Am m cm met Ac pc cc arcs:=⟨h.gr.keep hb,za2 h.row_ hb,h.mp,h.by_,h.few,h.hi⟩
theorem LsC.len(h:LsC w W d n sp fin Ao q co hs x ch met0 Am m cm met Ac pc cc arcs):met.length=m:=by
 have:=h.row_.1;unfold natC at this;rw[List.length_map]at this;omega
theorem LsC.none_(h:LsC w W d n sp fin Ao q co hs x ch met0 Am m cm met Ac pc cc arcs)(hn:(zb6 (auOf d) id).step x ch=none):LsC w W d n sp fin Ao q co hs x (ch+1) met0 Am m cm met Ac pc cc arcs:=⟨h.gr,h.row_,h.mp,h.by_.none_ hn,by have:=h.few;omega,h.hi⟩
open Classical in
theorem LsC.grow{y k:Nat}{met1:List Nat}{Am1:Option Addr}{m1 cm1:Nat}{A2:Option Addr}{p2 c2:Nat}{W1:World}
  (h:LsC w W d n sp fin Ao q co hs x ch met0 Am m cm met Ac pc cc arcs) (hch:ch<256) (hy:(zb6 (auOf d) id).step x ch=some y)
  (hk:(zai (fun z=>(zb6 (auOf d) id).eqv z y) met=some k∧met1=met)∨(zai (fun z=>(zb6 (auOf d) id).eqv z y) met=none∧k=met.length∧met1=met++[y])) (hmp:MetP n met1)
  (hgr:GrR w W1 sp fin Ao q co Ac pc cc arcs hs) (hmet:W1.ownsRow w.heap.size 3 1 (.slice Am1 m1 cm1) m1 (natC met1))
  (hp2:(zeh arcs (ch:Int) (k:Int)).length=p2) (hown:W'.ownsRow w.heap.size 76 3 (.slice A2 p2 c2) p2 (zaa (zeh arcs (ch:Int) (k:Int)))) (hg:W1.grownBy W' (Value.slice Ac pc cc).ownBlock) (hor:(Value.slice A2 p2 c2).ownBlock=(Value.slice Ac pc cc).ownBlock∨∃g,(Value.slice A2 p2 c2).ownBlock=some g∧W1.heap.size≤g):
  (W'.cell? ⟨sp,1,none⟩=some (.slice Ac pc cc)∧W'.frozen? ⟨sp,1,none⟩=false∧sp<W'.heap.size)∧LsC w (W'.setCell ⟨sp,1,none⟩ (.slice A2 p2 c2)) d n sp fin Ao q co hs x (ch+1) met0 Am1 m1 cm1 met1 A2 p2 c2 (zeh arcs (ch:Int) (k:Int)):=by
 obtain⟨h1,h2,h3⟩:=hgr.grow hown hg hor;refine⟨h1,h2,h3 (by decide) (by decide) hmet,hmp,?_,?_,z1a (by omega) h.hi⟩
 ·rcases hk with⟨hf,rfl⟩|⟨hf,rfl,rfl⟩
  ·exact h.by_.old hy hf
  ·exact h.by_.new (fun z=>decide_eq_true (Leq.refl _ _)) hy hf
 ·have:=zw6 arcs (ch:Int) (k:Int);have:=h.few;have:=h.gr.len;omega
open Classical in
theorem MetP.new{y:Nat}(h:MetP n met)(hy:y<n)(hf:zai (fun z=>(zb6 (auOf d) id).eqv z y) met=none):MetP n (met++[y]):=by
 refine⟨List.nodup_append.2 ⟨h.1,(by simp),fun a ha b hb e=>?_⟩,fun z hz=>?_⟩
 ·rw[List.mem_singleton.1 hb]at e;subst e;have:=ze8.1 hf a ha;have h2:(zb6 (auOf d) id).eqv a a=true:=decide_eq_true (Leq.refl _ _);rw[this]at h2;cases h2
 ·rcases List.mem_append.1 hz with hz|hz
  ·exact h.2 z hz
  ·rw[List.mem_singleton.1 hz];exact hy
end
end
section
open Go.RowKit Go.Maps
structure ApR(w W:World)(ob oc n:Nat)(R:List Br):Prop where
 out:W.ownsRow w.heap.size 59 1 (.slice (some ⟨ob,0,none⟩) n oc) n (R.map Br.val)
 fam:GFam W w.heap.size 4 1 (R.map Br.row)
 bel:Below w.heap.size w W
section
variable {w W W':World}{ob oc n:Nat}{R:List Br}
theorem ApR.keep(h:ApR w W ob oc n R)(hb:Below W.heap.size W W'):ApR w W' ob oc n R:=⟨za2 h.out hb,h.fam.below hb,za9 h.bel hb⟩
theorem ApR.len(h:ApR w W ob oc n R):R.length=n:=by
 have:=h.out.1;rw[List.length_map]at this;omega
theorem ApR.own(h:ApR w W ob oc n R){x:Br}(hx:x∈R):W.ownsRow w.heap.size 4 1 (.slice x.A x.l.length x.c) x.l.length (x.l.map .bool):=h.fam.own x.row (List.mem_map.2 ⟨x,hx,rfl⟩)
theorem ApR.mat(h:ApR w W ob oc n R)(hl:∀x∈R,x.l.length=n):Mat W W.heap.size (some ⟨ob,0,none⟩) n R:=
 ⟨h.len,Sl.of_own h.out,fun x hx=>⟨Sl.of_own (h.own hx),hl x hx⟩⟩
theorem ApR.row(h:ApR w W ob oc n R){i:Nat}{x:Br}(hx:R[i]? =some x):W.cell? ⟨ob,i,none⟩=some (.slice x.A x.l.length x.c)∧W.frozen? ⟨ob,i,none⟩=false∧ob<W.heap.size:=by
 obtain⟨_,q2,cs,q3⟩:=zb3 h.out;exact⟨zak h.out (by rw[List.getElem?_map,hx];rfl),free_at q3 _,q2⟩
theorem ApR.get(h:ApR w W ob oc n R){i k:Nat}{x:Br}{b:Bool}(hx:R[i]? =some x)(hk:x.l[k]? =some b):∃g,x.A=some ⟨g,0,none⟩∧g<W.heap.size∧W.cell? ⟨g,k,none⟩=some (.bool b)∧W.frozen? ⟨g,k,none⟩=false:=by
 have ho:=h.own (List.mem_of_getElem? hx);have hl:=(List.getElem?_eq_some_iff.1 hk).1;obtain⟨g,hA,_,_⟩:=zah ho (by omega);rw[hA]at ho;obtain⟨q1,q2,cs,q3⟩:=zb3 ho;exact⟨g,hA,q2,zak ho (by rw[List.getElem?_map,hk];rfl),free_at q3 _⟩
theorem ApR.put(h:ApR w W ob oc n R){i:Nat}{x:Br}{g:Nat}(hx:R[i]? =some x)(hA:x.A=some ⟨g,0,none⟩)(k:Nat)(b:Bool):ApR w (W.setCell ⟨g,k,none⟩ (.bool b)) ob oc n (R.set i ⟨x.A,x.c,x.l.set k b⟩):=by
 have ho:=h.own (List.mem_of_getElem? hx);rw[hA]at ho;obtain⟨q1,q2,cs,q3⟩:=zb3 ho;refine⟨?_,?_,below_set h.bel q1 (Nat.le_refl _)⟩
 ·have h1:=zb9 (j:=k) (u:=.bool b) h.out q3 (by decide);have e:(R.set i ⟨x.A,x.c,x.l.set k b⟩).map Br.val=R.map Br.val:=by
   rw[List.map_set];have e2:(⟨x.A,x.c,x.l.set k b⟩:Br).val=x.val:=by unfold Br.val;simp
   rw[e2];apply List.ext_getElem?
   intro j
   by_cases hj:i=j
   ·subst hj;rw[List.getElem?_set_self (by rw[List.length_map];exact(List.getElem?_eq_some_iff.1 hx).1),List.getElem?_map,hx];rfl
   ·rw[List.getElem?_set_ne hj]
  rw[e];exact h1
 ·rw[List.map_set];have hxr:(R.map Br.row)[i]? =some x.row:=by rw[List.getElem?_map,hx];rfl
  have h1:=h.fam;rw[zfa hxr];rw[zgh hxr]at h1;have hv:x.row.v.ownBlock=some g:=by show(Value.slice x.A _ _).ownBlock=_;rw[hA];rfl
  refine h1.grow (W2:=W.setCell ⟨g,k,none⟩ (.bool b)) (by rw[hv];exact za7 _ _ _) ?_ (.inl (by show(Value.slice x.A _ _).ownBlock=_;rw[hA,hv];rfl));have h2:=zf0 (j:=k) (u:=.bool b) ho;show(W.setCell _ _).ownsRow _ _ 1 (Value.slice x.A (x.l.set k b).length x.c) (x.l.set k b).length ((x.l.set k b).map .bool);rw[hA,List.length_set,List.map_set];exact h2
end
end
section
open Go.RowKit Go.Maps
def Br.nil:Br:=⟨none,0,[]⟩
theorem GFam.nils(W:World)(base e s:Nat):∀n,GFam W base e s (List.replicate n GRow.nil)
 |0=>GFam.nil W base e s
 |
  n+1=>by
  rw[List.replicate_succ];exact(GFam.nils W base e s n).cons_nil
theorem ApR.start(w:World)(n:Nat)(hn:n≤1099511627776):ApR w (w.alloc (.cells (madeCells #[.slice none 0 0] n) 59)) w.heap.size n n (List.replicate n Br.nil):=by
 refine⟨?_,?_,bnew (za0 w) _⟩
 ·rw[List.map_replicate];exact zgj w (.slice none 0 0) n hn 59 rfl (Nat.le_refl w.heap.size)
 ·rw[List.map_replicate];exact GFam.nils _ _ _ _ n
end
section
open Go.RowKit Go.Maps
theorem BoC.step{w W:World}{a e:List St}{pp sp:Nat}{fin:Bool}{Ao:Option Addr}{q co:Nat}{hs:List Sh}{u v i:Nat}{ps0:List (Nat×Nat)}{Ap:Option Addr}{m cp:Nat}{ps:List (Nat×Nat)}{Ac:Option Addr}{pc cc:Nat}{arcs:List Arc3}(h:BoC w W a e pp sp fin Ao q co hs u v 256 ps0 Ap m cp ps Ac pc cc arcs)
  (hp:ByA (zci a e) (finP a e) [0,0] i (ps0.map zj1) (hs.map (·.d))∧hs.length=i) (hx:(ps0.map zj1)[i]? =some (zj1 (u,v))) (hf:finP a e (zj1 (u,v))=fin):
  ByA (zci a e) (finP a e) [0,0] (i+1) (ps.map zj1) ((hs++[(⟨(fin,arcs),Ac,cc⟩:Sh)]).map (·.d))∧(hs++[(⟨(fin,arcs),Ac,cc⟩:Sh)]).length=i+1:=by
 refine⟨?_,by rw[List.length_append,hp.2];rfl⟩;rw[List.map_append];have h1:=hp.1.step hx h.by_;rw[hf]at h1;exact h1
end
end Go.Proofs.YtaociahafamncaaGreatDoor
