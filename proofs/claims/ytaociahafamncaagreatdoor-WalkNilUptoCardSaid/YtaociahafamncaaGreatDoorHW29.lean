/- Folded. -/
import Derived.Test.YtaociahafamncaaGreatDoorHW28
set_option maxRecDepth 100000
set_option maxHeartbeats 40000000
namespace Go.Proofs.YtaociahafamncaaGreatDoor
section
open Sp
theorem cands_one{rs:List (List (Int×Int))}(h:rs.length≤1):(candsU rs).length≤40:=by
 have k:∀d,(prodL (cutsU rs d)).length≤3^d:=fun d=>by
  have h1:=prodL_len (cs:=cutsU rs d) (m:=3) fun c hc=>by
   unfold cutsU at hc;obtain⟨k,_,rfl⟩:=List.mem_map.1 hc;rw[cutsAt_len];have:=List.length_filter_le (fun r=>decide (d<r.length)) rs;omega
  rwa[cutsU_len]at h1
 have k1:=k 1;have k2:=k 2;have k3:=k 3;unfold candsU;rw[List.length_cons,List.length_map,List.length_append,List.length_append];omega
open Classical in
noncomputable def candK(n N:Nat)(rss:Rowss)(k:Nat):List (List Int):=setL n (fun y=>y=k)::(candsU (rss[k]?.getD [])).map fun m=>setL n fun y=>∃u,m=some u∧midsP (offN N rss k) (rss[k]?.getD []) u y
open Classical in
noncomputable def candW(n N:Nat)(rss:Rowss):List (List Int):=setL n (fun _=>False)::setL n (fun y=>y=rss.length∨y=rss.length+1)::(List.range (rss.length+1)).flatMap (candK n N rss)
theorem flat_few{β:Type}(f:Nat→List β)(K a b:Nat)(ha:∀k,k≠K→(f k).length≤a)(hb:(f K).length≤b):∀n,((List.range n).flatMap f).length≤n*a+if K<n then b else 0
 |0=>by simp
 |
  n+1=>by
  have ih:=flat_few f K a b ha hb n;rw[List.range_succ,List.flatMap_append,List.length_append,Nat.add_mul];have e:([n].flatMap f).length=(f n).length:=by simp
  rw[e];by_cases h:n=K
  ·subst h;rw[if_neg (by omega)]at ih;rw[if_pos (by omega)];omega
  ·have:=ha n h;split at ih
   ·rw[if_pos (by omega)];omega
   ·split<;>omega
theorem candW_len{n N:Nat}{rss:Rowss}{K:Nat}(hr:OkR rss)(hK:∀k,k≠K→(rss[k]?.getD []).length≤1):(candW n N rss).length≤(rss.length+1)*41+4645:=by
 have h:=flat_few (candK n N rss) K 41 4643 (fun k hk=>by
  unfold candK;rw[List.length_cons,List.length_map];have:=cands_one (hK k hk);omega) (by
  unfold candK;rw[List.length_cons,List.length_map];have h1:RowsU (rss[K]?.getD []):=by
   cases h:rss[K]? with
   |none=>exact⟨fun r hr=>absurd hr List.not_mem_nil,fun r hr=>absurd hr List.not_mem_nil,fun r hr=>absurd hr List.not_mem_nil,fun r hr=>absurd hr List.not_mem_nil,by simp,by simp,by simp⟩
   |
    some rs=>
    obtain⟨lo,hi,rfl⟩:=hr rs (List.mem_of_getElem? h);exact all_rowsU lo hi
  have:=candsU_len h1;omega) (rss.length+1)
 unfold candW;rw[List.length_cons,List.length_cons];split at h<;>omega
theorem wild_few{rss:Rowss}{star:Bool}{K:Nat}(hr:OkR rss)(hK:∀k,k≠K→(rss[k]?.getD []).length≤1)(f:Nat):
  ((subW (wildL rss star)).run f 0 [setL (wildL rss star).length (Clo (wildL rss star) fun x=>x=0)]).length≤(rss.length+1)*41+4645:=by
 obtain⟨n,hn⟩:∃n,(wildL rss star).length=n:=⟨_,rfl⟩;obtain⟨N,hN⟩:∃N,endN rss star+1=N:=⟨_,rfl⟩;have hNm:rss.length+1≤N:=by rw[←hN];cases star<;>simp[endN]
 refine Nat.le_trans (met_few (candW n N rss) (fun t=>?_) f) (candW_len hr hK);rw[hn];have hb:∀y,y<N→(Way (edgeL (wildL rss star)) 0 t y↔atB rss star t y):=fun y hy=>wild_way hr (by omega)
 have hm:∀y,N≤y→(Way (edgeL (wildL rss star)) 0 t y↔∃(k:Nat) (rs:List (List (Int×Int))) (t' u:List Nat),rss[k]? =some rs∧t=t'++u∧Sg (rss.take k) t'∧midsP (offN N rss k) rs u y):=fun y hy=>by
  rw[wild_mid hr (by omega),hN]
 have hp:∀{k:Nat}{rs:List (List (Int×Int))}{u:List Nat}{y:Nat},rss[k]? =some rs→midsP (offN N rss k) rs u y→Prt u:=fun h0 h=>by
  obtain⟨lo,hi,rfl⟩:=hr _ (List.mem_of_getElem? h0);exact mid_prt (fun _ h=>h) h
 have hge:∀{k:Nat}{rs:List (List (Int×Int))}{u:List Nat}{y:Nat},midsP (offN N rss k) rs u y→N≤y:=fun h=>Nat.le_trans offN_ge (midsP_in h).1
 by_cases h1:∃k t' u,k<rss.length∧t=t'++u∧Sg (rss.take k) t'∧Prt u
 ·obtain⟨k,t',u,hk,rfl,hs,hu⟩:=h1;obtain⟨rs,hrs⟩:∃rs,rss[k]? =some rs:=⟨rss[k],List.getElem?_eq_getElem hk⟩;obtain⟨lo,hi,ers⟩:=hr rs (List.mem_of_getElem? hrs);have hR:RowsU rs:=by rw[ers];exact all_rowsU lo hi
  have hset:setL n (fun y=>Way (edgeL (wildL rss star)) 0 (t'++u) y)=setL n fun y=>midsP (offN N rss k) rs u y:=setL_congr fun y hy=>by
   by_cases hyN:y<N
   ·rw[hb y hyN];constructor
    ·rintro(⟨h2,h3⟩|⟨a,b,h2,h3,_⟩)
     ·have:=(at_one hr (by omega) (by omega) hs h3 (.inr hu) (.inl rfl) (by rw[List.append_nil])).2.2;exact absurd this (prt_ne hu)
     ·exact(at_end hr hk hs (.inr hu) h3 h2).elim
    ·intro h
     have:=hge h;omega
   ·rw[hm y (by omega)];constructor
    ·rintro⟨k',rs',a,b,h2,h3,h4,h5⟩;have hk':=(List.getElem?_eq_some_iff.1 h2).1;obtain⟨rfl,rfl,rfl⟩:=at_one hr (by omega) (by omega) hs h4 (.inr hu) (.inr (hp h2 h5)) h3;rw[hrs]at h2;injection h2 with h2
     rw[h2];exact h5
    ·exact fun h=>⟨k,rs,t',u,hrs,rfl,hs,h⟩
  rw[hset];unfold candW;refine List.mem_cons_of_mem _ (List.mem_cons_of_mem _ (List.mem_flatMap.2 ⟨k,List.mem_range.2 (by omega),?_⟩));unfold candK;rw[hrs];refine List.mem_cons_of_mem _ ?_;by_cases h3:∃y,midsP (offN N rss k) rs u y
  ·obtain⟨y0,h3⟩:=h3;obtain⟨_,hu3⟩:=mids_shape hR (fun _ h=>h) h3;have hu0:0<u.length:=List.length_pos_iff.2 (prt_ne hu);refine List.mem_map.2 ⟨some (repU (cutsU rs u.length) u),?_,setL_congr fun y _=>?_⟩
   ·unfold candsU;refine List.mem_cons_of_mem _ (List.mem_map_of_mem ?_);have hm:=prodL_mem (cs:=cutsU rs u.length) (u:=u) (cutsU_len rs u.length) fun c hc=>by
     unfold cutsU at hc;obtain⟨k,_,rfl⟩:=List.mem_map.1 hc;exact List.mem_cons_self ..
    have h3:u.length=1∨u.length=2∨u.length=3:=by omega
    rw[List.mem_append,List.mem_append];rcases h3 with h3|h3|h3<;>rw[h3]at hm⊢
    ·exact .inl (.inl hm)
    ·exact .inl (.inr hm)
    ·exact .inr hm
   ·constructor
    ·rintro⟨v,hv,h⟩;injection hv with hv
     rw[←hv]at h;exact(mids_rep hR.ok fun _ h=>h).2 h
    ·exact fun h=>⟨_,rfl,(mids_rep hR.ok fun _ h=>h).1 h⟩
  ·refine List.mem_map.2 ⟨none,List.mem_cons_self ..,setL_congr fun y _=>⟨?_,fun h=>absurd ⟨y,h⟩ h3⟩⟩;rintro⟨u',h,_⟩;cases h
 ·have hnm:∀y,N≤y→¬Way (edgeL (wildL rss star)) 0 t y:=fun y hy h=>by
   obtain⟨k,rs,t',u,h0,h2,h3,h4⟩:=(hm y hy).1 h;exact h1 ⟨k,t',u,(List.getElem?_eq_some_iff.1 h0).1,h2,h3,hp h0 h4⟩
  have hset:∀P:Nat→Prop,(∀y,N≤y→¬P y)→(∀y,y<N→(atB rss star t y↔P y))→setL n (fun y=>Way (edgeL (wildL rss star)) 0 t y)=setL n P:=fun P h2 h3=>setL_congr fun y _=>by
   by_cases hyN:y<N
   ·rw[hb y hyN];exact h3 y hyN
   ·exact⟨fun h=>absurd h (hnm y (by omega)),fun h=>absurd h (h2 y (by omega))⟩
  by_cases h2:∃k,k<rss.length∧Sg (rss.take k) t
  ·obtain⟨k,hk,hs⟩:=h2;rw[hset (fun y=>y=k) (fun y hy=>by omega) fun y hy=>⟨?_,?_⟩]
   ·unfold candW;refine List.mem_cons_of_mem _ (List.mem_cons_of_mem _ (List.mem_flatMap.2 ⟨k,List.mem_range.2 (by omega),?_⟩));unfold candK;exact List.mem_cons_self ..
   ·rintro(⟨h3,h4⟩|⟨a,b,h3,h4,_⟩)
    ·exact(at_one hr (by omega) (by omega) hs h4 (.inl rfl) (.inl rfl) rfl).1.symm
    ·exact(at_end hr hk hs (.inl rfl) h4 (by rw[List.append_nil];exact h3)).elim
   ·rintro rfl;exact .inl ⟨hk,hs⟩
  ·by_cases h3:∃u v,t=u++v∧Sg rss u∧(star=true∧(∀c∈v,c≤255)∨star=false∧v=[])
   ·obtain⟨u,v,h3,h4,h5⟩:=h3;rcases h5 with⟨rfl,h5⟩|⟨rfl,rfl⟩
    ·rw[hset (fun y=>y=rss.length∨y=rss.length+1) (fun y hy h=>by have:rss.length+1+1=N:=hN;omega) fun y hy=>⟨?_,?_⟩]
     ·unfold candW;exact List.mem_cons_of_mem _ (List.mem_cons_self ..)
     ·rintro(⟨h6,h7⟩|⟨a,b,_,_,h6⟩)
      ·exact absurd ⟨y,h6,h7⟩ h2
      ·exact h6.1
     ·exact fun h=>.inr ⟨u,v,h3,h4,h,h5⟩
    ·rw[hset (fun y=>y=rss.length) (fun y hy h=>by omega) fun y hy=>⟨?_,?_⟩]
     ·unfold candW;refine List.mem_cons_of_mem _ (List.mem_cons_of_mem _ (List.mem_flatMap.2 ⟨rss.length,List.mem_range.2 (by omega),?_⟩));unfold candK;exact List.mem_cons_self ..
     ·rintro(⟨h6,h7⟩|⟨a,b,_,_,h6⟩)
      ·exact absurd ⟨y,h6,h7⟩ h2
      ·exact h6.2
     ·rintro rfl;exact .inr ⟨u,[],h3,h4,rfl,rfl⟩
   ·rw[hset (fun _=>False) (fun y hy h=>h) fun y hy=>⟨?_,False.elim⟩]
    ·unfold candW;exact List.mem_cons_self ..
    ·rintro(⟨h6,h7⟩|⟨a,b,h6,h7,h8⟩)
     ·exact absurd ⟨y,h6,h7⟩ h2
     ·refine absurd ⟨a,b,h6,h7,?_⟩ h3;cases star
      ·exact .inr ⟨rfl,h8.1⟩
      ·exact .inl ⟨rfl,h8.2⟩
theorem few_rows{q:List (Int×Int)}{K:Nat}(h:∀k p,k≠K→q[k]? =some p→p.1=p.2):∀k,k≠K→((rowsOf q)[k]?.getD []).length≤1:=fun k hk=>by
 unfold rowsOf;rw[List.getElem?_map];cases hq:q[k]? with
 |none=>simp
 |
  some p=>
  have:=h k p hk hq;show(allP p.1 p.2).length≤1;rw[this];exact all_one _
end
section
open Sp
def rangeOf(c:Int):Int×Int:=if c=63 then(0,1114111)else(c,c)
abbrev rowsC(q:List Int):Rowss:=rowsOf (q.map rangeOf)
theorem rowsC_len(q:List Int):(rowsC q).length=q.length:=by
 show((q.map rangeOf).map _).length=_;rw[List.length_map,List.length_map]
theorem rowsC_at{q:List Int}{j:Nat}{c:Int}(h:q[j]? =some c):(rowsC q)[j]? =some (allP (rangeOf c).1 (rangeOf c).2):=by
 show((q.map rangeOf).map _)[j]? =_;rw[List.getElem?_map,List.getElem?_map,h];rfl
theorem rowsC_ok(q:List Int):OkR (rowsC q):=rowsOf_ok _
theorem rowsC_few{q:List Int}{K:Nat}(h:∀k c,k≠K→q[k]? =some c→c≠63):∀k,k≠K→((rowsC q)[k]?.getD []).length≤1:=few_rows fun k p hk hp=>by
 rw[List.getElem?_map]at hp;obtain⟨c,hc,rfl⟩:=Option.map_eq_some_iff.1 hp;unfold rangeOf;rw[if_neg (h k c hk hc)]
theorem chainL_snoc:∀(rss:Rowss) (l:List Lst) (i:Nat) (rs:List (List (Int×Int))),chainL l i (rss++[rs])=leadRows (chainL l i rss) (i+rss.length) (i+rss.length+1) rs
 |[],_,_,_=>rfl
 |
  r::rss,l,i,rs=>by
  show chainL (leadRows l i (i+1) r) (i+1) (rss++[rs])=_;rw[chainL_snoc rss,List.length_cons,show i+1+rss.length=i+(rss.length+1) by omega];rfl
def stg(q:List Int)(star:Bool)(j:Nat):List Lst:=if j≤q.length then chainL (baseL (endN (rowsC q) star)) 0 ((rowsC q).take j)else wildL (rowsC q) star
theorem stg_zero(q:List Int)(star:Bool):stg q star 0=baseL (endN (rowsC q) star):=by
 unfold stg;rw[if_pos (Nat.zero_le _)];rfl
theorem stg_step{q:List Int}{star:Bool}{j:Nat}{c:Int}(h:q[j]? =some c):stg q star (j+1)=leadRows (stg q star j) j (j+1) (allP (rangeOf c).1 (rangeOf c).2):=by
 have hj:=(List.getElem?_eq_some_iff.1 h).1;have hr:=rowsC_at h;obtain⟨hj2,e⟩:=List.getElem?_eq_some_iff.1 hr;unfold stg;rw[if_pos (by omega),if_pos (by omega),List.take_succ_eq_append_getElem hj2,e,chainL_snoc,List.length_take,Nat.zero_add,Nat.min_eq_left (by omega)]
theorem stg_full{q:List Int}{star:Bool}(h:star=false):stg q star q.length=wildL (rowsC q) star:=by
 subst h;unfold stg;rw[if_pos (Nat.le_refl _),←rowsC_len q,List.take_length];rfl
theorem stg_star{q:List Int}:stg q true (q.length+1)=starL (stg q true q.length) q.length:=by
 unfold stg;rw[if_neg (by omega),if_pos (Nat.le_refl _)];have e:=rowsC_len q;have e2:(rowsC q).take q.length=rowsC q:=by rw[←e,List.take_length]
 rw[e2];show starL (chainL (baseL ((rowsC q).length+1)) 0 (rowsC q)) (rowsC q).length=starL (chainL (baseL ((rowsC q).length+1)) 0 (rowsC q)) q.length;rw[e]
def FewS(K:Nat)(l:List Lst):Prop:=∀s∈l,s.arcs.length≤K∧s.free.length≤0
theorem FewS.more{K K':Nat}{l:List Lst}(h:FewS K l)(hk:K≤K'):FewS K' l:=fun s hs=>⟨Nat.le_trans (h s hs).1 hk,(h s hs).2⟩
theorem FewS.add{K:Nat}{l:List Lst}(h:FewS K l)(a:Nat)(z:Arc3):FewS (K+1) (addArc l a z):=fun s hs=>by
 obtain⟨j,hj⟩:=List.mem_iff_getElem?.1 hs;by_cases e:a=j
 ·subst e;have hja:a<l.length:=by rw[←addArc_len l a z];exact(List.getElem?_eq_some_iff.1 hj).1
  rw[addArc_at _ (List.getElem?_eq_getElem hja)]at hj;injection hj with hj
  subst hj;have:=h l[a] (List.getElem_mem _);refine⟨?_,this.2⟩;rw[List.length_append,List.length_singleton];omega
 ·rw[addArc_ne _ e]at hj;have:=h s (List.mem_of_getElem? hj);exact⟨by omega,this.2⟩
theorem FewS.bare{K:Nat}{l:List Lst}(h:FewS K l):FewS K (l++[⟨false,[],[]⟩]):=fun s hs=>by
 rcases List.mem_append.1 hs with hs|hs
 ·exact h s hs
 ·rw[List.mem_singleton.1 hs];exact⟨Nat.zero_le _,Nat.zero_le _⟩
theorem FewS.row:∀(r:List (Int×Int)){K:Nat}{l:List Lst} (a b:Nat),FewS K l→FewS (K+r.length) (leadRow l a b r)
 |[],_,_,_,_,h=>h
 |[p],_,_,a,b,h=>h.add a _
 |
  p::q::r,K,l,a,b,h=>by
  have:=FewS.row (q::r) l.length b ((h.bare).add a (p.1,p.2,(l.length:Int)));rw[List.length_cons,show K+((q::r).length+1)=K+1+(q::r).length by omega];exact this
theorem FewS.rows:∀(rs:List (List (Int×Int))){K:Nat}{l:List Lst} (a b:Nat),(∀r∈rs,r.length≤4)→FewS K l→FewS (K+4*rs.length) (leadRows l a b rs)
 |[],_,_,_,_,_,h=>h
 |
  r::rs,K,l,a,b,hr,h=>by
  show FewS _ (leadRows (leadRow l a b r) a b rs);have h1:=hr r (List.mem_cons_self ..);have h2:=FewS.rows rs a b (fun q hq=>hr q (List.mem_cons_of_mem _ hq)) (h.row r a b);exact h2.more (by rw[List.length_cons];omega)
theorem FewS.chain:∀(rss:Rowss){K:Nat}{l:List Lst} (i:Nat),OkR rss→FewS K l→FewS (K+80*rss.length) (chainL l i rss)
 |[],_,_,_,_,h=>h
 |
  rs::rss,K,l,i,hr,h=>by
  show FewS _ (chainL (leadRows l i (i+1) rs) (i+1) rss);obtain⟨lo,hi,rfl⟩:=hr.head;have h1:=Sp.all_len lo hi;have h2:=FewS.chain rss (i+1) hr.tail (h.rows (allP lo hi) i (i+1) fun r hr=>(all_ok lo hi r hr).2.1);exact h2.more (by rw[List.length_cons];omega)
theorem base_few(n:Nat):FewS 0 (baseL n):=fun s hs=>by
 obtain⟨j,hj⟩:=List.mem_iff_getElem?.1 hs;obtain⟨h1,h2,_⟩:=baseL_get hj;rw[h1,h2];exact⟨Nat.le_refl _,Nat.le_refl _⟩
theorem stg_few{q:List Int}{star:Bool}{j:Nat}(hj:j≤q.length):FewS (80*q.length) (stg q star j):=by
 unfold stg;rw[if_pos hj];have h1:OkR ((rowsC q).take j):=fun rs h=>rowsC_ok q rs (List.mem_of_mem_take h)
 have h2:=FewS.chain ((rowsC q).take j) 0 h1 (base_few (endN (rowsC q) star));refine h2.more ?_;rw[List.length_take,rowsC_len];omega
theorem stg_len{q:List Int}{star:Bool}{j:Nat}(hj:j≤q.length):endN (rowsC q) star+1≤(stg q star j).length∧(stg q star j).length≤endN (rowsC q) star+1+60*j:=by
 unfold stg;rw[if_pos hj];have h1:OkR ((rowsC q).take j):=fun rs h=>rowsC_ok q rs (List.mem_of_mem_take h)
 have h2:=chain_len ((rowsC q).take j) (baseL (endN (rowsC q) star)) 0 h1;rw[baseL_len,List.length_take,rowsC_len]at h2;omega
def MadeQ(q:List Int)(star:Bool)(D:List St):Prop:=D.length≤20000∧Good D∧∀t:List UInt8,takesB D t=looseTakes (wildL (rowsC q) star) t
end
section
open Go.RowKit
def bareH:Lsh:=⟨⟨false,[],[]⟩,none,0,none,0⟩
def endH:Lsh:=⟨endS,none,0,none,0⟩
def zeroL:Array Value:= #[.bool false,.slice none 0 0,.slice none 0 0]
theorem info_loose:(Tryz.prog.info? 134).map (fun i=>(i.zero,i.size,i.bytes))=some (some (.agg zeroL),3,56):=by kernel_rfl
theorem make_loose(n:Nat)(hn:n≤1000)(w:World):(Instr.makeSlice 132 (.int .i64 ((n:Int)+1)) (.int .i64 ((n:Int)+1))).run Tryz.prog w=.ok (.slice (some ⟨w.heap.size,0,none⟩) (n+1) (n+1)) (w.alloc (.cells (madeCells zeroL ((n+1)*3)) 134)):=by
 obtain⟨i,hi,hzz⟩:=Option.map_eq_some_iff.1 info_loose;simp only[Prod.mk.injEq]at hzz;obtain⟨hz,hs,hb⟩:=hzz;have hr:=run_make (P:=Tryz.prog) w 132 134 i _ Tryz.underlying132 hi hz .i64 .i64 ((n:Int)+1) ((n:Int)+1) (by omega) (Int.le_refl _) (by rw[hb];omega) (by omega);rw[hs,show((n:Int)+1).toNat=n+1 by omega]at hr;exact hr
theorem made_rep:∀n:Nat,(madeCells zeroL (n*3)).toList=(List.replicate n bareH).flatMap Lsh.hdr:=by
 intro n
 induction n with
 |zero=>simp[madeCells]
 |
  succ n ih=>
  have e:(n+1)*3=n*3+1+1+1:=by omega
  have m0:n*3%3=0:=by omega
  have m1:(n*3+1)%3=1:=by omega
  have m2:(n*3+1+1)%3=2:=by omega
  rw[List.replicate_succ',List.flatMap_append,←ih,e];unfold madeCells;simp only[Array.toList_map,Array.toList_range,List.range_succ,List.map_append,List.map_cons,List.map_nil,List.append_assoc];congr 1
  show[zeroL[n*3%3]!]++([zeroL[(n*3+1)%3]!]++[zeroL[(n*3+1+1)%3]!])=_;rw[m0,m1,m2];rfl
theorem fam_bare(W:World)(base e s:Nat):∀{F:List GRow},(∀x∈F,x=GRow.nil)→GFam W base e s F:=fun{F} h=>by
 refine⟨fun x hx=>by rw[h x hx];exact GRow.own_nil ..,?_⟩;refine List.pairwise_of_forall_mem_list fun x hx y _=>?_
 rw[h x hx];exact .inl rfl
theorem loose_made(w:World)(n:Nat)(hn:n≤1000):
  LoR w ((w.alloc (.cells (madeCells zeroL ((n+1)*3)) 134)).setCell ⟨w.heap.size,n*3,none⟩ (.bool true)) (.slice (some ⟨w.heap.size,0,none⟩) (n+1) (n+1)) (n+1) (List.replicate n bareH++[endH])∧
  (w.alloc (.cells (madeCells zeroL ((n+1)*3)) 134)).cell? ⟨w.heap.size,n*3,none⟩=some (.bool false)∧(w.alloc (.cells (madeCells zeroL ((n+1)*3)) 134)).frozen? ⟨w.heap.size,n*3,none⟩=false:=by
 have hsz:(madeCells zeroL ((n+1)*3)).size=(n+1)*3:=size_madeCells _ _;have ho:=own_new w (madeCells zeroL ((n+1)*3)) 134 3 (n+1) hsz (by unfold maxLen;omega) (nb:=w.heap.size) rfl (base:=w.heap.size) (Nat.le_refl _);rw[made_rep]at ho;have hlen:((List.replicate n bareH).flatMap Lsh.hdr).length=n*3:=by rw[lhdr_len,List.length_replicate]
 have hsplit:(List.replicate (n+1) bareH).flatMap Lsh.hdr=(List.replicate n bareH).flatMap Lsh.hdr++bareH.hdr:=by
  rw[List.replicate_succ',List.flatMap_append];simp
 refine⟨⟨?_,?_,?_,below_set (bnew (brefl w) _) (Nat.le_refl _) (Nat.le_refl _)⟩,?_,?_⟩
 ·have h1:=own_put (j:=n*3) (u:=.bool true) ho;rw[hsplit,List.set_append_right _ _ (by omega),hlen,Nat.sub_self]at h1;have e:(List.replicate n bareH++[endH]).flatMap Lsh.hdr=(List.replicate n bareH).flatMap Lsh.hdr++bareH.hdr.set 0 (.bool true):=by
   rw[List.flatMap_append];rfl
  rw[e];exact h1
 ·refine fam_bare _ _ _ _ fun x hx=>?_
  obtain⟨y,hy,rfl⟩:=List.mem_map.1 hx;rcases List.mem_append.1 hy with hy|hy
  ·rw[List.eq_of_mem_replicate hy];rfl
  ·rw[List.mem_singleton.1 hy];rfl
 ·refine fam_bare _ _ _ _ fun x hx=>?_
  obtain⟨y,hy,rfl⟩:=List.mem_map.1 hx;rcases List.mem_append.1 hy with hy|hy
  ·rw[List.eq_of_mem_replicate hy];rfl
  ·rw[List.mem_singleton.1 hy];rfl
 ·have h1:=ho.cells (g:=w.heap.size) rfl (n*3) (.bool false) (by
   rw[hsplit,List.getElem?_append_right (by omega),hlen,Nat.sub_self];rfl)
  rwa[Addr.add_lit,Nat.zero_add]at h1
 ·obtain⟨_,_,cs,h1⟩:=own_blk ho;exact free_at h1 _
theorem base_map(n:Nat):(List.replicate n bareH++[endH]).map (·.d)=baseL n:=by
 unfold baseL;rw[List.map_append,List.map_replicate];rfl
theorem LoR.fway{w W W':World}{g n c i:Nat}{hs:List Lsh}{x:Lsh}{z:Int}{A2:Option Addr}{c2:Nat}(h:LoR w W (.slice (some ⟨g,0,none⟩) n c) n hs)(hx:hs[i]? =some x)(hg:W.grownBy W' (Value.slice x.F x.d.free.length x.e).ownBlock)
  (hy:W'.ownsRow w.heap.size 3 1 (.slice A2 (x.d.free.length+1) c2) (x.d.free.length+1) (x.d.free.map (.int .i64)++[.int .i64 z])) (hm:(Value.slice A2 (x.d.free.length+1) c2).ownBlock=(Value.slice x.F x.d.free.length x.e).ownBlock∨∃q,(Value.slice A2 (x.d.free.length+1) c2).ownBlock=some q∧W.heap.size≤q):
  LoR w (W'.setCell ⟨g,i*3+2,none⟩ (.slice A2 (x.d.free.length+1) c2)) (.slice (some ⟨g,0,none⟩) n c) n (hs.set i ⟨⟨x.d.fin,x.d.arcs,x.d.free++[z]⟩,x.A,x.c,A2,c2⟩)∧
  W'.cell? ⟨g,i*3+2,none⟩=some (.slice x.F x.d.free.length x.e)∧W'.frozen? ⟨g,i*3+2,none⟩=false∧g<W'.heap.size∧W'.cell? ⟨g,i*3+1,none⟩=some (.slice x.A x.d.arcs.length x.c):=by
 have hxf:W.ownsRow w.heap.size 3 1 (.slice x.F x.d.free.length x.e) x.d.free.length (x.d.free.map (.int .i64)):=h.fr.own x.frow (List.mem_map.2 ⟨x,List.mem_of_getElem? hx,rfl⟩);have hbel:=h.bel.grown hg h.bel.size fun r hr=>(hxf.lt r hr).1
 have ho1:=h.out.kept hg (own_types hxf h.out (by decide));obtain⟨q1,q2,cs,q3⟩:=own_blk ho1;obtain⟨_,k0,k1⟩:=lo_cell ho1 hx;have hxr:(hs.map Lsh.frow)[i]? =some x.frow:=by rw[List.getElem?_map,hx];rfl
 refine⟨⟨?_,?_,?_,below_set hbel q1 (Nat.le_refl _)⟩,k1,free_at q3 _,q2,k0⟩
 ·have h1:=own_put (j:=i*3+2) (u:=.slice A2 (x.d.free.length+1) c2) ho1;have e:(hs.flatMap Lsh.hdr).set (i*3+2) (.slice A2 (x.d.free.length+1) c2)=(hs.set i ⟨⟨x.d.fin,x.d.arcs,x.d.free++[z]⟩,x.A,x.c,A2,c2⟩).flatMap Lsh.hdr:=by
   rw[set_split hx];conv=>lhs;rw[split_at hx]
   have hl:((hs.take i).flatMap Lsh.hdr).length=i*3:=by rw[lhdr_len,List.length_take,Nat.min_eq_left (by have:=(List.getElem?_eq_some_iff.1 hx).1;omega)]
   rw[List.flatMap_append,List.flatMap_append,List.flatMap_cons,List.flatMap_cons,List.set_append_right _ _ (by omega),hl,Nat.add_sub_cancel_left];unfold Lsh.hdr;simp
  rw[e]at h1;exact h1
 ·rw[List.map_set];have e:(hs.map Lsh.arow).set i (⟨⟨x.d.fin,x.d.arcs,x.d.free++[z]⟩,x.A,x.c,A2,c2⟩:Lsh).arow=hs.map Lsh.arow:=by
   have e2:(⟨⟨x.d.fin,x.d.arcs,x.d.free++[z]⟩,x.A,x.c,A2,c2⟩:Lsh).arow=x.arow:=rfl;rw[e2];apply List.ext_getElem?
   intro j
   by_cases hj:i=j
   ·subst hj;rw[List.getElem?_set_self (by rw[List.length_map];exact(List.getElem?_eq_some_iff.1 hx).1),List.getElem?_map,hx];rfl
   ·rw[List.getElem?_set_ne hj]
  rw[e];have h2:=h.ar.kept hg fun z hz=>own_types hxf (h.ar.own z hz) (by decide)
  exact h2.kept (set_grown _ _ _) fun z hz=>row_not_cells (h2.own z hz) q3 (by decide)
 ·rw[List.map_set];have h1:=h.fr;rw[split_at hxr]at h1;have h2:=h1.grow (W2:=W') (y:=(⟨⟨x.d.fin,x.d.arcs,x.d.free++[z]⟩,x.A,x.c,A2,c2⟩:Lsh).frow) hg (by
   show W'.ownsRow _ _ _ (.slice A2 (x.d.free++[z]).length c2) (x.d.free++[z]).length ((x.d.free++[z]).map (.int .i64));rw[List.length_append,List.length_singleton,List.map_append];exact hy) (by
   show(Value.slice A2 (x.d.free++[z]).length c2).ownBlock=_∨∃q,(Value.slice A2 (x.d.free++[z]).length c2).ownBlock=some q∧_;rw[List.length_append,List.length_singleton];exact hm)
  rw[←set_split hxr]at h2;exact h2.kept (set_grown _ _ _) fun z hz=>row_not_cells (h2.own z hz) q3 (by decide)
theorem star_map{hs:List Lsh}{i:Nat}{x:Lsh}{A2 A3:Option Addr}{c2 c3:Nat}(hx:hs[i]? =some x):
  ((hs.set i ⟨⟨x.d.fin,x.d.arcs,x.d.free++[((i:Int)+1)]⟩,x.A,x.c,A2,c2⟩).set i ⟨⟨x.d.fin,x.d.arcs++[(0,255,(i:Int))],x.d.free++[((i:Int)+1)]⟩,A3,c3,A2,c2⟩).map (·.d)=starL (hs.map (·.d)) i:=by
 apply List.ext_getElem?
 intro j
 have hi:=(List.getElem?_eq_some_iff.1 hx).1;rw[List.set_set];by_cases e:i=j
 ·subst e;rw[starL_at (s:=x.d) (by rw[List.getElem?_map,hx];rfl),List.getElem?_map,List.getElem?_set_self hi];rfl
 ·rw[starL_ne e,List.getElem?_map,List.getElem?_map,List.getElem?_set_ne e]
end
end Go.Proofs.YtaociahafamncaaGreatDoor
