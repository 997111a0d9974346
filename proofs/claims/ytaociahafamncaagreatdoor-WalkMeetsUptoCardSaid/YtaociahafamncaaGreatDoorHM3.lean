/- Folded. -/
import Derived.Test.YtaociahafamncaaGreatDoorHM2
set_option maxRecDepth 100000
set_option maxHeartbeats 40000000
namespace Go.Proofs.YtaociahafamncaaGreatDoor
namespace Sp
open Go.RowKit
def part(lo hi x0 x1:Int):List (List (Int×Int)):=if max lo x0≤min hi x1 then zbh (max lo x0) (min hi x1)else[]
def upto(j:Nat)(lo hi:Int):List (List (Int×Int)):=
 ([part lo hi 0 127,part lo hi 128 2047,part lo hi 2048 55295,part lo hi 57344 65535,part lo hi 65536 1114111].take j).flatten
def allP(lo hi:Int):List (List (Int×Int)):=upto 5 (max lo 0) (min hi 1114111)
def AllR(w:World)(lo hi:Int)(v i:Value)(wr:World):Prop:=
 ∃(j:Nat) (l:List RR),(j=0∨j=1∨j=2∨j=3∨j=4∨j=5)∧i=.int .i64 j∧RowsAt wr w.heap.size v l∧l.map RR.r=upto j lo hi∧Below w.heap.size w wr
theorem z3h(w:World){nb:Nat}(h:nb=w.heap.size):RowsAt (w.alloc (.cells #[] 149)) w.heap.size (.slice (some ⟨nb,0,none⟩) 0 0) []:=
 ⟨zc1 w 149 1 h (Nat.le_refl _),fun R hR=>by simp at hR,by simp⟩
theorem zkc{lo hi:Int}(h0:0≤lo)(h1:hi≤1114111){x y:Int}(hc:∀a b,x≤a→b≤y→0≤a→b≤1114111→Cls a b):(part lo hi x y).length≤1114112:=by
 unfold part;split
 ·have:=zbj ‹_› (hc _ _ (by omega) (by omega) (by omega) (by omega));omega
 ·simp
theorem zBc(lo hi:Int)(h0:0≤lo)(h1:hi≤1114111)(j:Nat)(hj:j≤5):(upto j lo hi).length≤5*1114112:=by
 have p0:=zkc h0 h1 (x:=0) (y:=127) (fun a b _ _ _ _=>by unfold Cls;omega);have p1:=zkc h0 h1 (x:=128) (y:=2047) (fun a b _ _ _ _=>by unfold Cls;omega);have p2:=zkc h0 h1 (x:=2048) (y:=55295) (fun a b _ _ _ _=>by unfold Cls;omega);have p3:=zkc h0 h1 (x:=57344) (y:=65535) (fun a b _ _ _ _=>by unfold Cls;omega);have p4:=zkc h0 h1 (x:=65536) (y:=1114111) (fun a b _ _ _ _=>by unfold Cls;omega);unfold upto;obtain rfl|rfl|rfl|rfl|rfl|rfl:j=0∨j=1∨j=2∨j=3∨j=4∨j=5:=by omega
 all_goals
  simp only[List.take_succ_cons,List.take_zero,List.flatten_cons,List.flatten_nil,List.length_append,List.length_nil];omega
theorem idx0(w:World):(Instr.index 162 (.agg #[.int .i64 0,.int .i64 127,.int .i64 128,.int .i64 2047,.int .i64 2048,.int .i64 55295,.int .i64 57344,.int .i64 65535,.int .i64 65536,.int .i64 1114111]) (.int .i64 0)).run Tryz.prog w=.ok (.agg #[.int .i64 0,.int .i64 127]) w:=by kernel_rfl
theorem zK2(lo hi:Int):upto 1 lo hi=upto 0 lo hi++part lo hi 0 127:=by simp[upto]
theorem idx1(w:World):(Instr.index 162 (.agg #[.int .i64 0,.int .i64 127,.int .i64 128,.int .i64 2047,.int .i64 2048,.int .i64 55295,.int .i64 57344,.int .i64 65535,.int .i64 65536,.int .i64 1114111]) (.int .i64 1)).run Tryz.prog w=.ok (.agg #[.int .i64 128,.int .i64 2047]) w:=by kernel_rfl
theorem zK1(lo hi:Int):upto 2 lo hi=upto 1 lo hi++part lo hi 128 2047:=by simp[upto]
theorem idx2(w:World):(Instr.index 162 (.agg #[.int .i64 0,.int .i64 127,.int .i64 128,.int .i64 2047,.int .i64 2048,.int .i64 55295,.int .i64 57344,.int .i64 65535,.int .i64 65536,.int .i64 1114111]) (.int .i64 2)).run Tryz.prog w=.ok (.agg #[.int .i64 2048,.int .i64 55295]) w:=by kernel_rfl
theorem zK0(lo hi:Int):upto 3 lo hi=upto 2 lo hi++part lo hi 2048 55295:=by simp[upto]
theorem idx3(w:World):(Instr.index 162 (.agg #[.int .i64 0,.int .i64 127,.int .i64 128,.int .i64 2047,.int .i64 2048,.int .i64 55295,.int .i64 57344,.int .i64 65535,.int .i64 65536,.int .i64 1114111]) (.int .i64 3)).run Tryz.prog w=.ok (.agg #[.int .i64 57344,.int .i64 65535]) w:=by kernel_rfl
theorem zJk(lo hi:Int):upto 4 lo hi=upto 3 lo hi++part lo hi 57344 65535:=by simp[upto]
theorem idx4(w:World):(Instr.index 162 (.agg #[.int .i64 0,.int .i64 127,.int .i64 128,.int .i64 2047,.int .i64 2048,.int .i64 55295,.int .i64 57344,.int .i64 65535,.int .i64 65536,.int .i64 1114111]) (.int .i64 4)).run Tryz.prog w=.ok (.agg #[.int .i64 65536,.int .i64 1114111]) w:=by kernel_rfl
theorem zJj(lo hi:Int):upto 5 lo hi=upto 4 lo hi++part lo hi 65536 1114111:=by simp[upto]
theorem all_any(lo hi:Int)(w:World):Calls Tryz.prog 76 #[.int .i64 lo,.int .i64 hi] w (zsh w (allP lo hi)):=by
 have hall:Hid (allP lo hi=upto 5 (max lo 0) (min hi 1114111)):=rfl;go_enter Tryz.func76,Tryz.ntmps76
 go_wp2_with fail;obtain⟨a,ha⟩:∃a,max lo 0=a:=⟨_,rfl⟩;obtain⟨b,hb⟩:∃b,min hi 1114111=b:=⟨_,rfl⟩;have a0:0≤a:=by omega
 have b0:b≤1114111:=by omega
 rw[ha,hb]at hall;rw[ha,hb];clear ha hb;go_loopw [5,21] (fun v i wr=>AllR w a b v i wr) (fun _ i _=>5-(intOf i).toNat)
 case atStart=>exact⟨0,[],by omega,rfl,z3h w rfl,rfl,bnew (za0 w) _⟩
 case round=>
  obtain⟨j,l,hj,rfl,hr,hm,hbw⟩:=hrel;have HR:=Lib.hid hr;have HM:=Lib.hid hm;have HB:=Lib.hid hbw;have hsz:=hbw.size;have hlen:l.length≤5*1114112:=by
   have:=congrArg List.length hm;rw[List.length_map]at this;rw[this];exact zBc a b a0 b0 _ (by omega)
  clear hr hm hbw;obtain rfl|rfl|rfl|rfl|rfl|rfl:=hj
  ·have ix:=idx0;by_cases hx:max a 0≤min b 127
   ·have hcl:Cls (max a 0) (min b 127):=by unfold Cls;omega
    have hp:part a b 0 127=zbh (max a 0) (min b 127):=by unfold part;rw[if_pos hx]
    have HP:=Lib.hid hp;have hrl:=zbj hx hcl;have hq:((zbh (max a 0) (min b 127)).length:Int)≤1114112:=by omega
    have q1:decide (max a 0≤min b 127)=true:=by simpa using hx
    have HC:=Lib.hid (fun w=>zk7 (max a 0) (min b 127) w hx hcl);clear hcl hp hrl;go_wp2_with fail;go_region_held3 (fun w'=>w'.cell? ⟨wr.heap.size,0,none⟩=some (.int .i64 0)∧w'.cell? ⟨wr.heap.size,1,none⟩=some (.int .i64 127)) (go_keep) (fail)
    all_goals
     clear ix;go_wp2_with fail
     ((with_reducible refine(HC.out _).mono ?_))
     rintro e w1 ⟨v1,l1,rfl,hr1,hm1,hb1⟩;have hl1:l1.length≤1114112:=by
      have:=congrArg List.length hm1;rw[List.length_map]at this;omega
     have HR1:=Lib.hid hr1;have HM1:=Lib.hid hm1;have HB1:=Lib.hid (za9 (bnew (za0 wr) _).drew hb1);have hs1:=hb1.size;simp only[World.size_drew,World.size_alloc]at hs1;obtain⟨A2,c2,rfl,_⟩:=za1 hr1.own;have hnn:A2=none→l1.length=0:=by
      intro e
      subst e;rcases hr1.own.2 with⟨_,h0⟩|⟨g,cap,cur,hv,_⟩
      ·exact h0
      ·cases hv
     clear hr1 hm1 hb1 HC q1 hq hx;go_wp2_with (at_builtin;refine zad w1 w1 rfl _ _ _ rfl zhh _ _ _ rfl (za2 HR.out.own HB1.out) rfl (Sl.of_own HR1.out.own) hnn (zdi l1) (by unfold maxLen;omega) (by omega) (by omega) (za0 _|>.mono (by omega)) ?_;intro v3 w4 hown3 hb3 hgr _)
     go_roundw;case rel=>
      refine⟨1,l++l1,by omega,rfl,HR.out.join HB1.out (HR1.out.base (by simp)) hown3 hgr (by omega),?_,(za9 HB.out HB1.out).trans (hb3.mono (by omega))⟩;rw[List.map_append,HM.out,HM1.out,zK2,HP.out]
     case measure=>simp[intOf]
   ·have hp:part a b 0 127=[]:=by unfold part;rw[if_neg hx]
    have HP:=Lib.hid hp;have q1:decide (max a 0≤min b 127)=false:=by simpa using hx
    clear hp;go_wp2_with fail;go_region_held3 (fun w'=>w'.cell? ⟨wr.heap.size,0,none⟩=some (.int .i64 0)∧w'.cell? ⟨wr.heap.size,1,none⟩=some (.int .i64 127)) (go_keep) (fail)
    all_goals
     clear ix hx;go_wp2_with fail;go_roundw;case rel=>
      refine⟨1,l,by omega,rfl,HR.out.kept (bnew (za0 wr) _).drew,?_,za9 HB.out (bnew (za0 wr) _).drew⟩;rw[HM.out,zK2,HP.out,List.append_nil]
     case measure=>simp[intOf]
  ·have ix:=idx1;by_cases hx:max a 128≤min b 2047
   ·have hcl:Cls (max a 128) (min b 2047):=by unfold Cls;omega
    have hp:part a b 128 2047=zbh (max a 128) (min b 2047):=by unfold part;rw[if_pos hx]
    have HP:=Lib.hid hp;have hrl:=zbj hx hcl;have hq:((zbh (max a 128) (min b 2047)).length:Int)≤1114112:=by omega
    have q1:decide (max a 128≤min b 2047)=true:=by simpa using hx
    have HC:=Lib.hid (fun w=>zk7 (max a 128) (min b 2047) w hx hcl);clear hcl hp hrl;go_wp2_with fail;go_region_held3 (fun w'=>w'.cell? ⟨wr.heap.size,0,none⟩=some (.int .i64 128)∧w'.cell? ⟨wr.heap.size,1,none⟩=some (.int .i64 2047)) (go_keep) (fail)
    all_goals
     clear ix;go_wp2_with fail
     ((with_reducible refine(HC.out _).mono ?_))
     rintro e w1 ⟨v1,l1,rfl,hr1,hm1,hb1⟩;have hl1:l1.length≤1114112:=by
      have:=congrArg List.length hm1;rw[List.length_map]at this;omega
     have HR1:=Lib.hid hr1;have HM1:=Lib.hid hm1;have HB1:=Lib.hid (za9 (bnew (za0 wr) _).drew hb1);have hs1:=hb1.size;simp only[World.size_drew,World.size_alloc]at hs1;obtain⟨A2,c2,rfl,_⟩:=za1 hr1.own;have hnn:A2=none→l1.length=0:=by
      intro e
      subst e;rcases hr1.own.2 with⟨_,h0⟩|⟨g,cap,cur,hv,_⟩
      ·exact h0
      ·cases hv
     clear hr1 hm1 hb1 HC q1 hq hx;go_wp2_with (at_builtin;refine zad w1 w1 rfl _ _ _ rfl zhh _ _ _ rfl (za2 HR.out.own HB1.out) rfl (Sl.of_own HR1.out.own) hnn (zdi l1) (by unfold maxLen;omega) (by omega) (by omega) (za0 _|>.mono (by omega)) ?_;intro v3 w4 hown3 hb3 hgr _)
     go_roundw;case rel=>
      refine⟨2,l++l1,by omega,rfl,HR.out.join HB1.out (HR1.out.base (by simp)) hown3 hgr (by omega),?_,(za9 HB.out HB1.out).trans (hb3.mono (by omega))⟩;rw[List.map_append,HM.out,HM1.out,zK1,HP.out]
     case measure=>simp[intOf]
   ·have hp:part a b 128 2047=[]:=by unfold part;rw[if_neg hx]
    have HP:=Lib.hid hp;have q1:decide (max a 128≤min b 2047)=false:=by simpa using hx
    clear hp;go_wp2_with fail;go_region_held3 (fun w'=>w'.cell? ⟨wr.heap.size,0,none⟩=some (.int .i64 128)∧w'.cell? ⟨wr.heap.size,1,none⟩=some (.int .i64 2047)) (go_keep) (fail)
    all_goals
     clear ix hx;go_wp2_with fail;go_roundw;case rel=>
      refine⟨2,l,by omega,rfl,HR.out.kept (bnew (za0 wr) _).drew,?_,za9 HB.out (bnew (za0 wr) _).drew⟩;rw[HM.out,zK1,HP.out,List.append_nil]
     case measure=>simp[intOf]
  ·have ix:=idx2;by_cases hx:max a 2048≤min b 55295
   ·have hcl:Cls (max a 2048) (min b 55295):=by unfold Cls;omega
    have hp:part a b 2048 55295=zbh (max a 2048) (min b 55295):=by unfold part;rw[if_pos hx]
    have HP:=Lib.hid hp;have hrl:=zbj hx hcl;have hq:((zbh (max a 2048) (min b 55295)).length:Int)≤1114112:=by omega
    have q1:decide (max a 2048≤min b 55295)=true:=by simpa using hx
    have HC:=Lib.hid (fun w=>zk7 (max a 2048) (min b 55295) w hx hcl);clear hcl hp hrl;go_wp2_with fail;go_region_held3 (fun w'=>w'.cell? ⟨wr.heap.size,0,none⟩=some (.int .i64 2048)∧w'.cell? ⟨wr.heap.size,1,none⟩=some (.int .i64 55295)) (go_keep) (fail)
    all_goals
     clear ix;go_wp2_with fail
     ((with_reducible refine(HC.out _).mono ?_))
     rintro e w1 ⟨v1,l1,rfl,hr1,hm1,hb1⟩;have hl1:l1.length≤1114112:=by
      have:=congrArg List.length hm1;rw[List.length_map]at this;omega
     have HR1:=Lib.hid hr1;have HM1:=Lib.hid hm1;have HB1:=Lib.hid (za9 (bnew (za0 wr) _).drew hb1);have hs1:=hb1.size;simp only[World.size_drew,World.size_alloc]at hs1;obtain⟨A2,c2,rfl,_⟩:=za1 hr1.own;have hnn:A2=none→l1.length=0:=by
      intro e
      subst e;rcases hr1.own.2 with⟨_,h0⟩|⟨g,cap,cur,hv,_⟩
      ·exact h0
      ·cases hv
     clear hr1 hm1 hb1 HC q1 hq hx;go_wp2_with (at_builtin;refine zad w1 w1 rfl _ _ _ rfl zhh _ _ _ rfl (za2 HR.out.own HB1.out) rfl (Sl.of_own HR1.out.own) hnn (zdi l1) (by unfold maxLen;omega) (by omega) (by omega) (za0 _|>.mono (by omega)) ?_;intro v3 w4 hown3 hb3 hgr _)
     go_roundw;case rel=>
      refine⟨3,l++l1,by omega,rfl,HR.out.join HB1.out (HR1.out.base (by simp)) hown3 hgr (by omega),?_,(za9 HB.out HB1.out).trans (hb3.mono (by omega))⟩;rw[List.map_append,HM.out,HM1.out,zK0,HP.out]
     case measure=>simp[intOf]
   ·have hp:part a b 2048 55295=[]:=by unfold part;rw[if_neg hx]
    have HP:=Lib.hid hp;have q1:decide (max a 2048≤min b 55295)=false:=by simpa using hx
    clear hp;go_wp2_with fail;go_region_held3 (fun w'=>w'.cell? ⟨wr.heap.size,0,none⟩=some (.int .i64 2048)∧w'.cell? ⟨wr.heap.size,1,none⟩=some (.int .i64 55295)) (go_keep) (fail)
    all_goals
     clear ix hx;go_wp2_with fail;go_roundw;case rel=>
      refine⟨3,l,by omega,rfl,HR.out.kept (bnew (za0 wr) _).drew,?_,za9 HB.out (bnew (za0 wr) _).drew⟩;rw[HM.out,zK0,HP.out,List.append_nil]
     case measure=>simp[intOf]
  ·have ix:=idx3;by_cases hx:max a 57344≤min b 65535
   ·have hcl:Cls (max a 57344) (min b 65535):=by unfold Cls;omega
    have hp:part a b 57344 65535=zbh (max a 57344) (min b 65535):=by unfold part;rw[if_pos hx]
    have HP:=Lib.hid hp;have hrl:=zbj hx hcl;have hq:((zbh (max a 57344) (min b 65535)).length:Int)≤1114112:=by omega
    have q1:decide (max a 57344≤min b 65535)=true:=by simpa using hx
    have HC:=Lib.hid (fun w=>zk7 (max a 57344) (min b 65535) w hx hcl);clear hcl hp hrl;go_wp2_with fail;go_region_held3 (fun w'=>w'.cell? ⟨wr.heap.size,0,none⟩=some (.int .i64 57344)∧w'.cell? ⟨wr.heap.size,1,none⟩=some (.int .i64 65535)) (go_keep) (fail)
    all_goals
     clear ix;go_wp2_with fail
     ((with_reducible refine(HC.out _).mono ?_))
     rintro e w1 ⟨v1,l1,rfl,hr1,hm1,hb1⟩;have hl1:l1.length≤1114112:=by
      have:=congrArg List.length hm1;rw[List.length_map]at this;omega
     have HR1:=Lib.hid hr1;have HM1:=Lib.hid hm1;have HB1:=Lib.hid (za9 (bnew (za0 wr) _).drew hb1);have hs1:=hb1.size;simp only[World.size_drew,World.size_alloc]at hs1;obtain⟨A2,c2,rfl,_⟩:=za1 hr1.own;have hnn:A2=none→l1.length=0:=by
      intro e
      subst e;rcases hr1.own.2 with⟨_,h0⟩|⟨g,cap,cur,hv,_⟩
      ·exact h0
      ·cases hv
     clear hr1 hm1 hb1 HC q1 hq hx;go_wp2_with (at_builtin;refine zad w1 w1 rfl _ _ _ rfl zhh _ _ _ rfl (za2 HR.out.own HB1.out) rfl (Sl.of_own HR1.out.own) hnn (zdi l1) (by unfold maxLen;omega) (by omega) (by omega) (za0 _|>.mono (by omega)) ?_;intro v3 w4 hown3 hb3 hgr _)
     go_roundw;case rel=>
      refine⟨4,l++l1,by omega,rfl,HR.out.join HB1.out (HR1.out.base (by simp)) hown3 hgr (by omega),?_,(za9 HB.out HB1.out).trans (hb3.mono (by omega))⟩;rw[List.map_append,HM.out,HM1.out,zJk,HP.out]
     case measure=>simp[intOf]
   ·have hp:part a b 57344 65535=[]:=by unfold part;rw[if_neg hx]
    have HP:=Lib.hid hp;have q1:decide (max a 57344≤min b 65535)=false:=by simpa using hx
    clear hp;go_wp2_with fail;go_region_held3 (fun w'=>w'.cell? ⟨wr.heap.size,0,none⟩=some (.int .i64 57344)∧w'.cell? ⟨wr.heap.size,1,none⟩=some (.int .i64 65535)) (go_keep) (fail)
    all_goals
     clear ix hx;go_wp2_with fail;go_roundw;case rel=>
      refine⟨4,l,by omega,rfl,HR.out.kept (bnew (za0 wr) _).drew,?_,za9 HB.out (bnew (za0 wr) _).drew⟩;rw[HM.out,zJk,HP.out,List.append_nil]
     case measure=>simp[intOf]
  ·have ix:=idx4;by_cases hx:max a 65536≤min b 1114111
   ·have hcl:Cls (max a 65536) (min b 1114111):=by unfold Cls;omega
    have hp:part a b 65536 1114111=zbh (max a 65536) (min b 1114111):=by unfold part;rw[if_pos hx]
    have HP:=Lib.hid hp;have hrl:=zbj hx hcl;have hq:((zbh (max a 65536) (min b 1114111)).length:Int)≤1114112:=by omega
    have q1:decide (max a 65536≤min b 1114111)=true:=by simpa using hx
    have HC:=Lib.hid (fun w=>zk7 (max a 65536) (min b 1114111) w hx hcl);clear hcl hp hrl;go_wp2_with fail;go_region_held3 (fun w'=>w'.cell? ⟨wr.heap.size,0,none⟩=some (.int .i64 65536)∧w'.cell? ⟨wr.heap.size,1,none⟩=some (.int .i64 1114111)) (go_keep) (fail)
    all_goals
     clear ix;go_wp2_with fail
     ((with_reducible refine(HC.out _).mono ?_))
     rintro e w1 ⟨v1,l1,rfl,hr1,hm1,hb1⟩;have hl1:l1.length≤1114112:=by
      have:=congrArg List.length hm1;rw[List.length_map]at this;omega
     have HR1:=Lib.hid hr1;have HM1:=Lib.hid hm1;have HB1:=Lib.hid (za9 (bnew (za0 wr) _).drew hb1);have hs1:=hb1.size;simp only[World.size_drew,World.size_alloc]at hs1;obtain⟨A2,c2,rfl,_⟩:=za1 hr1.own;have hnn:A2=none→l1.length=0:=by
      intro e
      subst e;rcases hr1.own.2 with⟨_,h0⟩|⟨g,cap,cur,hv,_⟩
      ·exact h0
      ·cases hv
     clear hr1 hm1 hb1 HC q1 hq hx;go_wp2_with (at_builtin;refine zad w1 w1 rfl _ _ _ rfl zhh _ _ _ rfl (za2 HR.out.own HB1.out) rfl (Sl.of_own HR1.out.own) hnn (zdi l1) (by unfold maxLen;omega) (by omega) (by omega) (za0 _|>.mono (by omega)) ?_;intro v3 w4 hown3 hb3 hgr _)
     go_roundw;case rel=>
      refine⟨5,l++l1,by omega,rfl,HR.out.join HB1.out (HR1.out.base (by simp)) hown3 hgr (by omega),?_,(za9 HB.out HB1.out).trans (hb3.mono (by omega))⟩;rw[List.map_append,HM.out,HM1.out,zJj,HP.out]
     case measure=>simp[intOf]
   ·have hp:part a b 65536 1114111=[]:=by unfold part;rw[if_neg hx]
    have HP:=Lib.hid hp;have q1:decide (max a 65536≤min b 1114111)=false:=by simpa using hx
    clear hp;go_wp2_with fail;go_region_held3 (fun w'=>w'.cell? ⟨wr.heap.size,0,none⟩=some (.int .i64 65536)∧w'.cell? ⟨wr.heap.size,1,none⟩=some (.int .i64 1114111)) (go_keep) (fail)
    all_goals
     clear ix hx;go_wp2_with fail;go_roundw;case rel=>
      refine⟨5,l,by omega,rfl,HR.out.kept (bnew (za0 wr) _).drew,?_,za9 HB.out (bnew (za0 wr) _).drew⟩;rw[HM.out,zJj,HP.out,List.append_nil]
     case measure=>simp[intOf]
  ·go_wp2_with fail;go_ret;exact⟨_,l,rfl,HR.out,HM.out.trans hall.out.symm,HB.out⟩
end Sp
namespace Sp
open Go.RowKit
theorem zak{w:World}{base e size n cap g:Nat}{xs:List Value}(h:w.ownsRow base e size (.slice (some ⟨g,0,none⟩) n cap) n xs)(j:Nat)(u:Value)(hu:xs[j]? =some u):w.cell? ⟨g,j,none⟩=some u:=by
 have:=h.cells (g:=g) rfl j u hu;rwa[Addr.add_lit,Nat.zero_add]at this
end Sp
namespace Sp
def zp8(r:List (Int×Int))(s:List Int):Bool:=r.length==s.length&&(r.zip s).all fun x=>decide (x.1.1≤x.2)&&decide (x.2≤x.1.2)
def rowOk(r:List (Int×Int)):Prop:=1≤r.length∧r.length≤4∧∀p∈r,0≤p.1∧p.1≤p.2∧p.2≤255
def zgb(l:List (List (Int×Int)))(s:List Int):Int:=((l.filter fun r=>zp8 r s).length:Int)
theorem zki{lo hi:Int}(h:lo≤hi)(hk:Cls lo hi):
  (0≤lo∧hi≤127∧zh0 lo hi=[(lo,hi)])∨
  (128≤lo∧hi≤2047∧zh0 lo hi=[(192+lo/64,192+hi/64),(128+lo%64,128+hi%64)])∨
  (2048≤lo∧hi≤65535∧zh0 lo hi=[(224+lo/4096,224+hi/4096),(128+lo/64%64,128+hi/64%64),(128+lo%64,128+hi%64)])∨
  (65536≤lo∧hi≤1114111∧zh0 lo hi=[(240+lo/262144,240+hi/262144),(128+lo/4096%64,128+hi/4096%64),(128+lo/64%64,128+hi/64%64),(128+lo%64,128+hi%64)]):=by
 unfold zh0 encC;rcases hk with hk|hk|hk|hk|hk
 ·exact .inl ⟨by omega,by omega,by rw[if_pos (by omega),if_pos (by omega)];rfl⟩
 ·exact .inr (.inl ⟨by omega,by omega,by rw[if_neg (by omega),if_pos (by omega),if_neg (by omega),if_pos (by omega)];rfl⟩)
 ·exact .inr (.inr (.inl ⟨by omega,by omega,by rw[if_neg (by omega),if_neg (by omega),if_pos (by omega),if_neg (by omega),if_neg (by omega),if_pos (by omega)];rfl⟩))
 ·exact .inr (.inr (.inl ⟨by omega,by omega,by rw[if_neg (by omega),if_neg (by omega),if_pos (by omega),if_neg (by omega),if_neg (by omega),if_pos (by omega)];rfl⟩))
 ·exact .inr (.inr (.inr ⟨by omega,by omega,by rw[if_neg (by omega),if_neg (by omega),if_neg (by omega),if_neg (by omega),if_neg (by omega),if_neg (by omega)];rfl⟩))
theorem zKa{lo hi:Int}(hc:cutC lo hi=none):
  (lo/64=hi/64∨szC lo≤1∨(lo%64=0∧hi%64=63))∧(lo/4096=hi/4096∨szC lo≤2∨(lo%4096=0∧hi%4096=4095))∧
  (lo/262144=hi/262144∨szC lo≤3∨(lo%262144=0∧hi%262144=262143)):=by
 unfold cutC at hc;repeat' split at hc
 all_goals first|(cases hc;done)|(refine⟨?_,?_,?_⟩<;>omega)
theorem zji{lo:Int}:(szC lo=1∧lo<128)∨(szC lo=2∧128≤lo∧lo<2048)∨(szC lo=3∧2048≤lo∧lo<65536)∨(szC lo=4∧65536≤lo):=by
 unfold szC;repeat' split
 all_goals omega
theorem zg4{lo hi c:Int}(h:lo/64=hi/64∨(lo%64=0∧hi%64=63)):(lo≤c∧c≤hi)↔(lo/64≤c/64∧c/64≤hi/64)∧(lo%64≤c%64∧c%64≤hi%64):=by omega
theorem zld{lo hi:Int}(hl:lo≤hi)(h:lo/64=hi/64∨(lo%64=0∧hi%64=63)):lo/64≤hi/64∧lo%64≤hi%64:=by omega
theorem zf1(x:Int):x/4096=x/64/64:=by omega
theorem zfd(x:Int):x/262144=x/64/64/64:=by omega
theorem digits{lo hi:Int}(hc:cutC lo hi=none):(2≤szC lo→(lo/64=hi/64∨(lo%64=0∧hi%64=63)))∧(3≤szC lo→(lo/64/64=hi/64/64∨(lo/64%64=0∧hi/64%64=63)))∧(4≤szC lo→(lo/64/64/64=hi/64/64/64∨(lo/64/64%64=0∧hi/64/64%64=63))):=by
 obtain⟨n1,n2,n3⟩:=zKa hc;refine⟨fun h=>?_,fun h=>?_,fun h=>?_⟩
 ·clear n2 n3;omega
 ·clear n1 n3;rcases n2 with n2|n2|n2
  ·exact .inl (by rw[←zf1,←zf1];exact n2)
  ·omega
  ·exact .inr (by clear h;omega)
 ·clear n1 n2;rcases n3 with n3|n3|n3
  ·exact .inl (by rw[←zfd,←zfd];exact n3)
  ·omega
  ·exact .inr (by clear h;omega)
theorem zcb(x:Int):0≤x%64∧x%64≤63:=by omega
theorem zIc{lo hi:Int}(h:lo≤hi)(hk:Cls lo hi)(hc:cutC lo hi=none):rowOk (zh0 lo hi):=by
 obtain⟨n1,n2,n3⟩:=digits hc;have hs:=zji (lo:=lo);rcases zki h hk with⟨a,b,e⟩|⟨a,b,e⟩|⟨a,b,e⟩|⟨a,b,e⟩
 all_goals
  rw[e];refine⟨by simp,by simp,fun p hp=>?_⟩;simp only[List.mem_cons,List.not_mem_nil,or_false]at hp
 ·subst hp;exact⟨by show 0≤lo;omega,h,by show hi≤255;omega⟩
 ·have d1:=n1 (by omega);have l1:=zld h d1;clear n1 n2 n3 hs d1;have r1:=zcb lo;have r2:=zcb hi;have t:0≤lo/64∧hi/64≤31:=by omega
  clear hc hk h e;generalize lo/64=x at*;generalize hi/64=y at*;generalize lo%64=x0 at*;generalize hi%64=y0 at*;rcases hp with rfl|rfl
  all_goals(refine⟨?_,?_,?_⟩<;>dsimp only<;>omega)
 ·have d1:=n1 (by omega);have l1:=zld h d1;have d2:=n2 (by omega);have l2:=zld l1.1 d2;clear n1 n2 n3 hs d1 d2;have r1:=zcb lo;have r2:=zcb hi;have r3:=zcb (lo/64);have r4:=zcb (hi/64);have t:0≤lo/64/64∧hi/64/64≤15:=by omega
  rw[zf1,zf1]at hp;clear hc hk h e a b;generalize lo%64=x0 at*;generalize hi%64=y0 at*;generalize lo/64=x at*;generalize hi/64=y at*;generalize x/64=u at*;generalize y/64=v at*;generalize x%64=x1 at*;generalize y%64=y1 at*;rcases hp with rfl|rfl|rfl
  all_goals(refine⟨?_,?_,?_⟩<;>dsimp only<;>omega)
 ·have d1:=n1 (by omega);have l1:=zld h d1;have d2:=n2 (by omega);have l2:=zld l1.1 d2;have d3:=n3 (by omega);have l3:=zld l2.1 d3;clear n1 n2 n3 hs d1 d2 d3;have r1:=zcb lo;have r2:=zcb hi;have r3:=zcb (lo/64);have r4:=zcb (hi/64);have r5:=zcb (lo/64/64);have r6:=zcb (hi/64/64);have t:0≤lo/64/64/64∧hi/64/64/64≤4:=by omega
  rw[zf1,zf1,zfd,zfd]at hp;clear hc hk h e a b;generalize lo%64=x0 at*;generalize hi%64=y0 at*;generalize lo/64=x at*;generalize hi/64=y at*;generalize x%64=x1 at*;generalize y%64=y1 at*;generalize x/64=u at*;generalize y/64=v at*;generalize u%64=x2 at*;generalize v%64=y2 at*;generalize u/64=p3 at*;generalize v/64=q3 at*;rcases hp with rfl|rfl|rfl|rfl
  all_goals(refine⟨?_,?_,?_⟩<;>dsimp only<;>omega)
theorem z23{c:Int}:(c<128∧encC c=[c])∨(128≤c∧c<2048∧encC c=[192+c/64,128+c%64])∨(2048≤c∧c<65536∧encC c=[224+c/4096,128+c/64%64,128+c%64])∨(65536≤c∧encC c=[240+c/262144,128+c/4096%64,128+c/64%64,128+c%64]):=by
 unfold encC;split
 ·exact .inl ⟨by omega,rfl⟩
 ·split
  ·exact .inr (.inl ⟨by omega,by omega,rfl⟩)
  ·split
   ·exact .inr (.inr (.inl ⟨by omega,by omega,rfl⟩))
   ·exact .inr (.inr (.inr ⟨by omega,rfl⟩))
theorem zDg{r:List (Int×Int)}{s:List Int}(h:r.length≠s.length):zp8 r s=false:=by
 unfold zp8;rw[beq_eq_false_iff_ne.2 h];rfl
theorem zL4(a x y:Int):a+x≤a+y↔x≤y:=by omega
theorem z93{lo hi c:Int}(h:lo≤hi)(hk:Cls lo hi)(hc:cutC lo hi=none):zp8 (zh0 lo hi) (encC c)=decide (lo≤c∧c≤hi):=by
 obtain⟨n1,n2,n3⟩:=digits hc;have hs:=zji (lo:=lo);by_cases hl:(zh0 lo hi).length=(encC c).length
 ·rcases zki h hk with⟨a,b,e⟩|⟨a,b,e⟩|⟨a,b,e⟩|⟨a,b,e⟩
  all_goals
   rcases z23 (c:=c)with⟨x,f⟩|⟨x,y,f⟩|⟨x,y,f⟩|⟨x,f⟩
   all_goals
    rw[e,f]at hl;simp only[List.length_cons,List.length_nil,Nat.reduceAdd,Nat.reduceEqDiff]at hl
  all_goals
   rw[e,f,Bool.eq_iff_iff,decide_eq_true_iff];simp only[zp8,List.length_cons,List.length_nil,List.zip_cons_cons,List.zip_nil_right,List.all_cons,List.all_nil,Bool.and_eq_true,decide_eq_true_iff,Bool.and_true,Nat.reduceAdd,beq_iff_eq,true_and,zL4]
  ·rw[zg4 (n1 (by omega))]
  ·rw[zg4 (n1 (by omega)),zg4 (n2 (by omega)),zf1,zf1,zf1];simp only[and_assoc]
  ·rw[zg4 (n1 (by omega)),zg4 (n2 (by omega)),zg4 (n3 (by omega)),zf1,zf1,zf1,zfd,zfd,zfd];simp only[and_assoc]
 ·rw[zDg hl];refine(decide_eq_false fun hx=>hl ?_).symm;have hcl:Cls lo c:=by clear n1 n2 n3 hs hl hc;unfold Cls at*;omega
  have hl2:(encC lo).length=(encC c).length:=zpe hx.1 hcl;unfold zh0;rw[List.length_zip,←zpe h hk,Nat.min_self,hl2]
theorem rows_ok{lo hi:Int}(h:lo≤hi)(hk:Cls lo hi):∀r∈zbh lo hi,rowOk r:=by
 refine zk6 (motive:=fun lo hi=>∀r∈zbh lo hi,rowOk r) ?_ ?_ lo hi h hk
 ·intro lo hi c h1 _ hc _ _ a b r hr
  rw[zc9 h1 hc,List.mem_append]at hr;exact hr.elim (a r) (b r)
 ·intro lo hi h1 hk hc r hr
  rw[zdb hc,List.mem_singleton]at hr;subst hr;exact zIc h1 hk hc
def inB(lo hi c:Int):Int:=if lo≤c∧c≤hi then 1 else 0
theorem zkk(a b:List (List (Int×Int)))(s:List Int):zgb (a++b) s=zgb a s+zgb b s:=by simp[zgb]
theorem z3g{lo hi c:Int}(h:lo≤hi)(hk:Cls lo hi):zgb (zbh lo hi) (encC c)=inB lo hi c:=by
 refine zk6 (motive:=fun lo hi=>zgb (zbh lo hi) (encC c)=inB lo hi c) ?_ ?_ lo hi h hk
 ·intro lo hi d h1 _ hc _ _ a b
  rw[zc9 h1 hc,zkk,a,b];unfold inB;repeat' split
  all_goals omega
 ·intro lo hi h1 hk hc
  rw[zdb hc];unfold zgb inB;rw[List.filter_cons,z93 h1 hk hc];by_cases hx:lo≤c∧c≤hi
  ·simp[hx]
  ·simp[hx]
theorem zc8{lo hi:Int}(hc:cutC lo hi=none):(zbh lo hi).length=1:=by rw[zdb hc];rfl
def D1(lo hi:Int):Prop:=lo/64=hi/64∨szC lo≤1∨(lo%64=0∧hi%64=63)
def D2(lo hi:Int):Prop:=lo/4096=hi/4096∨szC lo≤2∨(lo%4096=0∧hi%4096=4095)
def D3(lo hi:Int):Prop:=lo/262144=hi/262144∨szC lo≤3∨(lo%262144=0∧hi%262144=262143)
theorem zdk{lo hi:Int}(a:D1 lo hi)(b:D2 lo hi)(c:D3 lo hi):cutC lo hi=none:=z29 ⟨fun _=>a,fun _=>b,fun _=>c⟩
theorem zgk{lo hi c:Int}(h:lo≤hi)(hc:cutC lo hi=some c):(zbh lo hi).length=(zbh lo (c-1)).length+(zbh c hi).length:=by
 rw[zc9 h hc,List.length_append]
theorem zg0{lo c hi:Int}(hk:Cls lo hi)(h1:lo≤c)(h2:c≤hi):szC c=szC lo:=by
 have:=zpe h1 (show Cls lo c by unfold Cls at*;omega);have a:=znh lo;have b:=znh c;omega
theorem few3{lo hi:Int}(h:lo≤hi)(hk:Cls lo hi)(a:D1 lo hi)(b:D2 lo hi):(zbh lo hi).length≤3∧(szC lo≤3→(zbh lo hi).length=1):=by
 have n3:zi6 3 lo hi:=⟨fun _=>a,fun _=>b,fun g=>by omega⟩;by_cases c:D3 lo hi
 ·have:=zc8 (zdk a b c);omega
 unfold D3 at c;by_cases h3:lo%262144≠0
 ·have hc:=z9j n3 (by omega) (by omega) h3;obtain⟨i1,i2⟩:=ze3 h hc;have k1:Cls lo (lo-lo%262144+262144-1):=by unfold Cls at*;omega
  have k2:Cls (lo-lo%262144+262144) hi:=by unfold Cls at*;omega
  have e2:=zg0 hk (show lo≤lo-lo%262144+262144 by omega) i2;have p1:=zc8 (zdk (lo:=lo) (hi:=lo-lo%262144+262144-1) (by unfold D1 at*;omega) (by unfold D2 at*;omega) (by unfold D3;omega));rw[zgk h hc,p1];generalize hx:lo-lo%262144+262144=x at*;have a':D1 x hi:=by unfold D1 at*;omega
  have b':D2 x hi:=by unfold D2 at*;omega
  by_cases c':D3 x hi
  ·have:=zc8 (zdk a' b' c');omega
  unfold D3 at c';have hc2:=zyg (lo:=x) (hi:=hi) ⟨fun _=>a',fun _=>b',fun g=>by omega⟩ (by omega) (by omega) (by omega) (by omega);obtain⟨j1,j2⟩:=ze3 i2 hc2;rw[zgk i2 hc2];have e3:=zg0 hk (show lo≤hi-hi%262144 by omega) j2;have p2:=zc8 (zdk (lo:=x) (hi:=hi-hi%262144-1) (by unfold D1 at*;omega) (by unfold D2 at*;omega) (by unfold D3;omega));have p3:=zc8 (zdk (lo:=hi-hi%262144) (hi:=hi) (by unfold D1 at*;omega) (by unfold D2 at*;omega) (by unfold D3;omega));rw[p2,p3];omega
 ·have hc2:=zyg (lo:=lo) (hi:=hi) n3 (by omega) (by omega) (by omega) (by omega);obtain⟨j1,j2⟩:=ze3 h hc2;rw[zgk h hc2];have e3:=zg0 hk (show lo≤hi-hi%262144 by omega) j2;have p2:=zc8 (zdk (lo:=lo) (hi:=hi-hi%262144-1) (by unfold D1 at*;omega) (by unfold D2 at*;omega) (by unfold D3;omega));have p3:=zc8 (zdk (lo:=hi-hi%262144) (hi:=hi) (by unfold D1 at*;omega) (by unfold D2 at*;omega) (by unfold D3;omega));rw[p2,p3];omega
theorem few2{lo hi:Int}(h:lo≤hi)(hk:Cls lo hi)(a:D1 lo hi):(zbh lo hi).length≤5∧(szC lo≤3→(zbh lo hi).length≤3)∧(szC lo≤2→(zbh lo hi).length=1):=by
 have n2:zi6 2 lo hi:=⟨fun _=>a,fun g=>by omega,fun g=>by omega⟩;by_cases b:D2 lo hi
 ·have:=few3 h hk a b;omega
 unfold D2 at b;by_cases h3:lo%4096≠0
 ·have hc:=z9k n2 (by omega) (by omega) h3;obtain⟨i1,i2⟩:=ze3 h hc;have k2:Cls (lo-lo%4096+4096) hi:=by unfold Cls at*;omega
  have e2:=zg0 hk (show lo≤lo-lo%4096+4096 by omega) i2;have p1:=zc8 (zdk (lo:=lo) (hi:=lo-lo%4096+4096-1) (by unfold D1 at*;omega) (by unfold D2;omega) (by unfold D3;omega));rw[zgk h hc,p1];generalize hx:lo-lo%4096+4096=x at*;have a':D1 x hi:=by unfold D1 at*;omega
  by_cases b':D2 x hi
  ·have:=few3 i2 k2 a' b';omega
  unfold D2 at b';have hc2:=zyh (lo:=x) (hi:=hi) ⟨fun _=>a',fun g=>by omega,fun g=>by omega⟩ (by omega) (by omega) (by omega) (by omega);obtain⟨j1,j2⟩:=ze3 i2 hc2;have k3:Cls x (hi-hi%4096-1):=by unfold Cls at*;omega
  rw[zgk i2 hc2];have e3:=zg0 hk (show lo≤hi-hi%4096 by omega) j2;have p2:=few3 (lo:=x) (hi:=hi-hi%4096-1) (by omega) k3 (by unfold D1 at*;omega) (by unfold D2 at*;omega);have p3:=zc8 (zdk (lo:=hi-hi%4096) (hi:=hi) (by unfold D1 at*;omega) (by unfold D2 at*;omega) (by unfold D3;omega));rw[p3];omega
 ·have hc2:=zyh (lo:=lo) (hi:=hi) n2 (by omega) (by omega) (by omega) (by omega);obtain⟨j1,j2⟩:=ze3 h hc2;have k3:Cls lo (hi-hi%4096-1):=by unfold Cls at*;omega
  rw[zgk h hc2];have e3:=zg0 hk (show lo≤hi-hi%4096 by omega) j2;have p2:=few3 (lo:=lo) (hi:=hi-hi%4096-1) (by omega) k3 (by unfold D1 at*;omega) (by unfold D2 at*;omega);have p3:=zc8 (zdk (lo:=hi-hi%4096) (hi:=hi) (by unfold D1 at*;omega) (by unfold D2 at*;omega) (by unfold D3;omega));rw[p3];omega
theorem few1{lo hi:Int}(h:lo≤hi)(hk:Cls lo hi):(zbh lo hi).length≤7∧(szC lo≤3→(zbh lo hi).length≤5)∧(szC lo≤2→(zbh lo hi).length≤3)∧(szC lo≤1→(zbh lo hi).length=1):=by
 have n1:zi6 1 lo hi:=⟨fun g=>by omega,fun g=>by omega,fun g=>by omega⟩;by_cases a:D1 lo hi
 ·have:=few2 h hk a;by_cases hs:szC lo≤1
  ·have:=zc8 (zdk a (by unfold D2;omega) (by unfold D3;omega));omega
  ·omega
 unfold D1 at a;by_cases h3:lo%64≠0
 ·have hc:=zA0 n1 (by omega) (by omega) h3;obtain⟨i1,i2⟩:=ze3 h hc;have k2:Cls (lo-lo%64+64) hi:=by unfold Cls at*;omega
  have e2:=zg0 hk (show lo≤lo-lo%64+64 by omega) i2;have p1:=zc8 (zdk (lo:=lo) (hi:=lo-lo%64+64-1) (by unfold D1;omega) (by unfold D2;omega) (by unfold D3;omega));rw[zgk h hc,p1];generalize hx:lo-lo%64+64=x at*;by_cases a':D1 x hi
  ·have:=few2 i2 k2 a';omega
  unfold D1 at a';have hc2:=zyi (lo:=x) (hi:=hi) ⟨fun g=>by omega,fun g=>by omega,fun g=>by omega⟩ (by omega) (by omega) (by omega) (by omega);obtain⟨j1,j2⟩:=ze3 i2 hc2;have k3:Cls x (hi-hi%64-1):=by unfold Cls at*;omega
  rw[zgk i2 hc2];have e3:=zg0 hk (show lo≤hi-hi%64 by omega) j2;have p2:=few2 (lo:=x) (hi:=hi-hi%64-1) (by omega) k3 (by unfold D1;omega);have p3:=zc8 (zdk (lo:=hi-hi%64) (hi:=hi) (by unfold D1;omega) (by unfold D2;omega) (by unfold D3;omega));rw[p3];omega
 ·have hc2:=zyi (lo:=lo) (hi:=hi) n1 (by omega) (by omega) (by omega) (by omega);obtain⟨j1,j2⟩:=ze3 h hc2;have k3:Cls lo (hi-hi%64-1):=by unfold Cls at*;omega
  rw[zgk h hc2];have e3:=zg0 hk (show lo≤hi-hi%64 by omega) j2;have p2:=few2 (lo:=lo) (hi:=hi-hi%64-1) (by omega) k3 (by unfold D1;omega);have p3:=zc8 (zdk (lo:=hi-hi%64) (hi:=hi) (by unfold D1;omega) (by unfold D2;omega) (by unfold D3;omega));rw[p3];omega
end Sp
end Go.Proofs.YtaociahafamncaaGreatDoor
