/- Folded. -/
import Derived.Test.YtaociahafamncaaGreatDoorHM39
set_option maxRecDepth 100000
set_option maxHeartbeats 40000000
set_option linter.unusedVariables false
namespace Go.Proofs.YtaociahafamncaaGreatDoor
section
open Go.RowKit Go.Maps
theorem zKi(w W1:World)(B:Nat)(hB:B≤w.heap.size)(ab ao n c:Nat)(H:List Sh)(HS:Hid (StsIn w B (some ⟨ab,ao,none⟩) n c H))(eb eo n' c':Nat)(H':List Sh)(HS':Hid (StsIn w B (some ⟨eb,eo,none⟩) n' c' H'))(hab:ab<B)(heb:eb<B)
  (a e':List St) (HA:Hid (H.map (·.d)=a)) (HE:Hid (H'.map (·.d)=e')) (HG:Hid (Good a)) (HG':Hid (Good e')) (hln:H.length=n) (hln':H'.length=n') (HAL:Hid (a.length=n)) (HEL:Hid (e'.length=n')) (HT:Hid (Tab w)) (hnp:0<n) (hnp':0<n') (hnm:n≤20000) (hnm':n'≤20000)
  (p kb i u v:Nat) (X Y:Sh) (HXA:Hid (zd4 a (u:Int)=X.d.2)) (HYA:Hid (zd4 e' (v:Int)=Y.d.2)) (HXM:Hid (X∈H)) (HYM:Hid (Y∈H')) (HAX:Hid (Asc X.d.2 256)) (HAY:Hid (Asc Y.d.2 256)) (m':Nat) (HM':Hid (Y.d.2.length=m')) (hmm':m'≤140737488355328)
  (k:Nat) (lo hi tt:Int) (HPX:Hid (X.d.2[k]? =some (lo,hi,tt))) (pb:Nat) (hpbs:w.heap.size≤pb)
  (ns cs ct na ca b:Nat) (As At Aa:Option Addr) (N:DataW Unit) (hs:List Sh) (S:List Rw) (arcs:List Arc3) (M0:List (List Int))
  (HB0:Hid (BoG a e' n n' w W1 p kb i u v X.d.2 Y.d.2 k 0 b ns cs ct As At N arcs na ca Aa hs S M0)) (HPB0:Hid (W1.heap[pb]? =some (.cells #[.int .i64 lo,.int .i64 hi,.int .i64 tt] 76 (0,0))∧(Value.slice Aa na ca).ownBlock≠some pb))
  (c2 c3 c4 c5 c6 c7 c9 c10 c11 c13 c15 c19 c20 c21 c22 c23 c24 c25 c26 c27 c28 c29 c30 c31 c32 c33 c34 c35 c36 c37 c38 c39 c40 c41 c42 c43 c44 c45 c46 c47 c48 c49 c50 c51 c52 c53 c54 c55 c56 c57 c58 c59 c60 c61 c62 c63 c64 c65 c66 c67 c68 c69 c70 c71 c72 c73 c74 c75 c76 c77 c78 c79 c80 c81 c82 c83 c84 c85 c86 c87 c88 c89 c90 c137 c138 c139 c140 c141 c142 c143 c144 c145 c146 c147 c148 c149 c150 u16 u17 u18 u94 u95 u96 u97 u98 u99 u100 u101 u102 u103 u104 u105 u106 u107 u108 u109 u110 u111 u112 u113 u114 u115 u116 u117 u118 u119 u120 u121 u122 u123 u124 u125 u126 u127 u128 u129 u130 u131 u132 u133 u134 u135 u136:Value) (Q0:Exit→Act→World→Prop) (hQ0:∀c (a a':Act) w,a.defers=a'.defers→Q0 (.panic c) a w→Q0 (.panic c) a' w)
  (hexit:∀(ns cs ct na ca b:Nat) (As At Aa:Option Addr) (N:DataW Unit) (hs:List Sh) (S:List Rw) (arcs:List Arc3) (W:World) (u16 u17 u18 u94 u95 u96 u97 u98 u99 u100 u101 u102 u103 u104 u105 u106 u107 u108 u109 u110 u111 u112 u113 u114 u115 u116 u117 u118 u119 u120 u121 u122 u123 u124 u125 u126 u127 u128 u129 u130 u131 u132 u133 u134 u135 u136:Value),Hid (BoG a e' n n' w W p kb i u v X.d.2 Y.d.2 k m' b ns cs ct As At N arcs na ca Aa hs S M0)→Q0 (.exit 4) ⟨List.toArray (.slice (some ⟨ab,ao,none⟩) n c::.slice (some ⟨eb,eo,none⟩) n' c'::c2::c3::c4::c5::c6::c7::.pointer (some ⟨p,0,none⟩)::c9::c10::c11::.slice Aa na ca::c13::.pointer (some ⟨pb,0,none⟩)::c15::u16::u17::u18::c19::c20::c21::c22::c23::c24::c25::c26::c27::c28::c29::c30::c31::c32::c33::c34::c35::c36::c37::c38::c39::c40::c41::c42::c43::c44::c45::c46::c47::c48::c49::c50::c51::c52::c53::c54::c55::c56::c57::c58::c59::c60::c61::c62::c63::c64::c65::c66::c67::c68::c69::c70::c71::c72::c73::c74::c75::c76::c77::c78::c79::c80::c81::c82::c83::c84::c85::c86::c87::c88::c89::c90::.slice Y.A m' Y.c::.int .i64 m'::.int .i64 m'::u94::u95::u96::u97::u98::u99::u100::u101::u102::u103::u104::u105::u106::u107::u108::u109::u110::u111::u112::u113::u114::u115::u116::u117::u118::u119::u120::u121::u122::u123::u124::u125::u126::u127::u128::u129::u130::u131::u132::u133::u134::u135::u136::c137::c138::c139::c140::c141::c142::c143::c144::c145::c146::c147::c148::c149::c150::[]),[]⟩ W):
  Code.wp Tryz.prog (.loop (zoc Tryz.f17 2)) Q0 ⟨List.toArray (.slice (some ⟨ab,ao,none⟩) n c::.slice (some ⟨eb,eo,none⟩) n' c'::c2::c3::c4::c5::c6::c7::.pointer (some ⟨p,0,none⟩)::c9::c10::c11::.slice Aa na ca::c13::.pointer (some ⟨pb,0,none⟩)::c15::u16::u17::u18::c19::c20::c21::c22::c23::c24::c25::c26::c27::c28::c29::c30::c31::c32::c33::c34::c35::c36::c37::c38::c39::c40::c41::c42::c43::c44::c45::c46::c47::c48::c49::c50::c51::c52::c53::c54::c55::c56::c57::c58::c59::c60::c61::c62::c63::c64::c65::c66::c67::c68::c69::c70::c71::c72::c73::c74::c75::c76::c77::c78::c79::c80::c81::c82::c83::c84::c85::c86::c87::c88::c89::c90::.slice Y.A m' Y.c::.int .i64 m'::.int .i64 (0:Int)::u94::u95::u96::u97::u98::u99::u100::u101::u102::u103::u104::u105::u106::u107::u108::u109::u110::u111::u112::u113::u114::u115::u116::u117::u118::u119::u120::u121::u122::u123::u124::u125::u126::u127::u128::u129::u130::u131::u132::u133::u134::u135::u136::c137::c138::c139::c140::c141::c142::c143::c144::c145::c146::c147::c148::c149::c150::[]),[]⟩ W1:=by
 conv=>arg 2;arg 1;whnf
 go_loopw [12,93] (fun av jv wj=>∃(j ns cs ct na ca b:Nat) (As At Aa:Option Addr) (N:DataW Unit) (hs:List Sh) (S:List Rw) (arcs:List Arc3),jv=.int .i64 j∧av=.slice Aa na ca∧j≤m'∧Hid (BoG a e' n n' w wj p kb i u v X.d.2 Y.d.2 k j b ns cs ct As At N arcs na ca Aa hs S M0)∧Hid (wj.heap[pb]? =some (.cells #[.int .i64 lo,.int .i64 hi,.int .i64 tt] 76 (0,0))∧(Value.slice Aa na ca).ownBlock≠some pb)) (fun _ jv _=>m'-(intOf jv).toNat)
 case atStart=>exact⟨0,ns,cs,ct,na,ca,b,As,At,Aa,N,hs,S,arcs,rfl,rfl,Nat.zero_le _,HB0,HPB0⟩
 case round=>
  clear HB0 HPB0;obtain⟨j,ns,cs,ct,na,ca,b,As,At,Aa,N,hs,S,arcs,rfl,rfl,hjm,HB1,HPB⟩:=hrel;by_cases hj:j<m'
  ·
   obtain⟨qb0,qo0,hYA,hqb0,hqc⟩:=(HS'.out.keep (HB1.out.ti.bel.mono hB) (Nat.le_refl _)).arc HYM.out (by rw[HM'.out];omega);obtain⟨⟨lo',hi',tt'⟩,hy⟩:∃x,Y.d.2[j]? =some x:=⟨Y.d.2[j]'(by rw[HM'.out];exact hj),List.getElem?_eq_getElem _⟩;obtain⟨p0,p1,p2⟩:=hqc j _ hy;simp only at p0 p1 p2;have hbs:=HB1.out.ti.bel.size;have hqw0:qb0<wr.heap.size:=by omega
   have HQY:=Lib.hid hy;have hpbw:pb<wr.heap.size:=(Array.getElem?_eq_some_iff.1 HPB.out.1).1;have hmc:m'≤Y.c:=by rw[←HM'.out];exact(HS'.out.ar Y HYM.out).2.1
   rw[hYA];clear hqc hy;have hqb1:(wr.alloc (.cells #[.int .i64 lo',.int .i64 hi',.int .i64 tt'] 76)).heap[wr.heap.size]? =some (.cells #[.int .i64 lo',.int .i64 hi',.int .i64 tt'] 76 (0,0)):=heap_alloc_new wr _;have hqb2:(Value.slice Aa na ca).ownBlock≠some wr.heap.size:=fun h=>by
    have h1:=((HB1.out.ti.mr.g.arcs.own _ (List.mem_cons_self ..)).lt _ h).2;omega
   have hBA:=bnew (za0 wr) (.cells #[.int .i64 lo',.int .i64 hi',.int .i64 tt'] 76);have HB2:=Lib.hid (HB1.out.keep hBA);have HPB2:=Lib.hid (And.intro ((hBA.block pb hpbw).trans HPB.out.1) HPB.out.2);have hsz9:(wr.alloc (.cells #[.int .i64 lo',.int .i64 hi',.int .i64 tt'] 76)).heap.size=wr.heap.size+1:=by simp
   go_wp2_with fail;obtain⟨qb,hqbe⟩:∃x,wr.heap.size=x:=⟨_,rfl⟩;rw[hqbe]at hqb1 hqb2 hsz9⊢;have hqpb:pb<qb:=by omega
   have hqbs:w.heap.size≤qb:=by omega
   clear HB1 HPB p0 p1 p2 hqw0 hqbe hBA hpbw hqb0;generalize wr.alloc (.cells #[.int .i64 lo',.int .i64 hi',.int .i64 tt'] 76)=W2 at*;have c0:=cell_of_row W2 pb 0 _ _ (0,0) HPB2.out.1;have c1:=cell_of_row W2 pb 1 _ _ (0,0) HPB2.out.1;have c2:=cell_of_row W2 pb 2 _ _ (0,0) HPB2.out.1;have d0:=cell_of_row W2 qb 0 _ _ (0,0) hqb1;have d1:=cell_of_row W2 qb 1 _ _ (0,0) hqb1;have d2:=cell_of_row W2 qb 2 _ _ (0,0) hqb1;have hpW:pb<W2.heap.size:=by omega
   have hqW:qb<W2.heap.size:=by omega
   have HQB:=Lib.hid (And.intro hqb1 hqb2);clear hqb1 hqb2;go_region_held3 (fun w'=>w'.cell? ⟨pb,0,none⟩=some (.int .i64 lo)∧w'.cell? ⟨pb,1,none⟩=some (.int .i64 hi)∧w'.cell? ⟨qb,0,none⟩=some (.int .i64 lo')∧w'.cell? ⟨qb,1,none⟩=some (.int .i64 hi'))
    (first
     |assumption
     |exact⟨c0,c1,d0,d1⟩)
    (first
     |(go_at_call 99999))
   all_goals
    have hBD:Below W2.heap.size W2 W2.drew:=Below.drew (za0 W2);have HB3:=Lib.hid (HB2.out.keep hBD);have HPB3:=Lib.hid (And.intro ((hBD.block pb hpW).trans HPB2.out.1) HPB2.out.2);have HQB3:=Lib.hid (And.intro ((hBD.block qb hqW).trans HQB.out.1) HQB.out.2);have hpW3:pb<W2.drew.heap.size:=Nat.lt_of_lt_of_le hpW hBD.size;have hqW3:qb<W2.drew.heap.size:=Nat.lt_of_lt_of_le hqW hBD.size;clear hBD HB2 HPB2 HQB c0 c1 c2 d0 d1 d2 hpW hqW hsz9 hbs hYA;generalize W2.drew=W3 at*;obtain⟨mx,hmx⟩:∃z,max lo lo'=z:=⟨_,rfl⟩;obtain⟨mn,hmn⟩:∃z,min hi hi'=z:=⟨_,rfl⟩;rw[hmx,hmn];have HUV:=Lib.hid (And.intro hmx hmn);clear hmx hmn;by_cases hle:mx≤mn
    ·
     have q2:decide (mx≤mn)=true:=decide_eq_true hle;have hox:=HAX.out.ok _ (List.mem_of_getElem? HPX.out);have hoy:=HAY.out.ok _ (List.mem_of_getElem? HQY.out);simp only at hox hoy;have hmxn:=HUV.out;obtain⟨u2,rfl⟩:=Int.eq_ofNat_of_zero_le (show 0≤mx by omega);obtain⟨v2,rfl⟩:=Int.eq_ofNat_of_zero_le (show 0≤mn by omega);have huv:u2≤v2:=by omega
     have q3:decide (u2≤v2)=true:=decide_eq_true huv;clear hox hoy hmxn hle;go_wp2_with fail;refine zKh (w:=w) (W3:=W3) (B:=B) hB ab ao n c H HS eb eo n' c' H' HS' hab heb a e' HA HE HG HG' hln hln' HAL HEL HT hnp hnp' hnm hnm' p kb i u v X Y HXA HYA HXM HYM HAX HAY m' HM' hmm' k lo hi tt HPX pb hpbs ns cs ct na ca b As At Aa N hs S arcs M0 j hj lo' hi' tt' HQY qb hqbs HB3 HPB3 HQB3 hpW3 hqW3 u2 v2 HUV huv _ _ _ _ _ _ _ _ _ _ _ _ _ _ _ _ _ _ _ _ _ _ _ _ _ _ _ _ _ _ _ _ _ _ _ _ _ _ _ _ _ _ _ _ _ _ _ _ _ _ _ _ _ _ _ _ _ _ _ _ _ _ _ _ _ _ _ _ _ _ _ _ _ _ _ _ _ _ _ _ _ _ _ _ _ _ _ _ _ _ _ _ _ _ _ _ _ _ _ _ _ _ _ _ _ _ _ _ _ _ _ _ _ _ _ _ _ _ _ _ _ _ _ _ _ _ _ _ _ _ _ _ _ _ _ _ _ _ _ _ _ _ _ _ (fun c a a' w hd h=>hQ0 c a a' w hd h) ?_;intro ns' cs' ct' na' ca' As' At' Aa' N' hs' S' arcs' W u110 u111 u112 u113 u114 u115 u116 u117 u118 u119 u120 u121 u122 u123 u124 u125 u126 u127 u128 u129 u130 u131 u132 u133 u134 u135 HB4 HPB4
     clear HB3 HPB3 HQB3;go_wp2_with fail;go_roundw;case rel=>exact⟨j+1,ns',cs',ct',na',ca',v2+1,As',At',Aa',N',hs',S',arcs',by go_num,rfl,by omega,HB4,HPB4⟩
     case measure=>simp[intOf];omega
    ·
     have q2:decide (mx≤mn)=false:=decide_eq_false hle;have HB4:=Lib.hid (HB3.out.pass HPX.out HQY.out (by have h1:=HUV.out;simp only;rw[h1.1,h1.2];exact hle));clear HB3 hle;go_wp2_with fail;go_roundw;case rel=>exact⟨j+1,ns,cs,ct,na,ca,b,As,At,Aa,N,hs,S,arcs,by go_num,rfl,by omega,HB4,HPB3⟩
     case measure=>simp[intOf];omega
  ·obtain rfl:j=m':=by omega
   clear HPB;go_wp2_with fail;apply hexit
   exact HB1
end
section
open Go.RowKit Go.Maps
theorem zKj(w W0:World)(B:Nat)(hB:B≤w.heap.size)(ab ao n c:Nat)(H:List Sh)(HS:Hid (StsIn w B (some ⟨ab,ao,none⟩) n c H))(eb eo n' c':Nat)(H':List Sh)(HS':Hid (StsIn w B (some ⟨eb,eo,none⟩) n' c' H'))(hab:ab<B)(heb:eb<B)
  (a e':List St) (HA:Hid (H.map (·.d)=a)) (HE:Hid (H'.map (·.d)=e')) (HG:Hid (Good a)) (HG':Hid (Good e')) (hln:H.length=n) (hln':H'.length=n') (HAL:Hid (a.length=n)) (HEL:Hid (e'.length=n')) (HT:Hid (Tab w)) (hnp:0<n) (hnp':0<n') (hnm:n≤20000) (hnm':n'≤20000) (most:Int)
  (HFEW:Hid (∀f,((zci a e').run f 0 [[0,0]]).length≤20000)) (p kb ns cs ct:Nat) (As At:Option Addr) (N:DataW Unit) (hs:List Sh) (S:List Rw) (hns0:0≤ns∧ns≤20300)
  (HTI:Hid (TiG w W0 p As ns cs At ct kb N GRow.nil hs S [] GRow.nil)) (HMP:Hid (MadeP (zci a e') (finP a e') (finP a e') [0,0] 0 (S.map (·.l)) (hs.map (·.d)))) (HIN0:Hid ((∀s∈S,zla n n' s.l)∧∀k,0≤k→k<ns→∃s,S[k]? =some s∧hs[k]? =some ⟨(finP a e' s.l,[]),none,0⟩))
  (c3 c4 c5 c13 c15 c19 c20 c21 c22 c23 c24 c25 c26 c27 c28 c29 c30 c31 c32 c33 c34 c35 c36 c37 c38 c39 c40 c41 c42 c146 c147 c148 c149 c150 u6 u7 u10 u11 u12 u14 u16 u17 u18 u43 u44 u45 u46 u47 u48 u49 u50 u51 u52 u53 u54 u55 u56 u57 u58 u59 u60 u61 u62 u63 u64 u65 u66 u67 u68 u69 u70 u71 u72 u73 u74 u75 u76 u77 u78 u79 u80 u81 u82 u83 u84 u85 u86 u87 u88 u89 u90 u91 u92 u93 u94 u95 u96 u97 u98 u99 u100 u101 u102 u103 u104 u105 u106 u107 u108 u109 u110 u111 u112 u113 u114 u115 u116 u117 u118 u119 u120 u121 u122 u123 u124 u125 u126 u127 u128 u129 u130 u131 u132 u133 u134 u135 u136 u137 u138 u139 u140 u141 u142 u143 u144 u145:Value) (Q0:Exit→Act→World→Prop) (hQ0:∀c (a a':Act) w,a.defers=a'.defers→Q0 (.panic c) a w→Q0 (.panic c) a' w)
  (hret:∀(W:World) (x9 u10 u11 u12 u14 u16 u17 u18 u43 u44 u45 u46 u47 u48 u49 u50 u51 u52 u53 u54 u55 u56 u57 u58 u59 u60 u61 u62 u63 u64 u65 u66 u67 u68 u69 u70 u71 u72 u73 u74 u75 u76 u77 u78 u79 u80 u81 u82 u83 u84 u85 u86 u87 u88 u89 u90 u91 u92 u93 u94 u95 u96 u97 u98 u99 u100 u101 u102 u103 u104 u105 u106 u107 u108 u109 u110 u111 u112 u113 u114 u115 u116 u117 u118 u119 u120 u121 u122 u123 u124 u125 u126 u127 u128 u129 u130 u131 u132 u133 u134 u135 u136 u137 u138 u139 u140 u141 u142 u143 u144 u145:Value),Hid (∃f,most<(((zci a e').run f 0 [[0,0]]).length:Nat))→Hid (Below w.heap.size w W)→Q0 .ret ⟨List.toArray (.slice (some ⟨ab,ao,none⟩) n c::.slice (some ⟨eb,eo,none⟩) n' c'::.int .i64 most::c3::c4::c5::.slice none 0 0::.int .i64 8::.pointer (some ⟨p,0,none⟩)::x9::u10::u11::u12::c13::u14::c15::u16::u17::u18::c19::c20::c21::c22::c23::c24::c25::c26::c27::c28::c29::c30::c31::c32::c33::c34::c35::c36::c37::c38::c39::c40::c41::c42::u43::u44::u45::u46::u47::u48::u49::u50::u51::u52::u53::u54::u55::u56::u57::u58::u59::u60::u61::u62::u63::u64::u65::u66::u67::u68::u69::u70::u71::u72::u73::u74::u75::u76::u77::u78::u79::u80::u81::u82::u83::u84::u85::u86::u87::u88::u89::u90::u91::u92::u93::u94::u95::u96::u97::u98::u99::u100::u101::u102::u103::u104::u105::u106::u107::u108::u109::u110::u111::u112::u113::u114::u115::u116::u117::u118::u119::u120::u121::u122::u123::u124::u125::u126::u127::u128::u129::u130::u131::u132::u133::u134::u135::u136::u137::u138::u139::u140::u141::u142::u143::u144::u145::c146::c147::c148::c149::c150::[]),[]⟩ W)
  (hexit:∀(ns cs ct:Nat) (As At:Option Addr) (N:DataW Unit) (hs:List Sh) (S:List Rw) (W:World) (u6 u7 u10 u11 u12 u14 u16 u17 u18 u43 u44 u45 u46 u47 u48 u49 u50 u51 u52 u53 u54 u55 u56 u57 u58 u59 u60 u61 u62 u63 u64 u65 u66 u67 u68 u69 u70 u71 u72 u73 u74 u75 u76 u77 u78 u79 u80 u81 u82 u83 u84 u85 u86 u87 u88 u89 u90 u91 u92 u93 u94 u95 u96 u97 u98 u99 u100 u101 u102 u103 u104 u105 u106 u107 u108 u109 u110 u111 u112 u113 u114 u115 u116 u117 u118 u119 u120 u121 u122 u123 u124 u125 u126 u127 u128 u129 u130 u131 u132 u133 u134 u135 u136 u137 u138 u139 u140 u141 u142 u143 u144 u145:Value),ns≤20300→Hid (ns=0∨(ns:Int)≤most)→Hid (TiG w W p As ns cs At ct kb N GRow.nil hs S [] GRow.nil)→Hid (MadeP (zci a e') (finP a e') (finP a e') [0,0] ns (S.map (·.l)) (hs.map (·.d)))→Q0 (.exit 0) ⟨List.toArray (.slice (some ⟨ab,ao,none⟩) n c::.slice (some ⟨eb,eo,none⟩) n' c'::.int .i64 most::c3::c4::c5::u6::u7::.pointer (some ⟨p,0,none⟩)::.int .i64 (ns:Int)::u10::u11::u12::c13::u14::c15::u16::u17::u18::c19::c20::c21::c22::c23::c24::c25::c26::c27::c28::c29::c30::c31::c32::c33::c34::c35::c36::c37::c38::c39::c40::c41::c42::u43::u44::u45::u46::u47::u48::u49::u50::u51::u52::u53::u54::u55::u56::u57::u58::u59::u60::u61::u62::u63::u64::u65::u66::u67::u68::u69::u70::u71::u72::u73::u74::u75::u76::u77::u78::u79::u80::u81::u82::u83::u84::u85::u86::u87::u88::u89::u90::u91::u92::u93::u94::u95::u96::u97::u98::u99::u100::u101::u102::u103::u104::u105::u106::u107::u108::u109::u110::u111::u112::u113::u114::u115::u116::u117::u118::u119::u120::u121::u122::u123::u124::u125::u126::u127::u128::u129::u130::u131::u132::u133::u134::u135::u136::u137::u138::u139::u140::u141::u142::u143::u144::u145::c146::c147::c148::c149::c150::[]),[]⟩ W):
  Code.wp Tryz.prog (.loop (zoc Tryz.f17 0)) Q0 ⟨List.toArray (.slice (some ⟨ab,ao,none⟩) n c::.slice (some ⟨eb,eo,none⟩) n' c'::.int .i64 most::c3::c4::c5::u6::u7::.pointer (some ⟨p,0,none⟩)::.int .i64 (0:Int)::u10::u11::u12::c13::u14::c15::u16::u17::u18::c19::c20::c21::c22::c23::c24::c25::c26::c27::c28::c29::c30::c31::c32::c33::c34::c35::c36::c37::c38::c39::c40::c41::c42::u43::u44::u45::u46::u47::u48::u49::u50::u51::u52::u53::u54::u55::u56::u57::u58::u59::u60::u61::u62::u63::u64::u65::u66::u67::u68::u69::u70::u71::u72::u73::u74::u75::u76::u77::u78::u79::u80::u81::u82::u83::u84::u85::u86::u87::u88::u89::u90::u91::u92::u93::u94::u95::u96::u97::u98::u99::u100::u101::u102::u103::u104::u105::u106::u107::u108::u109::u110::u111::u112::u113::u114::u115::u116::u117::u118::u119::u120::u121::u122::u123::u124::u125::u126::u127::u128::u129::u130::u131::u132::u133::u134::u135::u136::u137::u138::u139::u140::u141::u142::u143::u144::u145::c146::c147::c148::c149::c150::[]),[]⟩ W0:=by
 conv=>arg 2;arg 1;whnf
 go_loopw [9] (fun iv wr=>∃(i ns cs ct:Nat) (As At:Option Addr) (N:DataW Unit) (hs:List Sh) (S:List Rw),iv=.int .i64 i∧i≤ns∧ns≤20300∧Hid (i=0∨(i:Int)≤most)∧Hid (TiG w wr p As ns cs At ct kb N GRow.nil hs S [] GRow.nil)∧Hid (MadeP (zci a e') (finP a e') (finP a e') [0,0] i (S.map (·.l)) (hs.map (·.d)))∧Hid ((∀s∈S,zla n n' s.l)∧∀k,i≤k→k<ns→∃s,S[k]? =some s∧hs[k]? =some ⟨(finP a e' s.l,[]),none,0⟩)) (fun iv _=>20001-(intOf iv).toNat)
 case atStart=>exact⟨0,ns,cs,ct,As,At,N,_,_,rfl,Nat.zero_le _,hns0.2,.inl rfl,HTI,HMP,HIN0⟩
 case round=>
  clear HTI HMP HIN0;obtain⟨i,ns,cs,ct,As,At,N,hs,S,rfl,hin,hns,HI0,HR,HP,HIN⟩:=hrel;obtain⟨m0,m1,m2⟩:=HR.out.mr.g.cells;have hpl:=HR.out.mr.g.lt;by_cases hlt:i<ns
  ·by_cases hmo:most<(ns:Int)
   ·have q1:decide ((ns:Int)>most)=true:=decide_eq_true hmo;have HLN:Hid (∃f,most<(((zci a e').run f 0 [[0,0]]).length:Nat)):=⟨i,by rw[←HP.out.run,List.length_map,HR.out.mr.sl];exact hmo⟩;have HB:=Lib.hid HR.out.bel;clear hmo;go_wp2_with fail;apply hret
    ·exact HLN
    ·exact HB
   ·have q1:decide ((ns:Int)>most)=false:=decide_eq_false hmo;have HMO:=Lib.hid (show(ns:Int)≤most by omega);have hns2:ns≤20000:=by
     have h1:=HFEW.out i;rw[←HP.out.run,List.length_map,HR.out.mr.sl]at h1;exact h1
    obtain⟨x,hx⟩:∃x,S[i]? =some x:=⟨S[i]'(by rw[HR.out.mr.sl];exact hlt),List.getElem?_eq_getElem _⟩;obtain⟨u,v,hun,hvn,hxl⟩:=HIN.out.1 x (List.mem_of_getElem? hx);obtain⟨tg,rfl,htb,htl⟩:=zah HR.out.mr.g.se (by omega);have t0:wr.cell? ⟨tg,i,none⟩=some (.slice x.A 2 x.c):=by
     have h1:=zak (j:=i) (u:=.slice x.A x.l.length x.c) HR.out.mr.g.se (by rw[List.getElem?_map,hx];rfl);rw[hxl]at h1;exact h1
    have hct:ns≤ct:=by
     obtain⟨A1,c1,e1,h1⟩:=za1 HR.out.mr.g.se;injection e1 with _ _ e1
     omega
    have hxo:wr.ownsRow w.heap.size 3 1 (.slice x.A 2 x.c) 2 (([(u:Int),(v:Int)]:List Int).map (.int .i64)):=by
     have h1:=HR.out.fam.own x (by rw[List.nil_append];exact List.mem_of_getElem? hx);have h2:wr.ownsRow w.heap.size 3 1 (.slice x.A x.l.length x.c) x.l.length (x.l.map (.int .i64)):=h1;rw[hxl]at h2;exact h2
    obtain⟨xg,hxA,hxb,hxw⟩:=zah hxo (by omega);rw[hxA]at hxo t0;have x0:=zak (j:=0) (u:=.int .i64 (u:Int)) hxo rfl;have x1:=zak (j:=1) (u:=.int .i64 (v:Int)) hxo rfl;have hxc:2≤x.c:=by
     obtain⟨A1,c1,e1,h1⟩:=za1 hxo;injection e1 with _ _ e1
     omega
    obtain⟨xc,hxce⟩:∃k,x.c=k:=⟨_,rfl⟩;rw[hxce]at t0 hxc;have HMD:Hid (MidP (zci a e') (finP a e') (finP a e') [0,0] i (S.map (·.l)) [(u:Int),(v:Int)] 0 (S.map (·.l)) [] (finP a e' [(u:Int),(v:Int)]) (hs.map (·.d))):=HP.out.enter (by rw[List.getElem?_map,hx];exact congrArg some hxl);have HW:=Lib.hid (HS.out.keep (HR.out.bel.mono hB) (Nat.le_refl _));have HW':=Lib.hid (HS'.out.keep (HR.out.bel.mono hB) (Nat.le_refl _));obtain⟨X,hX⟩:∃X,H[u]? =some X:=⟨H[u]'(by omega),List.getElem?_eq_getElem _⟩;obtain⟨Y,hY⟩:∃X,H'[v]? =some X:=⟨H'[v]'(by omega),List.getElem?_eq_getElem _⟩;have HXA:Hid (zd4 a (u:Int)=X.d.2):=by
     show((a[(u:Int).toNat]?).map (·.2)).getD []=_;rw[Int.toNat_natCast,←HA.out,List.getElem?_map,hX];rfl
    have HYA:Hid (zd4 e' (v:Int)=Y.d.2):=by
     show((e'[(v:Int).toNat]?).map (·.2)).getD []=_;rw[Int.toNat_natCast,←HE.out,List.getElem?_map,hY];rfl
    have HXM:=Lib.hid (List.mem_of_getElem? hX);have HYM:=Lib.hid (List.mem_of_getElem? hY);have HAX:Hid (Asc X.d.2 256):=HG.out.asc X.d (by rw[←HA.out];exact List.mem_map_of_mem HXM.out);have HAY:Hid (Asc Y.d.2 256):=HG'.out.asc Y.d (by rw[←HE.out];exact List.mem_map_of_mem HYM.out);obtain⟨ab2,ao2,hae,_,hac⟩:=HW.out.at_ hnp;obtain⟨rfl,rfl⟩:ab=ab2∧ao=ao2:=by simp at hae;exact hae
    have x2:=(hac u X hX).2;obtain⟨m,hm⟩:∃m,X.d.2.length=m:=⟨_,rfl⟩;obtain⟨m',hm'⟩:∃m,Y.d.2.length=m:=⟨_,rfl⟩;rw[hm]at x2;have HM:=Lib.hid hm;have HM':=Lib.hid hm';have HX:=Lib.hid hx;have HXL:=Lib.hid hxl;have hY':=Lib.hid hY;have i1:(0:Int)≤(i:Int):=by omega
    have i2:(i:Int)<(ns:Int):=by omega
    have i3:(0:Int)≤(u:Int):=by omega
    have i4:(u:Int)<(n:Int):=by omega
    have haw:ab<wr.heap.size:=by have:=HR.out.bel.size;omega
    have hmm:m≤140737488355328:=by rw[←hm];exact(HS.out.ar X HXM.out).2.2
    clear hmo hx hxl hX hY hm hm' hac hae hxo hxA hxce;go_wp2_with fail;go_region_held3 (fun w'=>w'.cell? ⟨p,2,none⟩=some (.slice (some ⟨tg,0,none⟩) ns ct)∧w'.cell? ⟨tg,i,none⟩=some (.slice (some ⟨xg,0,none⟩) 2 xc)∧w'.cell? ⟨xg,0,none⟩=some (.int .i64 (u:Int))∧w'.cell? ⟨xg,1,none⟩=some (.int .i64 (v:Int)))
     (first
      |assumption
      |exact⟨m2,t0,x0,x1⟩)
     (first
      |(go_at_call 99999))
    have HB0:Hid (BoG a e' n n' w wr p kb i u v X.d.2 Y.d.2 0 0 0 ns cs ct As (some ⟨tg,0,none⟩) N [] 0 0 none hs S (S.map (·.l))):=⟨PosP.start HAX.out,HR.out,HMD.out,HIN.out.1,fun k h1 h2=>HIN.out.2 k (by omega) h2,by
     obtain⟨s,h1,h2⟩:=HIN.out.2 i (Nat.le_refl _) hlt;rw[HX.out]at h1;injection h1 with h1
     rw[←h1,HXL.out]at h2;exact h2,rfl,fun x hx=>absurd hx List.not_mem_nil,by omega,by omega,hlt⟩
    obtain⟨M0,hM0⟩:∃M,S.map (·.l)=M:=⟨_,rfl⟩;have HM0:=Lib.hid hM0;rw[hM0]at HB0;have HBW:Hid (p+1≤wr.heap.size):=hpl;have HI9:Hid ((i:Int)+1≤most∧i<20000):=⟨by have:=HMO.out;omega,by omega⟩;clear hM0 HMD t0 x0 x1 m0 m1 m2 htl hxw;go_wp2_with fail;go_loopw [12,83] (fun av kv wj=>∃(k ns cs ct na ca b:Nat) (As At Aa:Option Addr) (N:DataW Unit) (hs:List Sh) (S:List Rw) (arcs:List Arc3),kv=.int .i64 k∧av=.slice Aa na ca∧k≤m∧Hid (BoG a e' n n' w wj p kb i u v X.d.2 Y.d.2 k 0 b ns cs ct As At N arcs na ca Aa hs S M0)) (fun _ kv _=>m-(intOf kv).toNat)
    case atStart=>exact⟨0,ns,cs,ct,0,0,0,As,_,none,N,hs,S,[],rfl,rfl,Nat.zero_le _,HB0.out.keep (by repeat(first|exact za0 _|refine Below.drew ?_))⟩
    case round=>
     clear HB0 HR x2 haw hin hns HIN HX HXL hns2 hct hxc hpl htb hxb HW HW' i2 hlt;obtain⟨k,ns,cs,ct,na,ca,b,As,At,Aa,N,hs,S,arcs,rfl,rfl,hkm,HB0⟩:=hrel;by_cases hk:k<m
     ·
      obtain⟨pb0,po0,hXA,hpb0,hpc⟩:=(HS.out.keep (HB0.out.ti.bel.mono hB) (Nat.le_refl _)).arc HXM.out (by rw[HM.out];omega);obtain⟨⟨lo,hi,tt⟩,hx⟩:∃x,X.d.2[k]? =some x:=⟨X.d.2[k]'(by rw[HM.out];exact hk),List.getElem?_eq_getElem _⟩;obtain⟨p0,p1,p2⟩:=hpc k _ hx;simp only at p0 p1 p2;have hbs:=HB0.out.ti.bel.size;have hpw0:pb0<wr.heap.size:=by omega
      obtain⟨eb2,eo2,hee,_,hec⟩:=(HS'.out.keep (HB0.out.ti.bel.mono hB) (Nat.le_refl _)).at_ hnp';obtain⟨rfl,rfl⟩:eb=eb2∧eo=eo2:=by simp at hee;exact hee
      have y2:=(hec v Y hY'.out).2;rw[HM'.out]at y2;have hew:eb<wr.heap.size:=by omega
      have hmm':m'≤140737488355328:=by rw[←HM'.out];exact(HS'.out.ar Y HYM.out).2.2
      have hkc:m≤X.c:=by rw[←HM.out];exact(HS.out.ar X HXM.out).2.1
      have i7:(0:Int)≤(v:Int):=by omega
      have i8:(v:Int)<(n':Int):=by omega
      have HPX:=Lib.hid hx;rw[hXA];clear hpc hx hec hee;have hpb1:(wr.alloc (.cells #[.int .i64 lo,.int .i64 hi,.int .i64 tt] 76)).heap[wr.heap.size]? =some (.cells #[.int .i64 lo,.int .i64 hi,.int .i64 tt] 76 (0,0)):=heap_alloc_new wr _;have hpb2:(Value.slice Aa na ca).ownBlock≠some wr.heap.size:=fun h=>by
       have h1:=((HB0.out.ti.mr.g.arcs.own _ (List.mem_cons_self ..)).lt _ h).2;omega
      have HB1:=Lib.hid (HB0.out.keep (bnew (za0 wr) (.cells #[.int .i64 lo,.int .i64 hi,.int .i64 tt] 76)));have HPB:=Lib.hid (And.intro hpb1 hpb2);go_wp2_with fail;obtain⟨pb,hpbe⟩:∃x,wr.heap.size=x:=⟨_,rfl⟩;rw[hpbe]at HPB⊢;have hpbs:w.heap.size≤pb:=by omega
      clear hpb1 hpb2 HB0 p0 p1 p2 hpw0 y2 hew hpbe;generalize wr.alloc (.cells #[.int .i64 lo,.int .i64 hi,.int .i64 tt] 76)=W1 at*;refine zKi (w:=w) (W1:=W1) (B:=B) hB ab ao n c H HS eb eo n' c' H' HS' hab heb a e' HA HE HG HG' hln hln' HAL HEL HT hnp hnp' hnm hnm' p kb i u v X Y HXA HYA HXM HYM HAX HAY m' HM' hmm' k lo hi tt HPX pb hpbs ns cs ct na ca b As At Aa N hs S arcs M0 HB1 HPB _ _ _ _ _ _ _ _ _ _ _ _ _ _ _ _ _ _ _ _ _ _ _ _ _ _ _ _ _ _ _ _ _ _ _ _ _ _ _ _ _ _ _ _ _ _ _ _ _ _ _ _ _ _ _ _ _ _ _ _ _ _ _ _ _ _ _ _ _ _ _ _ _ _ _ _ _ _ _ _ _ _ _ _ _ _ _ _ _ _ _ _ _ _ _ _ _ _ _ _ _ _ _ _ _ _ _ _ _ _ _ _ _ _ _ _ _ _ _ _ _ _ _ _ _ _ _ _ _ _ _ _ _ _ _ _ _ _ _ _ _ _ _ _ (fun c a a' w hd h=>hQ0 c a a' w hd h) ?_;clear HB1 HPB hbs hpb0;intro ns cs ct na ca b As At Aa N hs S arcs W u16 u17 u18 u94 u95 u96 u97 u98 u99 u100 u101 u102 u103 u104 u105 u106 u107 u108 u109 u110 u111 u112 u113 u114 u115 u116 u117 u118 u119 u120 u121 u122 u123 u124 u125 u126 u127 u128 u129 u130 u131 u132 u133 u134 u135 u136 HB1
      have HBN:=Lib.hid (HB1.out.next (by rw[HM'.out];exact Nat.le_refl _));clear HB1;go_wp2_with fail;go_roundw;case rel=>exact⟨k+1,ns,cs,ct,na,ca,b,As,At,Aa,N,hs,S,arcs,by go_num,rfl,by omega,HBN⟩
      case measure=>simp[intOf];omega
     ·
      obtain rfl:k=m:=by omega
      have hin2:=HB0.out.ins;have hns3:ns≤20256:=by have h1:=HB0.out.few;have h2:=HB0.out.pos.le;omega
      obtain⟨m0,m1,m2⟩:=HB0.out.ti.mr.g.cells;have hpl:=HB0.out.ti.mr.g.lt;obtain⟨sg2,rfl,hsgb2,hsgl2⟩:=zah HB0.out.ti.mr.g.st (by omega);have hcs2:ns≤cs:=by
       obtain⟨A1,c1,e1,h1⟩:=za1 HB0.out.ti.mr.g.st;injection e1 with _ _ e1
       omega
      have hsz:=zo6 (j:=1) (u:=.slice none 0 0) HB0.out.ti.mr.g.st HB0.out.at_ rfl (by omega);have HNL:Hid (arcs.length=na):=HB0.out.len;have HPL:Hid (GFam wr w.heap.size 76 3 (GRow.nil::(hs.set i ⟨(finP a e' [(u:Int),(v:Int)],arcs),Aa,ca⟩).map Sh.row)):=by
       have h1:=HB0.out.ti.mr.g.arcs.place (i:=i) (by rw[List.getElem?_map,HB0.out.at_];rfl);have h2:(hs.set i (⟨(finP a e' [(u:Int),(v:Int)],arcs),Aa,ca⟩:Sh)).map Sh.row=(hs.map Sh.row).set i ⟨.slice Aa na ca,na,zaa arcs⟩:=by
        rw[List.map_set];congr 1
        unfold Sh.row;simp only[HNL.out]
       show GFam _ _ _ _ _;rw[h2];exact h1
      have HSE:=Lib.hid (HB0.out.ti.setS (j:=1) (v:=.slice Aa na ca) HT.out rfl HB0.out.at_ (by omega) (y:=⟨(finP a e' [(u:Int),(v:Int)],arcs),Aa,ca⟩) (by unfold Sh.hdr;simp only[HNL.out];rfl) HPL.out);have hfz:=HSE.out.2.1;have hsl2:=HSE.out.2.2;have HRN:Hid (TiG w (wr.setCell ⟨sg2,i*2+1,none⟩ (.slice Aa na ca)) p (some ⟨sg2,0,none⟩) ns cs At ct kb N GRow.nil (hs.set i ⟨(finP a e' [(u:Int),(v:Int)],arcs),Aa,ca⟩) S [] GRow.nil):=HSE.out.1;have HMN:Hid (MadeP (zci a e') (finP a e') (finP a e') [0,0] (i+1) (S.map (·.l)) ((hs.set i ⟨(finP a e' [(u:Int),(v:Int)],arcs),Aa,ca⟩).map (·.d))):=by
       have h1:=HB0.out;rw[←HXA.out,←HYA.out]at h1;have h2:=h1.last (by rw[HXA.out,HM.out];exact Nat.le_refl _);rw[List.map_set];exact h2.leave (zd0 a e') (by rw[←HM0.out];exact HP.out)
      have HIN':Hid ((∀s∈S,zla n n' s.l)∧∀k,i+1≤k→k<ns→∃s,S[k]? =some s∧(hs.set i ⟨(finP a e' [(u:Int),(v:Int)],arcs),Aa,ca⟩)[k]? =some ⟨(finP a e' s.l,[]),none,0⟩):=⟨HB0.out.prs,fun k' h1 h2=>by
       rw[List.getElem?_set,if_neg (by omega)];exact HB0.out.tail k' h1 h2⟩
      have i5:(0:Int)≤(i:Int):=by omega
      have i6:(i:Int)<(ns:Int):=by omega
      clear HB0 HSE HPL;go_wp2_with fail;go_roundw;case rel=>exact⟨i+1,ns,cs,ct,_,At,N,_,S,by go_num,by omega,by omega,.inr (by have:=HI9.out.1;omega),HRN,HMN,HIN'⟩
      case measure=>have:=HI9.out.2;simp[intOf];omega
  ·obtain rfl:ns=i:=by omega
   clear HIN;go_wp2_with fail;exact hexit _ _ _ _ _ _ _ _ _ _ _ _ _ _ _ _ _ _ _ _ _ _ _ _ _ _ _ _ _ _ _ _ _ _ _ _ _ _ _ _ _ _ _ _ _ _ _ _ _ _ _ _ _ _ _ _ _ _ _ _ _ _ _ _ _ _ _ _ _ _ _ _ _ _ _ _ _ _ _ _ _ _ _ _ _ _ _ _ _ _ _ _ _ _ _ _ _ _ _ _ _ _ _ _ _ _ _ _ _ _ _ _ _ _ _ _ _ _ _ _ _ hns HI0 HR HP
end
section
open Go.RowKit Go.Maps
theorem both_any(w:World)(B:Nat)(hB:B≤w.heap.size)(A:Option Addr)(n c:Nat)(H:List Sh)(h:StsIn w B A n c H)(A':Option Addr)(n' c':Nat)(H':List Sh)(h':StsIn w B A' n' c' H')(hg:Good (H.map (·.d)))(hg':Good (H'.map (·.d)))(hfew:n*n'≤20000)(most:Int)(ht:Tab w):
  Calls Tryz.prog 17 #[.slice A n c,.slice A' n' c',.int .i64 most] w fun e w'=>
   ((∃f,most<(((zci (H.map (·.d)) (H'.map (·.d))).run f 0 [[0,0]]).length:Nat))∧e=.returned (.tuple #[.slice none 0 0,.int .i64 8])∧Below w.heap.size w w')∨
   ((∀f,(((zci (H.map (·.d)) (H'.map (·.d))).run f 0 [[0,0]]).length:Nat)≤most)∧∃v hs d,e=.returned (.tuple #[v,.int .i64 0])∧OwnSts w' w.heap.size v hs∧zcg (auOf d) 0 (hs.map (·.d))∧Leq (auOf d) 0 ⟨finP (H.map (·.d)) (H'.map (·.d)),zt5 (H.map (·.d)) (H'.map (·.d))⟩ [0,0]∧hs.length≤d.length∧d.length≤20000∧Below w.heap.size w w'):=by
 have HS:=Lib.hid h;have HS':=Lib.hid h';have HC0:Hid (zb2 (H.map (·.d))=0):=(ze1 _).2 hg;have HC0':Hid (zb2 (H'.map (·.d))=0):=(ze1 _).2 hg';have hmk:= @run_makeMap Tryz.prog;obtain⟨a,ha⟩:∃l,H.map (·.d)=l:=⟨_,rfl⟩;obtain⟨e',he'⟩:∃l,H'.map (·.d)=l:=⟨_,rfl⟩;have HA:=Lib.hid ha;have HE:=Lib.hid he';rw[ha]at hg HC0;rw[he']at hg' HC0';rw[ha,he'];have HG:=Lib.hid hg;have HG':=Lib.hid hg';have hln:H.length=n:=h.len;have hln':H'.length=n':=h'.len;have hal:a.length=n:=by rw[←ha,List.length_map];exact h.len
 have hel:e'.length=n':=by rw[←he',List.length_map];exact h'.len
 have HFEW:Hid (∀f,((zci a e').run f 0 [[0,0]]).length≤20000):=fun f=>Nat.le_trans (z09 hg hg' f) (by rw[hal,hel];exact hfew)
 have hnp:0<n:=by rw[←hal];exact List.length_pos_iff.2 hg.ne
 have hnp':0<n':=by rw[←hel];exact List.length_pos_iff.2 hg'.ne
 have hnm:n≤20000:=by rw[←hal];exact hg.few
 have hnm':n'≤20000:=by rw[←hel];exact hg'.few
 have HT:=Lib.hid ht;have HAL:=Lib.hid hal;have HEL:=Lib.hid hel;clear h h' hg hg' ht ha he' hal hel hfew;go_enter Tryz.func17,Tryz.ntmps17
 go_wp2_with fail;refine(ze9 w B hB A n c H HS.out).mono ?_;rintro e w1 ⟨rfl,hb1⟩;rw[HA.out,HC0.out];have HB1:=Lib.hid hb1;have HS1:=Lib.hid (HS'.out.keep (hb1.mono hB) (Nat.le_refl _));clear hb1;go_wp2_with fail;refine(ze9 w1 B (Nat.le_trans hB HB1.out.size) A' n' c' H' HS1.out).mono ?_;rintro e w2 ⟨rfl,hb2⟩;rw[HE.out,HC0'.out];have HB2:=Lib.hid (za9 HB1.out hb2);have HMS:=Lib.hid (MkG.start HB2.out rfl rfl);clear hb2 HS1 HB1;go_wp2_with fail;have HB3:=Lib.hid (bnew (bnew HB2.out (.map #[] 0)) (.cells #[.slice none 0 0,.map (some w2.heap.size),.slice none 0 0,.int .i64 0] 69));have hsz2:((w2.alloc (.map #[] 0)).alloc (.cells #[.slice none 0 0,.map (some w2.heap.size),.slice none 0 0,.int .i64 0] 69)).heap.size=w2.heap.size+1+1:=by simp
 obtain⟨p,hp⟩:∃p,w2.heap.size+1=p:=⟨_,rfl⟩;obtain⟨kb,hkb⟩:∃p,w2.heap.size=p:=⟨_,rfl⟩;rw[hkb]at HMS HB3 hsz2 hp;rw[hp]at HMS hsz2;rw[hkb,hp];have hpw:w.heap.size≤p:=by have:=HB2.out.size;omega
 generalize(w2.alloc (.map #[] 0)).alloc (.cells #[.slice none 0 0,.map (some kb),.slice none 0 0,.int .i64 0] 69)=W2 at*;have HB4:=Lib.hid (bnew HB3.out (.cells #[.int .i64 0,.int .i64 0] 3));have hO4:(W2.alloc (.cells #[.int .i64 0,.int .i64 0] 3)).ownsRow (p+1) 3 1 (.slice (some ⟨p+1,0,none⟩) 2 2) 2 (([0,0]:List Int).map (.int .i64)):=zg1 W2 #[.int .i64 0,.int .i64 0] 3 1 2 rfl (by unfold maxLen;omega) hsz2.symm (by omega);have HM4:=Lib.hid (HMS.out.keep (bnew (za0 W2) (.cells #[.int .i64 0,.int .i64 0] 3)));have hF4:Fam (W2.alloc (.cells #[.int .i64 0,.int .i64 0] 3)) w.heap.size ([]++[⟨some ⟨p+1,0,none⟩,2,[0,0]⟩]):=⟨fun x hx=>by
  rw[List.mem_singleton.1 hx];exact own_lower hO4 (by omega),List.pairwise_singleton _ _⟩
 have HF4:=Lib.hid hF4;have hbs4:=HB4.out.size;clear hO4 hF4 hsz2 hmk HB3 HMS hp hkb;generalize W2.alloc (.cells #[.int .i64 0,.int .i64 0] 3)=W4 at*;have HT4:=Lib.hid (HT.out.below HB4.out);obtain⟨ab,ao,rfl,hab,hac⟩:=(HS.out.keep (HB4.out.mono hB) (Nat.le_refl _)).at_ hnp;obtain⟨eb,eo,rfl,heb,hec⟩:=(HS'.out.keep (HB4.out.mono hB) (Nat.le_refl _)).at_ hnp';obtain⟨X0,hX0⟩:∃X,H[0]? =some X:=⟨H[0]'(by omega),List.getElem?_eq_getElem _⟩;obtain⟨Y0,hY0⟩:∃X,H'[0]? =some X:=⟨H'[0]'(by omega),List.getElem?_eq_getElem _⟩;have a0:=(hac 0 X0 hX0).1;have e0:=(hec 0 Y0 hY0).1;rw[Nat.zero_mul,Nat.add_zero]at a0 e0;obtain⟨fa,hfa⟩:∃f,X0.d.1=f:=⟨_,rfl⟩;obtain⟨fe,hfe⟩:∃f,Y0.d.1=f:=⟨_,rfl⟩;rw[hfa]at a0;rw[hfe]at e0;have HF0:Hid (finP a e' [0,0]=(fa&&fe)):=by
  show(finD a 0&&finD e' 0)=_;unfold finD;rw[←HA.out,←HE.out];show(((H.map (·.d))[0]?.map (·.1)).getD false&&((H'.map (·.d))[0]?.map (·.1)).getD false)=_;rw[List.getElem?_map,List.getElem?_map,hX0,hY0];show(X0.d.1&&Y0.d.1)=_;rw[hfa,hfe]
 have haw:ab<W4.heap.size:=by omega
 have hew:eb<W4.heap.size:=by omega
 have HST:=Lib.hid (zjk W4 w.heap.size p none 0 0 none 0 kb (.map []) GRow.nil [] [] HM4.out (by omega) HT4.out HT.out.lt ⟨some ⟨p+1,0,none⟩,2,[0,0]⟩ 2 rfl HF4.out (by omega) (fun x hx=>by simp at hx;omega));clear HB2 hac hec hX0 hY0 hfa hfe HM4;cases fa
 all_goals
  go_wp2_with fail;refine(HST.out _).mono ?_;rintro e w5 ⟨i0,rfl,hk5,ht5,hcase⟩;have hcase2:i0=0∧∃As' cs' At' ct' N',MkR w5 w.heap.size p As' (0+1) cs' At' ct' kb N' GRow.nil ([]++[⟨(finP a e' [0,0],[]),none,0⟩]) ([]++[⟨some ⟨p+1,0,none⟩,2,[0,0]⟩]):=by
   rw[HF0.out];rcases hcase with⟨h1,_⟩|⟨_,h2,h3⟩
   ·cases h1
   ·exact⟨h2,h3⟩
  obtain⟨rfl,As,cs,At,ct,N,hmk5⟩:=hcase2;have hFS:Fam w5 w.heap.size ([]++([]++[⟨some ⟨p+1,0,none⟩,2,[0,0]⟩])):=hmk5.g.fam;have HTI:Hid (TiG w w5 p As 1 cs At ct kb N GRow.nil [⟨(finP a e' [0,0],[]),none,0⟩] [⟨some ⟨p+1,0,none⟩,2,[0,0]⟩] [] GRow.nil):=⟨HB4.out.trans hk5.bel,hmk5,ht5,hFS,GRow.own_nil _ _ _ _⟩;have HMP:Hid (MadeP (zci a e') (finP a e') (finP a e') [0,0] 0 [[0,0]] [(finP a e' [0,0],[])]):=MadeP.start _ _ _ _;have HIN:Hid (∀s∈([⟨some ⟨p+1,0,none⟩,2,[0,0]⟩]:List Rw),zla n n' s.l):=fun s hs=>by
   rw[List.mem_singleton.1 hs];exact⟨0,0,hnp,hnp',rfl⟩
  have HSH:Hid (∀k,0≤k→k<1→∃s,([⟨some ⟨p+1,0,none⟩,2,[0,0]⟩]:List Rw)[k]? =some s∧([⟨(finP a e' [0,0],[]),none,0⟩]:List Sh)[k]? =some ⟨(finP a e' s.l,[]),none,0⟩):=fun k _ hk=>by
   obtain rfl:k=0:=by omega
   exact⟨_,rfl,rfl⟩
  clear hcase hmk5 hk5 ht5 HST hFS HT4 HB4 HF4 a0 e0 haw hew HF0 HC0 HC0' hbs4;go_wp2_with fail;refine zKj (w:=w) (W0:=w5) (B:=B) hB ab ao n c H HS eb eo n' c' H' HS' hab heb a e' HA HE HG HG' hln hln' HAL HEL HT hnp hnp' hnm hnm' most HFEW p kb 1 cs ct As At N _ _ (by omega) HTI HMP ⟨HIN.out,HSH.out⟩ _ _ _ _ _ _ _ _ _ _ _ _ _ _ _ _ _ _ _ _ _ _ _ _ _ _ _ _ _ _ _ _ _ _ _ _ _ _ _ _ _ _ _ _ _ _ _ _ _ _ _ _ _ _ _ _ _ _ _ _ _ _ _ _ _ _ _ _ _ _ _ _ _ _ _ _ _ _ _ _ _ _ _ _ _ _ _ _ _ _ _ _ _ _ _ _ _ _ _ _ _ _ _ _ _ _ _ _ _ _ _ _ _ _ _ _ _ _ _ _ _ _ _ _ _ _ _ _ _ _ _ _ _ _ _ _ _ _ _ _ _ _ _ _ _ _ _ (fun c a a' w hd h=>by cases a;cases a';cases hd;exact h) ?_ ?_
  ·intro W x9 u10 u11 u12 u14 u16 u17 u18 u43 u44 u45 u46 u47 u48 u49 u50 u51 u52 u53 u54 u55 u56 u57 u58 u59 u60 u61 u62 u63 u64 u65 u66 u67 u68 u69 u70 u71 u72 u73 u74 u75 u76 u77 u78 u79 u80 u81 u82 u83 u84 u85 u86 u87 u88 u89 u90 u91 u92 u93 u94 u95 u96 u97 u98 u99 u100 u101 u102 u103 u104 u105 u106 u107 u108 u109 u110 u111 u112 u113 u114 u115 u116 u117 u118 u119 u120 u121 u122 u123 u124 u125 u126 u127 u128 u129 u130 u131 u132 u133 u134 u135 u136 u137 u138 u139 u140 u141 u142 u143 u144 u145 HLN HB
   clear HTI HMP HIN HSH;go_wp2_with fail;go_ret2;exact .inl ⟨HLN.out,rfl,HB.out⟩
  ·intro ns cs ct As At N hs S wr u6 u7 u10 u11 u12 u14 u16 u17 u18 u43 u44 u45 u46 u47 u48 u49 u50 u51 u52 u53 u54 u55 u56 u57 u58 u59 u60 u61 u62 u63 u64 u65 u66 u67 u68 u69 u70 u71 u72 u73 u74 u75 u76 u77 u78 u79 u80 u81 u82 u83 u84 u85 u86 u87 u88 u89 u90 u91 u92 u93 u94 u95 u96 u97 u98 u99 u100 u101 u102 u103 u104 u105 u106 u107 u108 u109 u110 u111 u112 u113 u114 u115 u116 u117 u118 u119 u120 u121 u122 u123 u124 u125 u126 u127 u128 u129 u130 u131 u132 u133 u134 u135 u136 u137 u138 u139 u140 u141 u142 u143 u144 u145 hns HI0 HR HP
   clear HTI HMP HIN HSH;obtain⟨m0,m1,m2⟩:=HR.out.mr.g.cells;have hpl:=HR.out.mr.g.lt;clear m1 m2;have hml:(S.map (·.l)).length=ns:=by rw[List.length_map];exact HR.out.mr.sl
   have hns1:1≤ns:=by
    have h1:=zeb (zci a e') [0,0] ns;rw[←HP.out.run]at h1;have:=(List.getElem?_eq_some_iff.1 h1).1;omega
   have hnm2:(ns:Int)≤most:=by
    rcases HI0.out with h1|h1
    ·omega
    ·exact h1
   have hns4:ns≤20000:=by
    have h1:=HFEW.out ns;rw[←HP.out.run,hml]at h1;exact h1
   have HGD:=Lib.hid (HP.out.good (zd0 a e') hml.symm (by omega));have HLQ:=Lib.hid (HP.out.leq (zd0 a e') hml.symm);have HFF:Hid (∀f,(((zci a e').run f 0 [[0,0]]).length:Nat)≤most):=fun f=>by
    have h1:=(HP.out.last (zd0 a e') hml.symm).2.2 f;omega
   have HOS:Hid (OwnSts wr w.heap.size (.slice As ns cs) hs):=⟨by rw[HR.out.mr.hl];exact HR.out.mr.g.st,HR.out.mr.g.arcs.tail⟩;have HSI:=Lib.hid (HOS.out.sts HR.out.mr.hl (by omega) (fun x hx=>by
    have h1:=HGD.out.asc x.d (List.mem_map_of_mem hx);have:=asc_few h1;omega))
   have HTW:=Lib.hid HR.out.tab;have HBW:=Lib.hid HR.out.bel;have HDN:Hid ((hs.map (·.d)).length=ns):=by show _=_;rw[List.length_map];exact HR.out.mr.hl
   clear hml HI0 HP HR;go_wp2_with fail;refine(zs3 wr wr.heap.size (Nat.le_refl _) As ns cs hs HSI.out (by omega) HGD.out HTW.out).mono ?_;rintro e w9 ⟨v9,hs9,rfl,hown9,hl9,hle9,hb9⟩;have HO9:=Lib.hid hown9;have HL9:=Lib.hid hl9;have HB9:=Lib.hid hb9;clear hown9 hl9 hb9;go_wp2_with fail;go_ret2;exact .inr ⟨HFF.out,v9,hs9,hs.map (·.d),rfl,⟨own_lower HO9.out.out HBW.out.size,fun z hz=>own_lower (HO9.out.fam.own z hz) HBW.out.size,HO9.out.fam.ap⟩,HL9.out,HLQ.out,by rw[HDN.out];exact hle9,by rw[HDN.out];omega,za9 HBW.out HB9.out⟩
end
end Go.Proofs.YtaociahafamncaaGreatDoor
