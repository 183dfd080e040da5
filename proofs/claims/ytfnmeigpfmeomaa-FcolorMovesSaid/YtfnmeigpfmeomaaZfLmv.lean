/- moves.Apply. -/
import Derived.Test.YtfnmeigpfmeomaaZfFnn
import Derived.Test.YtfnmeigpfmeomaaZfInr
import Derived.Test.YtfnmeigpfmeomaaZfUpk
import Derived.Test.YtfnmeigpfmeomaaZfUnk
import Derived.Test.YtfnmeigpfmeomaaZfSvy
import Derived.Test.YtfnmeigpfmeomaaZfKjn
namespace Go.Proofs.Ytfnmeigpfmeomaa
open Go.RowKit
set_option linter.unusedVariables false
theorem ap_stored {w W:World} {dd mm:List Value} {g7 g8:Nat} {x0 x1 x2 y0 y1 y2 y3 y4 v1 v2:Value} {S M:List Int} (bx:Bx4 w W dd mm) (a7:Arr W g7 24 [x0,x1,x2]) (a8:Arr W g8 26 [y0,y1,y2,y3,y4]) (hne:g7≠g8) (h7:w.heap.size+4<=g7) (h8:w.heap.size+4<=g8) (o1:OwnI 3 0 W v1 S) (o2:OwnI 3 0 W v2 M) (L2 a b c d:Int) (o:Bool) :
 Bx4 w ((((((((W.setCell ⟨g7,0,none⟩ v1).setCell ⟨g7,1,none⟩ v2).setCell ⟨g7,2,none⟩ (.int .i64 L2)).setCell ⟨g8,0,none⟩ (.int .i64 a)).setCell ⟨g8,1,none⟩ (.int .i64 b)).setCell ⟨g8,2,none⟩ (.int .i64 c)).setCell ⟨g8,3,none⟩ (.int .i64 d)).setCell ⟨g8,4,none⟩ (.bool o)) dd mm/\Arr ((((((((W.setCell ⟨g7,0,none⟩ v1).setCell ⟨g7,1,none⟩ v2).setCell ⟨g7,2,none⟩ (.int .i64 L2)).setCell ⟨g8,0,none⟩ (.int .i64 a)).setCell ⟨g8,1,none⟩ (.int .i64 b)).setCell ⟨g8,2,none⟩ (.int .i64 c)).setCell ⟨g8,3,none⟩ (.int .i64 d)).setCell ⟨g8,4,none⟩ (.bool o)) g7 24 [v1,v2,.int .i64 L2]/\Arr ((((((((W.setCell ⟨g7,0,none⟩ v1).setCell ⟨g7,1,none⟩ v2).setCell ⟨g7,2,none⟩ (.int .i64 L2)).setCell ⟨g8,0,none⟩ (.int .i64 a)).setCell ⟨g8,1,none⟩ (.int .i64 b)).setCell ⟨g8,2,none⟩ (.int .i64 c)).setCell ⟨g8,3,none⟩ (.int .i64 d)).setCell ⟨g8,4,none⟩ (.bool o)) g8 26 [.int .i64 a,.int .i64 b,.int .i64 c,.int .i64 d,.bool o]/\OwnI 3 0 ((((((((W.setCell ⟨g7,0,none⟩ v1).setCell ⟨g7,1,none⟩ v2).setCell ⟨g7,2,none⟩ (.int .i64 L2)).setCell ⟨g8,0,none⟩ (.int .i64 a)).setCell ⟨g8,1,none⟩ (.int .i64 b)).setCell ⟨g8,2,none⟩ (.int .i64 c)).setCell ⟨g8,3,none⟩ (.int .i64 d)).setCell ⟨g8,4,none⟩ (.bool o)) v1 S/\OwnI 3 0 ((((((((W.setCell ⟨g7,0,none⟩ v1).setCell ⟨g7,1,none⟩ v2).setCell ⟨g7,2,none⟩ (.int .i64 L2)).setCell ⟨g8,0,none⟩ (.int .i64 a)).setCell ⟨g8,1,none⟩ (.int .i64 b)).setCell ⟨g8,2,none⟩ (.int .i64 c)).setCell ⟨g8,3,none⟩ (.int .i64 d)).setCell ⟨g8,4,none⟩ (.bool o)) v2 M:=by
 have n17:=o1.apart a7 (by decide)
 have n18:=o1.apart a8 (by decide)
 have n27:=o2.apart a7 (by decide)
 have n28:=o2.apart a8 (by decide)
 have st:=Arr.stored a7 a8 hne v1 v2 (.int .i64 L2) (.int .i64 a) (.int .i64 b) (.int .i64 c) (.int .i64 d) (.bool o)
 exact ⟨((((((((bx.set h7).set h7).set h7).set h8).set h8).set h8).set h8).set h8),st.1,st.2,((((((((o1.far n17 _).far n17 _).far n17 _).far n18 _).far n18 _).far n18 _).far n18 _).far n18 _),((((((((o2.far n27 _).far n27 _).far n27 _).far n28 _).far n28 _).far n28 _).far n28 _).far n28 _)⟩
theorem ap_last {w W:World} {dd mm:List Value} {v1 v2:Value} {S M:List Int} (bx:Bx4 w W dd mm) (o1:OwnI 3 0 W v1 S) (o2:OwnI 3 0 W v2 M) (L2 a b c d:Int) (o:Bool) :
 OwnI 3 0 ((((((((W.setCell ⟨w.heap.size+2,0,none⟩ v1).setCell ⟨w.heap.size+2,1,none⟩ v2).setCell ⟨w.heap.size+2,2,none⟩ (.int .i64 L2)).setCell ⟨w.heap.size+3,0,none⟩ (.int .i64 a)).setCell ⟨w.heap.size+3,1,none⟩ (.int .i64 b)).setCell ⟨w.heap.size+3,2,none⟩ (.int .i64 c)).setCell ⟨w.heap.size+3,3,none⟩ (.int .i64 d)).setCell ⟨w.heap.size+3,4,none⟩ (.bool o)) v1 S/\OwnI 3 0 ((((((((W.setCell ⟨w.heap.size+2,0,none⟩ v1).setCell ⟨w.heap.size+2,1,none⟩ v2).setCell ⟨w.heap.size+2,2,none⟩ (.int .i64 L2)).setCell ⟨w.heap.size+3,0,none⟩ (.int .i64 a)).setCell ⟨w.heap.size+3,1,none⟩ (.int .i64 b)).setCell ⟨w.heap.size+3,2,none⟩ (.int .i64 c)).setCell ⟨w.heap.size+3,3,none⟩ (.int .i64 d)).setCell ⟨w.heap.size+3,4,none⟩ (.bool o)) v2 M:=by
 have n17:=o1.apart bx.2.2.1 (by decide)
 have n18:=o1.apart bx.2.2.2.1 (by decide)
 have n27:=o2.apart bx.2.2.1 (by decide)
 have n28:=o2.apart bx.2.2.2.1 (by decide)
 exact ⟨((((((((o1.far n17 _).far n17 _).far n17 _).far n18 _).far n18 _).far n18 _).far n18 _).far n18 _),((((((((o2.far n27 _).far n27 _).far n27 _).far n28 _).far n28 _).far n28 _).far n28 _).far n28 _)⟩
set_option maxHeartbeats 16000000 in
set_option maxRecDepth 100000 in
theorem apply_any (vs vm:Value) (S M:List Int) (L kd X Y sg:Int) (ov:Bool) (w:World) (hS:Ints w vs S) (hM:Ints w vm M) (hn:S.length<=7) :
 Calls Try.prog 6 #[.agg #[vs,vm,.int .i64 L],.agg #[.int .i64 kd,.int .i64 X,.int .i64 Y,.int .i64 sg,.bool ov]] w fun e w'=>MvE (fun S' M' L'=>MvQ S M L S' M' L') e w'/\Below w.heap.size w w':=by
 have KV:=Lib.hid (fun W (hb:Below w.heap.size w W)=>valid_code vs vm S M L W (hS.below hb) (hM.below hb))
 have KI:=Lib.hid (fun (hk:kd=1\/kd=2\/kd=3\/kd=4\/kd=5) W=>inRange_any S.length kd X Y sg ov W (by omega) hk)
 have GS:=Lib.hid (fun W (hb:Below w.heap.size w W)=>hS.below hb)
 have GM:=Lib.hid (fun W (hb:Below w.heap.size w W)=>hM.below hb)
 have HN:=Lib.hid hn
 obtain ⟨V,hV⟩:∃ V,V=valB S M L:=⟨_,rfl⟩
 rw [<- hV] at KV
 have HV:=Lib.hid hV
 obtain ⟨A0,cs,rfl,hcs,hx1⟩:=hS
 obtain ⟨A2,c2,rfl,hc2,hx2⟩:=hM
 clear hx1 hx2 hcs hc2 hn hV
 go_enter Try.func6,Try.ntmps6
 go_upto_region 1 with fail
 have hW:=Bx4.start ((((w.alloc (.cells #[.slice A0 S.length cs,.slice A2 M.length c2,.int .i64 L] 24)).alloc (.cells #[.int .i64 kd,.int .i64 X,.int .i64 Y,.int .i64 sg,.bool ov] 26)).alloc (.cells #[.slice none 0 0,.slice none 0 0,.int .i64 0] 24)).alloc (.cells #[.int .i64 0,.int .i64 0,.int .i64 0,.int .i64 0,.bool false] 26)) _ _ L kd X Y sg ov w rfl
 generalize ((((w.alloc (.cells #[.slice A0 S.length cs,.slice A2 M.length c2,.int .i64 L] 24)).alloc (.cells #[.int .i64 kd,.int .i64 X,.int .i64 Y,.int .i64 sg,.bool ov] 26)).alloc (.cells #[.slice none 0 0,.slice none 0 0,.int .i64 0] 24)).alloc (.cells #[.int .i64 0,.int .i64 0,.int .i64 0,.int .i64 0,.bool false] 26))=w4 at hW ⊢
 have HW:=Lib.hid hW
 clear hW
 have y0:=HW.out.1.cell 0
 have y1:=HW.out.1.cell 1
 have y2:=HW.out.1.cell 2
 go_upto_if 12 with (go_at_call 11;refine (KV.out _ HW.out.2.2.2.2).mono ?_;rintro e w5 ⟨rfl,hb5⟩)
 have HBX:=Lib.hid (HW.out.below hb5 HW.out.lt)
 clear HW y0 y1 y2 hb5 KV
 cases V
 · clear KI
   have x0:=HBX.out.2.2.1.cell 0
   have x1:=HBX.out.2.2.1.cell 1
   have x2:=HBX.out.2.2.1.cell 2
   have f0:=HBX.out.2.2.1.frozen 0
   have f1:=HBX.out.2.2.1.frozen 1
   have f2:=HBX.out.2.2.1.frozen 2
   have z0:=HBX.out.2.2.2.1.cell 0
   have z1:=HBX.out.2.2.2.1.cell 1
   have z2:=HBX.out.2.2.2.1.cell 2
   have z3:=HBX.out.2.2.2.1.cell 3
   have z4:=HBX.out.2.2.2.1.cell 4
   have g0:=HBX.out.2.2.2.1.frozen 0
   have g1:=HBX.out.2.2.2.1.frozen 1
   have g2:=HBX.out.2.2.2.1.frozen 2
   have g3:=HBX.out.2.2.2.1.frozen 3
   have g4:=HBX.out.2.2.2.1.frozen 4
   have HA:=Lib.hid (Arr.stored HBX.out.2.2.1 HBX.out.2.2.2.1 (by simp) (.slice none 0 0) (.slice none 0 0) (.int .i64 0) (.int .i64 0) (.int .i64 0) (.int .i64 0) (.int .i64 0) (.bool false))
   have HB:=Lib.hid (below_stored HBX.out.2.2.2.2 (r:=w.heap.size+2) (q:=w.heap.size+3) (by simp) (by simp) (.slice none 0 0) (.slice none 0 0) (.int .i64 0) (.int .i64 0) (.int .i64 0) (.int .i64 0) (.int .i64 0) (.bool false))
   go_wp2_with fail
   refine bodyPost_ret (v:=.tuple #[.agg #[.slice none 0 0,.slice none 0 0,.int .i64 0],.agg #[.int .i64 0,.int .i64 0,.int .i64 0,.int .i64 0,.bool false],.int .i64 1]) (results_cct Try.results6 _ _ (w.heap.size+2) (w.heap.size+3) 24 26 _ _ _ _ rfl HA.out.1 rfl HA.out.2 Try.underlying24 rfl info_diag Try.underlying26 rfl info_move) rfl ?_
   exact ⟨MvE.err (by decide),HB.out⟩
 have HV1:=Lib.hid HV.out.symm
 have HOK:=Lib.hid (valB_ok HV.out.symm)
 clear HV
 by_cases hk1:kd<1
 · have m0:=HBX.out.2.1.cell 0
   clear KI
   have x0:=HBX.out.2.2.1.cell 0
   have x1:=HBX.out.2.2.1.cell 1
   have x2:=HBX.out.2.2.1.cell 2
   have f0:=HBX.out.2.2.1.frozen 0
   have f1:=HBX.out.2.2.1.frozen 1
   have f2:=HBX.out.2.2.1.frozen 2
   have z0:=HBX.out.2.2.2.1.cell 0
   have z1:=HBX.out.2.2.2.1.cell 1
   have z2:=HBX.out.2.2.2.1.cell 2
   have z3:=HBX.out.2.2.2.1.cell 3
   have z4:=HBX.out.2.2.2.1.cell 4
   have g0:=HBX.out.2.2.2.1.frozen 0
   have g1:=HBX.out.2.2.2.1.frozen 1
   have g2:=HBX.out.2.2.2.1.frozen 2
   have g3:=HBX.out.2.2.2.1.frozen 3
   have g4:=HBX.out.2.2.2.1.frozen 4
   have HA:=Lib.hid (Arr.stored HBX.out.2.2.1 HBX.out.2.2.2.1 (by simp) (.slice none 0 0) (.slice none 0 0) (.int .i64 0) (.int .i64 0) (.int .i64 0) (.int .i64 0) (.int .i64 0) (.bool false))
   have HB:=Lib.hid (below_stored HBX.out.2.2.2.2 (r:=w.heap.size+2) (q:=w.heap.size+3) (by simp) (by simp) (.slice none 0 0) (.slice none 0 0) (.int .i64 0) (.int .i64 0) (.int .i64 0) (.int .i64 0) (.int .i64 0) (.bool false))
   go_wp2_with fail
   refine bodyPost_ret (v:=.tuple #[.agg #[.slice none 0 0,.slice none 0 0,.int .i64 0],.agg #[.int .i64 0,.int .i64 0,.int .i64 0,.int .i64 0,.bool false],.int .i64 11]) (results_cct Try.results6 _ _ (w.heap.size+2) (w.heap.size+3) 24 26 _ _ _ _ rfl HA.out.1 rfl HA.out.2 Try.underlying24 rfl info_diag Try.underlying26 rfl info_move) rfl ?_
   exact ⟨MvE.err (by decide),HB.out⟩
 by_cases hk5:5<kd
 · have m0:=HBX.out.2.1.cell 0
   clear KI
   have x0:=HBX.out.2.2.1.cell 0
   have x1:=HBX.out.2.2.1.cell 1
   have x2:=HBX.out.2.2.1.cell 2
   have f0:=HBX.out.2.2.1.frozen 0
   have f1:=HBX.out.2.2.1.frozen 1
   have f2:=HBX.out.2.2.1.frozen 2
   have z0:=HBX.out.2.2.2.1.cell 0
   have z1:=HBX.out.2.2.2.1.cell 1
   have z2:=HBX.out.2.2.2.1.cell 2
   have z3:=HBX.out.2.2.2.1.cell 3
   have z4:=HBX.out.2.2.2.1.cell 4
   have g0:=HBX.out.2.2.2.1.frozen 0
   have g1:=HBX.out.2.2.2.1.frozen 1
   have g2:=HBX.out.2.2.2.1.frozen 2
   have g3:=HBX.out.2.2.2.1.frozen 3
   have g4:=HBX.out.2.2.2.1.frozen 4
   have HA:=Lib.hid (Arr.stored HBX.out.2.2.1 HBX.out.2.2.2.1 (by simp) (.slice none 0 0) (.slice none 0 0) (.int .i64 0) (.int .i64 0) (.int .i64 0) (.int .i64 0) (.int .i64 0) (.bool false))
   have HB:=Lib.hid (below_stored HBX.out.2.2.2.2 (r:=w.heap.size+2) (q:=w.heap.size+3) (by simp) (by simp) (.slice none 0 0) (.slice none 0 0) (.int .i64 0) (.int .i64 0) (.int .i64 0) (.int .i64 0) (.int .i64 0) (.bool false))
   go_wp2_with fail
   refine bodyPost_ret (v:=.tuple #[.agg #[.slice none 0 0,.slice none 0 0,.int .i64 0],.agg #[.int .i64 0,.int .i64 0,.int .i64 0,.int .i64 0,.bool false],.int .i64 11]) (results_cct Try.results6 _ _ (w.heap.size+2) (w.heap.size+3) 24 26 _ _ _ _ rfl HA.out.1 rfl HA.out.2 Try.underlying24 rfl info_diag Try.underlying26 rfl info_move) rfl ?_
   exact ⟨MvE.err (by decide),HB.out⟩
 have hkk:kd=1\/kd=2\/kd=3\/kd=4\/kd=5:=by omega
 have m0:=HBX.out.2.1.cell 0
 go_upto_region 5 with fail
 have KI1:=Lib.hid (KI.out hkk)
 have HKK:=Lib.hid hkk
 have y0:=HBX.out.1.cell 0
 have m1:=HBX.out.2.1.cell 1
 have m2:=HBX.out.2.1.cell 2
 have m3:=HBX.out.2.1.cell 3
 have m4:=HBX.out.2.1.cell 4
 clear hk1 hk5 hkk KI
 go_upto_if 30 with (go_at_call 12;refine (KI1.out _).mono ?_;rintro e w6 ⟨⟨bi,rfl,hbi⟩,hb6⟩)
 have HBX6:=Lib.hid (HBX.out.below hb6 HBX.out.lt)
 clear HBX y0 m0 m1 m2 m3 m4 hb6 KI1
 have HBX:=HBX6
 clear HBX6
 cases bi
 · clear hbi
   have x0:=HBX.out.2.2.1.cell 0
   have x1:=HBX.out.2.2.1.cell 1
   have x2:=HBX.out.2.2.1.cell 2
   have f0:=HBX.out.2.2.1.frozen 0
   have f1:=HBX.out.2.2.1.frozen 1
   have f2:=HBX.out.2.2.1.frozen 2
   have z0:=HBX.out.2.2.2.1.cell 0
   have z1:=HBX.out.2.2.2.1.cell 1
   have z2:=HBX.out.2.2.2.1.cell 2
   have z3:=HBX.out.2.2.2.1.cell 3
   have z4:=HBX.out.2.2.2.1.cell 4
   have g0:=HBX.out.2.2.2.1.frozen 0
   have g1:=HBX.out.2.2.2.1.frozen 1
   have g2:=HBX.out.2.2.2.1.frozen 2
   have g3:=HBX.out.2.2.2.1.frozen 3
   have g4:=HBX.out.2.2.2.1.frozen 4
   have HA:=Lib.hid (Arr.stored HBX.out.2.2.1 HBX.out.2.2.2.1 (by simp) (.slice none 0 0) (.slice none 0 0) (.int .i64 0) (.int .i64 0) (.int .i64 0) (.int .i64 0) (.int .i64 0) (.bool false))
   have HB:=Lib.hid (below_stored HBX.out.2.2.2.2 (r:=w.heap.size+2) (q:=w.heap.size+3) (by simp) (by simp) (.slice none 0 0) (.slice none 0 0) (.int .i64 0) (.int .i64 0) (.int .i64 0) (.int .i64 0) (.int .i64 0) (.bool false))
   go_wp2_with fail
   refine bodyPost_ret (v:=.tuple #[.agg #[.slice none 0 0,.slice none 0 0,.int .i64 0],.agg #[.int .i64 0,.int .i64 0,.int .i64 0,.int .i64 0,.bool false],.int .i64 2]) (results_cct Try.results6 _ _ (w.heap.size+2) (w.heap.size+3) 24 26 _ _ _ _ rfl HA.out.1 rfl HA.out.2 Try.underlying24 rfl info_diag Try.underlying26 rfl info_move) rfl ?_
   exact ⟨MvE.err (by decide),HB.out⟩
 have HIR:=Lib.hid (hbi rfl)
 clear hbi
 obtain ⟨w7,hw7⟩:∃ W,W=(w6.alloc (.cells #[.slice none 0 0,.slice none 0 0,.int .i64 0] 24)).alloc (.cells #[.int .i64 0,.int .i64 0,.int .i64 0,.int .i64 0,.bool false] 26):=⟨_,rfl⟩
 have hb7:Below w6.heap.size w6 w7:=by rw [hw7];exact ((Below.refl _ _).alloc (Nat.le_refl _) _).alloc (by simp) _
 have H7:Hid (Arr w7 w6.heap.size 24 [.slice none 0 0,.slice none 0 0,.int .i64 0]):=by rw [hw7];exact Lib.hid ((Arr.new _ _ [_,_,_]).alloc _)
 have H8:Hid (Arr w7 (w6.heap.size+1) 26 [.int .i64 0,.int .i64 0,.int .i64 0,.int .i64 0,.bool false]):=by rw [hw7];exact Lib.hid (Arr.newAt (w6.alloc _) _ [_,_,_,_,_] _ (by simp))
 go_upto_region 10 with fail
 rw [<- hw7]
 clear hw7
 have HBX7:=Lib.hid (HBX.out.below hb7 HBX.out.lt)
 have HG:=Lib.hid HBX.out.lt
 clear HBX hb7
 have HBX:=HBX7
 clear HBX7
 generalize w6.heap.size=g7 at *
 have m0:=HBX.out.2.1.cell 0
 go_upto_block 0 with fail
 go_cut [9] (fun s9 wx=>∃ (ek:Int) (v1 v2:Value) (S2 M2:List Int) (L2 a b c d:Int) (o:Bool),s9=.int .i64 ek/\Bx4 w wx [.slice A0 S.length cs,.slice A2 M.length c2,.int .i64 L] [.int .i64 kd,.int .i64 X,.int .i64 Y,.int .i64 sg,.bool ov]/\Arr wx g7 24 [v1,v2,.int .i64 L2]/\Arr wx (g7+1) 26 [.int .i64 a,.int .i64 b,.int .i64 c,.int .i64 d,.bool o]/\OwnI 3 0 wx v1 S2/\OwnI 3 0 wx v2 M2/\(ek=0->MvQ S M L S2 M2 L2))
 case first =>
  clear m0
  rcases HKK.out with hkd|hkd|hkd|hkd|hkd
  · subst hkd
    have HC:=Lib.hid (fun W (hb:Below w.heap.size w W)=>curl_any _ _ S M L 1 X Y sg ov W (GS.out W hb) (GM.out W hb) HOK.out (HIR.out.1 rfl).2.1 (HIR.out.1 rfl).1 HN.out (HIR.out.1 rfl).2.2)
    have y0:=HBX.out.1.cell 0
    have y1:=HBX.out.1.cell 1
    have y2:=HBX.out.1.cell 2
    have m0:=HBX.out.2.1.cell 0
    have m1:=HBX.out.2.1.cell 1
    have m2:=HBX.out.2.1.cell 2
    have m3:=HBX.out.2.1.cell 3
    have m4:=HBX.out.2.1.cell 4
    go_wp2_with (go_at_call 13;refine (HC.out _ HBX.out.2.2.2.2).mono ?_;rintro e w9 ⟨⟨v1,v2,S2,M2,L2,mv,ek,rfl,⟨ra,rb,rc,rd,ro,rfl⟩,o1,o2,hq⟩,hb9⟩;have HO1:=Lib.hid o1;have HO2:=Lib.hid o2;have HQ:=Lib.hid hq;obtain ⟨B1,n1,rfl⟩:=o1.form;obtain ⟨B2,n2,rfl⟩:=o2.form;clear o1 o2 hq;have HX9:=Lib.hid (HBX.out.below hb9 HBX.out.lt);have H79:=Lib.hid (H7.out.below hb9 H7.out.lt);have H89:=Lib.hid (H8.out.below hb9 H8.out.lt);clear y0 y1 y2 m0 m1 m2 m3 m4;have x0:=H79.out.cell 0;have x1:=H79.out.cell 1;have x2:=H79.out.cell 2;have f0:=H79.out.frozen 0;have f1:=H79.out.frozen 1;have f2:=H79.out.frozen 2;have z0:=H89.out.cell 0;have z1:=H89.out.cell 1;have z2:=H89.out.cell 2;have z3:=H89.out.cell 3;have z4:=H89.out.cell 4;have g0:=H89.out.frozen 0;have g1:=H89.out.frozen 1;have g2:=H89.out.frozen 2;have g3:=H89.out.frozen 3;have g4:=H89.out.frozen 4)
    have HFN:=Lib.hid (ap_stored HX9.out H79.out H89.out (by simp) HG.out (Nat.le_succ_of_le HG.out) HO1.out HO2.out L2 ra rb rc rd ro)
    go_meet
    exact ⟨ek,_,_,S2,M2,L2,ra,rb,rc,rd,ro,rfl,HFN.out.1,HFN.out.2.1,HFN.out.2.2.1,HFN.out.2.2.2.1,HFN.out.2.2.2.2,HQ.out⟩
  · subst hkd
    obtain ⟨jx,rfl⟩:∃ jx:Nat,X=(jx:Int):=⟨X.toNat,by have h:=HIR.out.2.1 rfl;omega⟩
    have HC:=Lib.hid (fun W (hb:Below w.heap.size w W)=>uncurl_any _ _ S M L 2 Y sg ov jx W (GS.out W hb) (GM.out W hb) HOK.out (by have h:=HIR.out.2.1 rfl;omega) HN.out)
    have y0:=HBX.out.1.cell 0
    have y1:=HBX.out.1.cell 1
    have y2:=HBX.out.1.cell 2
    have m0:=HBX.out.2.1.cell 0
    have m1:=HBX.out.2.1.cell 1
    have m2:=HBX.out.2.1.cell 2
    have m3:=HBX.out.2.1.cell 3
    have m4:=HBX.out.2.1.cell 4
    go_wp2_with (go_at_call 14;refine (HC.out _ HBX.out.2.2.2.2).mono ?_;rintro e w9 ⟨⟨v1,v2,S2,M2,L2,mv,ek,rfl,⟨ra,rb,rc,rd,ro,rfl⟩,o1,o2,hq⟩,hb9⟩;have HO1:=Lib.hid o1;have HO2:=Lib.hid o2;have HQ:=Lib.hid hq;obtain ⟨B1,n1,rfl⟩:=o1.form;obtain ⟨B2,n2,rfl⟩:=o2.form;clear o1 o2 hq;have HX9:=Lib.hid (HBX.out.below hb9 HBX.out.lt);have H79:=Lib.hid (H7.out.below hb9 H7.out.lt);have H89:=Lib.hid (H8.out.below hb9 H8.out.lt);clear y0 y1 y2 m0 m1 m2 m3 m4;have x0:=H79.out.cell 0;have x1:=H79.out.cell 1;have x2:=H79.out.cell 2;have f0:=H79.out.frozen 0;have f1:=H79.out.frozen 1;have f2:=H79.out.frozen 2;have z0:=H89.out.cell 0;have z1:=H89.out.cell 1;have z2:=H89.out.cell 2;have z3:=H89.out.cell 3;have z4:=H89.out.cell 4;have g0:=H89.out.frozen 0;have g1:=H89.out.frozen 1;have g2:=H89.out.frozen 2;have g3:=H89.out.frozen 3;have g4:=H89.out.frozen 4)
    have HFN:=Lib.hid (ap_stored HX9.out H79.out H89.out (by simp) HG.out (Nat.le_succ_of_le HG.out) HO1.out HO2.out L2 ra rb rc rd ro)
    go_meet
    exact ⟨ek,_,_,S2,M2,L2,ra,rb,rc,rd,ro,rfl,HFN.out.1,HFN.out.2.1,HFN.out.2.2.1,HFN.out.2.2.2.1,HFN.out.2.2.2.2,HQ.out⟩
  · subst hkd
    have HC:=Lib.hid (fun W (hb:Below w.heap.size w W)=>survey_any HV1.out HOK.out _ _ W (GS.out W hb) (GM.out W hb))
    have HP:=Lib.hid (fun W (hb:Below w.heap.size w W) vl vp LL PP h1 h2 h3 h4=>poke_any _ _ vl vp S M LL PP L 3 X Y sg ov W (GS.out W hb) (GM.out W hb) h1 h3 h2 h4 HOK.out (HIR.out.2.2.2.2 rfl) HN.out)
    have y0:=HBX.out.1.cell 0
    have y1:=HBX.out.1.cell 1
    have y2:=HBX.out.1.cell 2
    have m0:=HBX.out.2.1.cell 0
    have m1:=HBX.out.2.1.cell 1
    have m2:=HBX.out.2.1.cell 2
    have m3:=HBX.out.2.1.cell 3
    have m4:=HBX.out.2.1.cell 4
    go_upto_region 17 with fail
    go_region_with (first|(go_at_call 16;refine (HC.out _ (by first|exact HBX.out.2.2.2.2|exact HBX.out.2.2.2.2.drew)).mono ?_;rintro e ws ⟨vl,vp,LL,PP,rfl,hl1,hl2,hl3,hl4,hbs⟩;have HXS:=Lib.hid (HBX.out.drew.below hbs HBX.out.lt);have H7S:=Lib.hid (H7.out.drew.below hbs H7.out.lt);have H8S:=Lib.hid (H8.out.drew.below hbs H8.out.lt);have k0:=HXS.out.2.1.cell 0;have k1:=HXS.out.2.1.cell 1;have k2:=HXS.out.2.1.cell 2;have k3:=HXS.out.2.1.cell 3;have k4:=HXS.out.2.1.cell 4)|(go_at_call 15;refine (HP.out _ HXS.out.2.2.2.2 _ _ _ _ hl1 hl2 hl3 hl4).mono ?_;rintro e w9 ⟨⟨v1,v2,S2,M2,L2,mv,ek,rfl,⟨ra,rb,rc,rd,ro,rfl⟩,o1,o2,hq⟩,hb9⟩;have HO1:=Lib.hid o1;have HO2:=Lib.hid o2;have HQ:=Lib.hid hq;obtain ⟨B1,n1,rfl⟩:=o1.form;obtain ⟨B2,n2,rfl⟩:=o2.form;clear o1 o2 hq;have HX9:=Lib.hid (HXS.out.below hb9 HXS.out.lt);have H79:=Lib.hid (H7S.out.below hb9 H7S.out.lt);have H89:=Lib.hid (H8S.out.below hb9 H8S.out.lt);clear y0 y1 y2;have x0:=H79.out.cell 0;have x1:=H79.out.cell 1;have x2:=H79.out.cell 2;have f0:=H79.out.frozen 0;have f1:=H79.out.frozen 1;have f2:=H79.out.frozen 2;have z0:=H89.out.cell 0;have z1:=H89.out.cell 1;have z2:=H89.out.cell 2;have z3:=H89.out.cell 3;have z4:=H89.out.cell 4;have g0:=H89.out.frozen 0;have g1:=H89.out.frozen 1;have g2:=H89.out.frozen 2;have g3:=H89.out.frozen 3;have g4:=H89.out.frozen 4))
    all_goals
     go_wp2_with fail
     have HFN:=Lib.hid (ap_stored HX9.out H79.out H89.out (by simp) HG.out (Nat.le_succ_of_le HG.out) HO1.out HO2.out L2 ra rb rc rd ro)
     go_meet
     exact ⟨ek,_,_,S2,M2,L2,ra,rb,rc,rd,ro,rfl,HFN.out.1,HFN.out.2.1,HFN.out.2.2.1,HFN.out.2.2.2.1,HFN.out.2.2.2.2,HQ.out⟩
  · subst hkd
    obtain ⟨jx,rfl⟩:∃ jx:Nat,X=(jx:Int):=⟨X.toNat,by have h:=HIR.out.2.2.1 rfl;omega⟩
    obtain ⟨jy,rfl⟩:∃ jy:Nat,Y=(jy:Int):=⟨Y.toNat,by have h:=HIR.out.2.2.1 rfl;omega⟩
    have HC:=Lib.hid (fun W (hb:Below w.heap.size w W)=>unpoke_any _ _ S M L 4 sg ov jx jy W (GS.out W hb) (GM.out W hb) HOK.out (by have h:=HIR.out.2.2.1 rfl;omega) (by have h:=HIR.out.2.2.1 rfl;omega) HN.out)
    have y0:=HBX.out.1.cell 0
    have y1:=HBX.out.1.cell 1
    have y2:=HBX.out.1.cell 2
    have m0:=HBX.out.2.1.cell 0
    have m1:=HBX.out.2.1.cell 1
    have m2:=HBX.out.2.1.cell 2
    have m3:=HBX.out.2.1.cell 3
    have m4:=HBX.out.2.1.cell 4
    go_wp2_with (go_at_call 17;refine (HC.out _ HBX.out.2.2.2.2).mono ?_;rintro e w9 ⟨⟨v1,v2,S2,M2,L2,mv,ek,rfl,⟨ra,rb,rc,rd,ro,rfl⟩,o1,o2,hq⟩,hb9⟩;have HO1:=Lib.hid o1;have HO2:=Lib.hid o2;have HQ:=Lib.hid hq;obtain ⟨B1,n1,rfl⟩:=o1.form;obtain ⟨B2,n2,rfl⟩:=o2.form;clear o1 o2 hq;have HX9:=Lib.hid (HBX.out.below hb9 HBX.out.lt);have H79:=Lib.hid (H7.out.below hb9 H7.out.lt);have H89:=Lib.hid (H8.out.below hb9 H8.out.lt);clear y0 y1 y2 m0 m1 m2 m3 m4;have x0:=H79.out.cell 0;have x1:=H79.out.cell 1;have x2:=H79.out.cell 2;have f0:=H79.out.frozen 0;have f1:=H79.out.frozen 1;have f2:=H79.out.frozen 2;have z0:=H89.out.cell 0;have z1:=H89.out.cell 1;have z2:=H89.out.cell 2;have z3:=H89.out.cell 3;have z4:=H89.out.cell 4;have g0:=H89.out.frozen 0;have g1:=H89.out.frozen 1;have g2:=H89.out.frozen 2;have g3:=H89.out.frozen 3;have g4:=H89.out.frozen 4)
    have HFN:=Lib.hid (ap_stored HX9.out H79.out H89.out (by simp) HG.out (Nat.le_succ_of_le HG.out) HO1.out HO2.out L2 ra rb rc rd ro)
    go_meet
    exact ⟨ek,_,_,S2,M2,L2,ra,rb,rc,rd,ro,rfl,HFN.out.1,HFN.out.2.1,HFN.out.2.2.1,HFN.out.2.2.2.1,HFN.out.2.2.2.2,HQ.out⟩
  · subst hkd
    obtain ⟨jx,rfl⟩:∃ jx:Nat,X=(jx:Int):=⟨X.toNat,by have h:=HIR.out.2.2.2.1 rfl;omega⟩
    have HC:=Lib.hid (fun W (hb:Below w.heap.size w W)=>slide_any _ _ S M L 5 Y sg ov jx W (GS.out W hb) (GM.out W hb) HOK.out (by have h:=HIR.out.2.2.2.1 rfl;omega) HN.out)
    have y0:=HBX.out.1.cell 0
    have y1:=HBX.out.1.cell 1
    have y2:=HBX.out.1.cell 2
    have m0:=HBX.out.2.1.cell 0
    have m1:=HBX.out.2.1.cell 1
    have m2:=HBX.out.2.1.cell 2
    have m3:=HBX.out.2.1.cell 3
    have m4:=HBX.out.2.1.cell 4
    go_wp2_with (go_at_call 18;refine (HC.out _ HBX.out.2.2.2.2).mono ?_;rintro e w9 ⟨⟨v1,v2,S2,M2,L2,mv,ek,rfl,⟨ra,rb,rc,rd,ro,rfl⟩,o1,o2,hq⟩,hb9⟩;have HO1:=Lib.hid o1;have HO2:=Lib.hid o2;have HQ:=Lib.hid hq;obtain ⟨B1,n1,rfl⟩:=o1.form;obtain ⟨B2,n2,rfl⟩:=o2.form;clear o1 o2 hq;have HX9:=Lib.hid (HBX.out.below hb9 HBX.out.lt);have H79:=Lib.hid (H7.out.below hb9 H7.out.lt);have H89:=Lib.hid (H8.out.below hb9 H8.out.lt);clear y0 y1 y2 m0 m1 m2 m3 m4;have x0:=H79.out.cell 0;have x1:=H79.out.cell 1;have x2:=H79.out.cell 2;have f0:=H79.out.frozen 0;have f1:=H79.out.frozen 1;have f2:=H79.out.frozen 2;have z0:=H89.out.cell 0;have z1:=H89.out.cell 1;have z2:=H89.out.cell 2;have z3:=H89.out.cell 3;have z4:=H89.out.cell 4;have g0:=H89.out.frozen 0;have g1:=H89.out.frozen 1;have g2:=H89.out.frozen 2;have g3:=H89.out.frozen 3;have g4:=H89.out.frozen 4)
    have HFN:=Lib.hid (ap_stored HX9.out H79.out H89.out (by simp) HG.out (Nat.le_succ_of_le HG.out) HO1.out HO2.out L2 ra rb rc rd ro)
    go_meet
    exact ⟨ek,_,_,S2,M2,L2,ra,rb,rc,rd,ro,rfl,HFN.out.1,HFN.out.2.1,HFN.out.2.2.1,HFN.out.2.2.2.1,HFN.out.2.2.2.2,HQ.out⟩
 case rest =>
  obtain ⟨ek,v1,v2,S2,M2,L2,ra,rb,rc,rd,ro,rfl,hbx,h7,h8,o1,o2,hq⟩:=hcut
  have HBX:=Lib.hid hbx
  have H7:=Lib.hid h7
  have H8:=Lib.hid h8
  have O1:=Lib.hid o1
  have O2:=Lib.hid o2
  obtain ⟨B1,n1,rfl⟩:=o1.form
  obtain ⟨B2,n2,rfl⟩:=o2.form
  clear hbx h7 h8 o1 o2 m0
  by_cases hek:ek=0
  · subst hek
    have HQ:=Lib.hid (hq rfl)
    clear hq
    go_upto_region 22 with fail
    have x0:=H7.out.cell 0
    have c0:=HBX.out.2.2.1.cell 0
    have f0:=HBX.out.2.2.1.frozen 0
    have x1:=H7.out.cell 1
    have c1:=HBX.out.2.2.1.cell 1
    have f1:=HBX.out.2.2.1.frozen 1
    have x2:=H7.out.cell 2
    have c2:=HBX.out.2.2.1.cell 2
    have f2:=HBX.out.2.2.1.frozen 2
    have z0:=H8.out.cell 0
    have d0:=HBX.out.2.2.2.1.cell 0
    have g0:=HBX.out.2.2.2.1.frozen 0
    have z1:=H8.out.cell 1
    have d1:=HBX.out.2.2.2.1.cell 1
    have g1:=HBX.out.2.2.2.1.frozen 1
    have z2:=H8.out.cell 2
    have d2:=HBX.out.2.2.2.1.cell 2
    have g2:=HBX.out.2.2.2.1.frozen 2
    have z3:=H8.out.cell 3
    have d3:=HBX.out.2.2.2.1.cell 3
    have g3:=HBX.out.2.2.2.1.frozen 3
    have z4:=H8.out.cell 4
    have d4:=HBX.out.2.2.2.1.cell 4
    have g4:=HBX.out.2.2.2.1.frozen 4
    have ng1:g7≠w.heap.size+2:=by have:=HG.out;omega
    have ng2:g7≠w.heap.size+3:=by have:=HG.out;omega
    have ng3:g7+1≠w.heap.size+2:=by have:=HG.out;omega
    have ng4:g7+1≠w.heap.size+3:=by have:=HG.out;omega
    have HA:=Lib.hid (Arr.stored HBX.out.2.2.1 HBX.out.2.2.2.1 (by simp) (.slice B1 S2.length n1) (.slice B2 M2.length n2) (.int .i64 L2) (.int .i64 ra) (.int .i64 rb) (.int .i64 rc) (.int .i64 rd) (.bool ro))
    have HB:=Lib.hid (below_stored HBX.out.2.2.2.2 (r:=w.heap.size+2) (q:=w.heap.size+3) (by simp) (by simp) (.slice B1 S2.length n1) (.slice B2 M2.length n2) (.int .i64 L2) (.int .i64 ra) (.int .i64 rb) (.int .i64 rc) (.int .i64 rd) (.bool ro))
    have HO:=Lib.hid (ap_last HBX.out O1.out O2.out L2 ra rb rc rd ro)
    clear HBX H7 H8 O1 O2 HIR HG
    go_region
    go_wp2_with fail
    refine bodyPost_ret (v:=.tuple #[.agg #[.slice B1 S2.length n1,.slice B2 M2.length n2,.int .i64 L2],.agg #[.int .i64 ra,.int .i64 rb,.int .i64 rc,.int .i64 rd,.bool ro],.int .i64 0]) (results_cct Try.results6 _ _ (w.heap.size+2) (w.heap.size+3) 24 26 _ _ _ _ rfl HA.out.1.drew rfl HA.out.2.drew Try.underlying24 rfl info_diag Try.underlying26 rfl info_move) rfl ?_
    exact ⟨⟨_,_,S2,M2,_,_,0,rfl,⟨_,_,_,_,_,rfl⟩,HO.out.1.drew,HO.out.2.drew,fun _=>HQ.out⟩,HB.out.drew⟩
  · have zk:(ek != 0)=true:=by simpa using hek
    have x0:=HBX.out.2.2.1.cell 0
    have x1:=HBX.out.2.2.1.cell 1
    have x2:=HBX.out.2.2.1.cell 2
    have f0:=HBX.out.2.2.1.frozen 0
    have f1:=HBX.out.2.2.1.frozen 1
    have f2:=HBX.out.2.2.1.frozen 2
    have z0:=HBX.out.2.2.2.1.cell 0
    have z1:=HBX.out.2.2.2.1.cell 1
    have z2:=HBX.out.2.2.2.1.cell 2
    have z3:=HBX.out.2.2.2.1.cell 3
    have z4:=HBX.out.2.2.2.1.cell 4
    have g0:=HBX.out.2.2.2.1.frozen 0
    have g1:=HBX.out.2.2.2.1.frozen 1
    have g2:=HBX.out.2.2.2.1.frozen 2
    have g3:=HBX.out.2.2.2.1.frozen 3
    have g4:=HBX.out.2.2.2.1.frozen 4
    have HA:=Lib.hid (Arr.stored HBX.out.2.2.1 HBX.out.2.2.2.1 (by simp) (.slice none 0 0) (.slice none 0 0) (.int .i64 0) (.int .i64 0) (.int .i64 0) (.int .i64 0) (.int .i64 0) (.bool false))
    have HB:=Lib.hid (below_stored HBX.out.2.2.2.2 (r:=w.heap.size+2) (q:=w.heap.size+3) (by simp) (by simp) (.slice none 0 0) (.slice none 0 0) (.int .i64 0) (.int .i64 0) (.int .i64 0) (.int .i64 0) (.int .i64 0) (.bool false))
    go_wp2_with fail
    refine bodyPost_ret (v:=.tuple #[.agg #[.slice none 0 0,.slice none 0 0,.int .i64 0],.agg #[.int .i64 0,.int .i64 0,.int .i64 0,.int .i64 0,.bool false],.int .i64 ek]) (results_cct Try.results6 _ _ (w.heap.size+2) (w.heap.size+3) 24 26 _ _ _ _ rfl HA.out.1 rfl HA.out.2 Try.underlying24 rfl info_diag Try.underlying26 rfl info_move) rfl ?_
    exact ⟨MvE.err hek,HB.out⟩
def CntR2 (S M:List Int) (L md:Int) (e:Ending):Prop:=∃ n er:Int,e=.returned (.tuple #[.int .i64 n,.int .i64 er])/\Hid ((er=0->CntQ S M L md n)/\(er≠0->n=0))
theorem Count_all2 (vs vm:Value) (S M:List Int) (L md:Int) (w:World) (hS:Ints w vs S) (hM:Ints w vm M) :
 Calls Try.prog 7 #[.agg #[vs,vm,.int .i64 L],.int .i64 md] w fun e w'=>CntR2 S M L md e/\Below w.heap.size w w':=by
 cases hv:valB S M L with
 | false=>exact (Count_arg vs vm S M L md w hS hM hv).mono fun e w' ⟨he,hb⟩=>⟨⟨0,1,he,Lib.hid ⟨fun h=>absurd h (by decide),fun _=>rfl⟩⟩,hb⟩
 | true =>
  by_cases hr:md<1\/1000<md
  · exact (Count_range vs vm S M L md w hS hM hv hr).mono fun e w' ⟨he,hb⟩=>⟨⟨0,2,he,Lib.hid ⟨fun h=>absurd h (by decide),fun _=>rfl⟩⟩,hb⟩
  · obtain ⟨mo,rfl⟩:∃ mo:Nat,md=(mo:Int):=⟨md.toNat,by omega⟩
    have hm1:1<=mo:=by omega
    have hm2:mo<=1000:=by omega
    by_cases hf:14<S.length\/4<L
    · exact (Count_full vs vm S M L mo w hS hM hv hm1 hm2 hf).mono fun e w' ⟨he,hb⟩=>⟨⟨0,5,he,Lib.hid ⟨fun h=>absurd h (by decide),fun _=>rfl⟩⟩,hb⟩
    · refine (Count_yes vs vm S M L mo w hS hM hv hm1 hm2 (by omega) (by omega)).mono fun e w' ⟨he,hb⟩=>⟨?_,hb⟩
      obtain ⟨nv,ev,rfl,hne⟩:=cntE_form he
      refine ⟨nv,ev,rfl,Lib.hid ⟨fun h=>?_,fun h=>?_⟩⟩
      · rcases hne with ⟨_,_,h2⟩|⟨h1,h2⟩
        · omega
        · have hc:=cnt_val (valB_ok hv) (by omega) hm1 h1
          have hb:=cntP_bd hm1 h1
          refine ⟨hv,by omega,by omega,by omega,?_,by omega⟩
          rw [Int.toNat_natCast,<- hc]
      · rcases hne with ⟨_,h1,_⟩|⟨_,h2⟩
        · omega
        · omega
theorem moves_end {S M S2 M2:List Int} {L L2 md n k:Int} (h:MvQ S M L S2 M2 L2) (c1:CntQ S M L md n) (c2:CntQ S2 M2 L2 md k):n=k:=by
 obtain ⟨v1,a1,_,_,e1,_⟩:=c1
 obtain ⟨v2,_,_,_,e2,_⟩:=c2
 rw [e1,e2,h v1 v2 md.toNat (by omega)]
set_option maxHeartbeats 8000000 in
set_option maxRecDepth 100000 in
theorem moves_law (vs vm:Value) (S M:List Int) (L kd X Y sg:Int) (ov:Bool) (md:Int) (w:World) (hS:Ints w vs S) (hM:Ints w vm M) :
 Calls Try.prog 3 #[.agg #[vs,vm,.int .i64 L],.agg #[.int .i64 kd,.int .i64 X,.int .i64 Y,.int .i64 sg,.bool ov],.int .i64 md] w fun e w'=>e=.returned (.bool true)/\Below w.heap.size w w':=by
 have hW:∀ W,W=((w.alloc (.cells #[vs,vm,.int .i64 L] 24)).alloc (.cells #[.int .i64 kd,.int .i64 X,.int .i64 Y,.int .i64 sg,.bool ov] 26))->Arr W w.heap.size 24 [vs,vm,.int .i64 L]/\Arr W (w.heap.size+1) 26 [.int .i64 kd,.int .i64 X,.int .i64 Y,.int .i64 sg,.bool ov]/\Below w.heap.size w W/\W.heap.size=w.heap.size+2:=by
  intro W hW
  subst hW
  exact ⟨(Arr.new _ _ [_,_,_]).alloc _,Arr.newAt (w.alloc _) _ [_,_,_,_,_] _ (by simp),((Below.refl _ _).alloc (Nat.le_refl _) _).alloc (by simp) _,by simp⟩
 have HAW:=Lib.hid awake_any
 have HGR:=Lib.hid (fun W (hb:Below w.heap.size w W)=>great_any vs vm S M L W (hS.below hb) (hM.below hb))
 have HAP:=Lib.hid (fun W (hb:Below w.heap.size w W) (h7:S.length<=7)=>apply_any vs vm S M L kd X Y sg ov W (hS.below hb) (hM.below hb) h7)
 have HC1:=Lib.hid (fun W (hb:Below w.heap.size w W)=>Count_all2 vs vm S M L md W (hS.below hb) (hM.below hb))
 obtain ⟨A0,cs,rfl,hcs,hx1⟩:=hS
 obtain ⟨A2,c2,rfl,hc2,hx2⟩:=hM
 clear hx1 hx2 hcs hc2
 go_enter Try.func3,Try.ntmps3
 go_upto_region 1 with fail
 have hW3:=hW _ rfl
 clear hW
 generalize ((w.alloc (.cells #[.slice A0 S.length cs,.slice A2 M.length c2,.int .i64 L] 24)).alloc (.cells #[.int .i64 kd,.int .i64 X,.int .i64 Y,.int .i64 sg,.bool ov] 26))=w4 at hW3 ⊢
 obtain ⟨q0,r0,hb4,hs4⟩:=hW3
 go_upto_region 3 with (go_at_call 4;refine (HAW.out _).mono ?_;rintro e w5 ⟨rfl,hb5⟩)
 have q5:=q0.below hb5 q0.lt
 have r5:=r0.below hb5 r0.lt
 have hb5':=hb4.trans (hb5.mono hb4.size)
 have y0:=q5.cell 0
 have y1:=q5.cell 1
 have y2:=q5.cell 2
 clear q0 r0 hb4 hb5 hs4
 cases hgr:grB S M with
 | true =>
  rw [hgr] at HGR
  clear hgr
  go_wp2_with (go_at_call 5;refine (HGR.out _ hb5').mono ?_;rintro e w6 ⟨rfl,hb6⟩)
  go_ret
  exact ⟨rfl,hb5'.trans (hb6.mono hb5'.size)⟩
 | false =>
  rw [hgr] at HGR
  clear hgr
  by_cases h7:7<S.length
  · have z1:(7:Int)<(S.length:Int):=by omega
    go_wp2_with (go_at_call 5;refine (HGR.out _ hb5').mono ?_;rintro e w6 ⟨rfl,hb6⟩;have yy:=(q5.below hb6 q5.lt).cell 0)
    go_ret
    exact ⟨rfl,hb5'.trans (hb6.mono hb5'.size)⟩
  · have z1:¬ (7:Int)<(S.length:Int):=by omega
    have HAP1:=Lib.hid (fun W hb=>HAP.out W hb (by omega))
    clear HAP h7
    go_upto_region 5 with (go_at_call 5;refine (HGR.out _ hb5').mono ?_;rintro e w6 ⟨rfl,hb6⟩;have yy:=(q5.below hb6 q5.lt).cell 0)
    have q6:=q5.below hb6 q5.lt
    have r6:=r5.below hb6 r5.lt
    have hb6':=hb5'.trans (hb6.mono hb5'.size)
    clear yy y0 y1 y2 q5 r5 hb5' hb6 z1 HGR HAW
    have y0:=q6.cell 0
    have y1:=q6.cell 1
    have y2:=q6.cell 2
    have m0:=r6.cell 0
    have m1:=r6.cell 1
    have m2:=r6.cell 2
    have m3:=r6.cell 3
    have m4:=r6.cell 4
    go_upto_region 6 with (go_at_call 6;refine (HAP1.out _ hb6').mono ?_;rintro e w7 ⟨⟨v1,v2,S2,M2,L2,mv,ek,rfl,⟨ra,rb,rc,rd,ro,rfl⟩,o1,o2,hq⟩,hb7⟩;have O1:=Lib.hid o1;have O2:=Lib.hid o2;have HQ:=Lib.hid hq;obtain ⟨B1,n1,rfl⟩:=o1.form;obtain ⟨B2,n2,rfl⟩:=o2.form;clear o1 o2 hq)
    obtain ⟨w8,hw8⟩:∃ W,W=(w7.alloc (.cells #[.slice B1 S2.length n1,.slice B2 M2.length n2,.int .i64 L2] 24)).alloc (.cells #[.int .i64 ra,.int .i64 rb,.int .i64 rc,.int .i64 rd,.bool ro] 26):=⟨_,rfl⟩
    have hb78:Below w7.heap.size w7 w8:=by rw [hw8];exact ((Below.refl _ _).alloc (Nat.le_refl _) _).alloc (by simp) _
    have HNX:Hid (Arr w8 w7.heap.size 24 [.slice B1 S2.length n1,.slice B2 M2.length n2,.int .i64 L2]):=by rw [hw8];exact Lib.hid ((Arr.new _ _ [_,_,_]).alloc _)
    rw [<- hw8]
    clear hw8
    have q7:=q6.below hb7 q6.lt
    have q8:=q7.below hb78 q7.lt
    have hb7':=hb6'.trans (hb7.mono hb6'.size)
    have hb8':=hb7'.trans (hb78.mono hb7'.size)
    have P1:=Lib.hid (O1.out.below hb78 (Nat.le_refl _))
    have P2:=Lib.hid (O2.out.below hb78 (Nat.le_refl _))
    clear y0 y1 y2 m0 m1 m2 m3 m4 q6 q7 r6 hb6' hb7 hb7' hb78 O1 O2 HAP1
    generalize w7.heap.size=g7 at *
    by_cases hek:ek=0
    rotate_left
    · have zk:(ek != 0)=true:=by simpa using hek
      go_wp2_with fail
      go_ret
      exact ⟨rfl,hb8'⟩
    · subst hek
      have HMQ:=Lib.hid (HQ.out rfl)
      clear HQ
      have HC2:=Lib.hid (fun W h1 h2=>Count_all2 (.slice B1 S2.length n1) (.slice B2 M2.length n2) S2 M2 L2 md W h1 h2)
      have y0:=q8.cell 0
      have y1:=q8.cell 1
      have y2:=q8.cell 2
      go_upto_region 9 with (go_at_call 7;refine (HC1.out _ hb8').mono ?_;rintro e w9 ⟨⟨n,e1,rfl,hn⟩,hb9⟩)
      have hnx:=HNX.out.below hb9 HNX.out.lt
      have x0:=hnx.cell 0
      have x1:=hnx.cell 1
      have x2:=hnx.cell 2
      have I1:=(P1.out.below hb9 (Nat.le_refl _)).ints
      have I2:=(P2.out.below hb9 (Nat.le_refl _)).ints
      have hb9':=hb8'.trans (hb9.mono hb8'.size)
      clear y0 y1 y2 q8 hb9 hb8' hnx HNX P1 P2
      go_upto_region 10 with (go_at_call 7;refine (HC2.out _ I1 I2).mono ?_;rintro e w10 ⟨⟨k,e2,rfl,hk⟩,hb10⟩)
      have hb10':=hb9'.trans (hb10.mono hb9'.size)
      clear x0 x1 x2 I1 I2 hb9' hb10 HC1 HC2
      by_cases q1:e1=0
      rotate_left
      · have hn0:=hn.out.2 q1
        subst hn0
        have zk:(e1 != 0)=true:=by simpa using q1
        clear hn hk
        go_wp2_with fail
        all_goals
         go_ret
         exact ⟨rfl,hb10'⟩
      · subst q1
        by_cases q2:e2=0
        rotate_left
        · have hk0:=hk.out.2 q2
          subst hk0
          have zk:(e2 != 0)=true:=by simpa using q2
          clear hn hk
          by_cases hn0:n=0
          · subst hn0
            go_wp2_with fail
            all_goals
             go_ret
             exact ⟨rfl,hb10'⟩
          · have zn:(n==0)=false:=by simpa using hn0
            go_wp2_with fail
            all_goals
             go_ret
             exact ⟨rfl,hb10'⟩
        · subst q2
          have hnk:n=k:=moves_end HMQ.out (hn.out.1 rfl) (hk.out.1 rfl)
          subst hnk
          clear hn hk
          have zn:(n==n)=true:=by simp
          go_wp2_with fail
          all_goals
           go_ret
           exact ⟨rfl,hb10'⟩
theorem moves_row (vs vm:Value) (S M:List Int) (L kd X Y sg:Int) (ov:Bool) (md:Int) (w:World) (hS:Ints w vs S) (hM:Ints w vm M) {X0:Prop} (_hx:X0) :
 Calls Try.prog 3 #[.agg #[vs,vm,.int .i64 L],.agg #[.int .i64 kd,.int .i64 X,.int .i64 Y,.int .i64 sg,.bool ov],.int .i64 md] w fun e w'=>e=.returned (.bool true)/\Below w.heap.size w w':=moves_law vs vm S M L kd X Y sg ov md w hS hM
end Go.Proofs.Ytfnmeigpfmeomaa
