/- moves.curl. -/
import Derived.Test.YtfnmeigpfmeomaaZfPkb
import Derived.Test.YtfnmeigpfmeomaaZfKmi
import Derived.Test.YtfnmeigpfmeomaaZfTwo
namespace Go.Proofs.Ytfnmeigpfmeomaa
open Go.RowKit
set_option linter.unusedVariables false
theorem curl_facts (W:World) (vs vm:Value) (L kd X Y sg:Int) (ov:Bool) (w:World) (hW:W=((((w.alloc (.cells #[vs,vm,.int .i64 L] 24)).alloc (.cells #[.int .i64 kd,.int .i64 X,.int .i64 Y,.int .i64 sg,.bool ov] 26)).alloc (.cells #[.slice none 0 0,.slice none 0 0,.int .i64 0] 24)).alloc (.cells #[.int .i64 0,.int .i64 0,.int .i64 0,.int .i64 0,.bool false] 26))) :
 Arr W w.heap.size 24 [vs,vm,.int .i64 L]/\Arr W (w.heap.size+1) 26 [.int .i64 kd,.int .i64 X,.int .i64 Y,.int .i64 sg,.bool ov]/\Arr W (w.heap.size+2) 24 [.slice none 0 0,.slice none 0 0,.int .i64 0]/\Arr W (w.heap.size+3) 26 [.int .i64 0,.int .i64 0,.int .i64 0,.int .i64 0,.bool false]/\Below w.heap.size w W/\W.heap.size=w.heap.size+4:=by
 subst hW
 exact ⟨(((Arr.new _ _ [_,_,_]).alloc _).alloc _).alloc _,((Arr.newAt (w.alloc _) _ [_,_,_,_,_] _ (by simp)).alloc _).alloc _,(Arr.newAt ((w.alloc _).alloc _) _ [_,_,_] _ (by simp)).alloc _,Arr.newAt (((w.alloc _).alloc _).alloc _) _ [_,_,_,_,_] _ (by simp),((((Below.refl _ _).alloc (Nat.le_refl _) _).alloc (by simp) _).alloc (by simp <;> omega) _).alloc (by simp <;> omega) _,by simp⟩
set_option maxHeartbeats 8000000 in
set_option maxRecDepth 100000 in
theorem curl_any (vs vm:Value) (S M:List Int) (L kd X Y sg:Int) (ov:Bool) (w:World) (hS:Ints w vs S) (hM:Ints w vm M) (k:Ok S M L) (hx:X<4*(S.length:Int)) (hx1:-1<=X) (hn:S.length<=7) (hsg:sg=1\/sg = -1) :
 Calls Try.prog 13 #[.agg #[vs,vm,.int .i64 L],.agg #[.int .i64 kd,.int .i64 X,.int .i64 Y,.int .i64 sg,.bool ov]] w fun e w'=>MvE (fun S' M' L'=>MvQ S M L S' M' L') e w'/\Below w.heap.size w w':=by
 have hm4:=k.m
 have KC:=Lib.hid (fun W (hb:Below w.heap.size w W)=>curlable_any vs vm S M L kd X Y sg ov W (hS.below hb) (hM.below hb) hx (by omega))
 have KG:=Lib.hid (fun W vk (hb:Below w.heap.size w W) (hK:Ints W vk [sg])=>grown_any vs vm vk S M [sg] L W (hS.below hb) (hM.below hb) hK (by omega) (by omega) (by simp))
 have GM:=Lib.hid (fun W (hb:Below w.heap.size w W)=>hM.below hb)
 have HOK:=Lib.hid k
 have HM4:=Lib.hid hm4
 clear k hm4
 obtain ⟨A,c,rfl,hc,hx'⟩:=hS
 obtain ⟨A2,c2,rfl,hc2,hx2⟩:=hM
 clear hx' hx2
 go_enter Try.func13,Try.ntmps13
 go_upto_region 1 with fail
 have hW:=curl_facts ((((w.alloc (.cells #[.slice A S.length c,.slice A2 M.length c2,.int .i64 L] 24)).alloc (.cells #[.int .i64 kd,.int .i64 X,.int .i64 Y,.int .i64 sg,.bool ov] 26)).alloc (.cells #[.slice none 0 0,.slice none 0 0,.int .i64 0] 24)).alloc (.cells #[.int .i64 0,.int .i64 0,.int .i64 0,.int .i64 0,.bool false] 26)) _ _ L kd X Y sg ov w rfl
 generalize ((((w.alloc (.cells #[.slice A S.length c,.slice A2 M.length c2,.int .i64 L] 24)).alloc (.cells #[.int .i64 kd,.int .i64 X,.int .i64 Y,.int .i64 sg,.bool ov] 26)).alloc (.cells #[.slice none 0 0,.slice none 0 0,.int .i64 0] 24)).alloc (.cells #[.int .i64 0,.int .i64 0,.int .i64 0,.int .i64 0,.bool false] 26))=w4 at hW ⊢
 obtain ⟨qa,qm,qr,qi,hb4,hs4⟩:=hW
 have y0:=qa.cell 0
 have y1:=qa.cell 1
 have y2:=qa.cell 2
 have m0:=qm.cell 0
 have m1:=qm.cell 1
 have m2:=qm.cell 2
 have m3:=qm.cell 3
 have m4:=qm.cell 4
 go_upto_region 2 with (go_at_call 25;refine (KC.out _ hb4).mono ?_;rintro e w5 ⟨⟨kk,rfl⟩,hb5⟩)
 clear y0 y1 y2 m0 m1 m2 m3 m4 KC
 have qa5:=qa.below hb5 qa.lt
 have qm5:=qm.below hb5 qm.lt
 have qr5:=qr.below hb5 qr.lt
 have qi5:=qi.below hb5 qi.lt
 have hw5:=hb4.trans (hb5.mono hb4.size)
 have hs5:=hb5.size
 clear qa qm qr qi hb5 hb4
 by_cases hk:kk=0
 · subst hk
   have y0:=qa5.cell 0
   go_upto_region 5 with fail
   have y1:=qa5.cell 1
   have y2:=qa5.cell 2
   have m3:=qm5.cell 3
   have HB5:=Lib.hid hw5
   have hK:=Lib.hid (Ints.of_arr (xs:=[sg]) (Arr.new w5 3 [.int .i64 sg]))
   go_upto_region 6 with (go_at_call 26;refine (KG.out _ _ (HB5.out.alloc (by have:=HB5.out.size;omega) _) hK.out).mono ?_;rintro e w6 ⟨v1,v2,rfl,o1,o2,o3,hb6⟩;obtain ⟨SS,hSS⟩:∃ SS,SS=S ++ [sg]:=⟨_,rfl⟩;obtain ⟨MM,hMM⟩:∃ MM,MM=M ++ List.replicate (4*[sg].length) (0:Int):=⟨_,rfl⟩;rw [<- hSS] at o1;rw [<- hMM] at o2;have HSS:=Lib.hid hSS;have HMM:=Lib.hid hMM;have O1:=Lib.hid o1;have O2:=Lib.hid o2;have O3:=Lib.hid o3;obtain ⟨B1,n1,rfl⟩:=o1.form;obtain ⟨B2,n2,rfl⟩:=o2.form;clear o1 o2 o3 hSS hMM)
   obtain ⟨w8,hw8⟩:∃ W,W=w6.alloc (.cells #[.slice B1 SS.length n1,.slice B2 MM.length n2,.int .i64 L] 24):=⟨_,rfl⟩
   have hz6:=hb6.size
   simp at hz6
   have CS:CuS w5.heap.size w6.heap.size w8 (.slice B1 SS.length n1) B2 MM.length n2 SS MM L:=by
    rw [hw8]
    exact CuS.start (O1.out.base (by simp)) (O2.out.base (by simp)) O3.out L
   have hb8:Below w5.heap.size w5 w8:=by
    rw [hw8]
    exact (((Below.refl _ _).alloc (Nat.le_refl _) _).trans (hb6.mono (by simp))).alloc (by omega) _
   rw [<- hw8]
   have HB6:=Lib.hid (show w5.heap.size<=w6.heap.size by omega)
   clear hw8 O1 O2 O3 hK HB5 y0 y1 y2 m3 hb6 hz6 KG
   have qa8:=qa5.below hb8 (by omega)
   have qm8:=qm5.below hb8 (by omega)
   have qr8:=qr5.below hb8 (by omega)
   have qi8:=qi5.below hb8 (by omega)
   have hw8:=hw5.trans (hb8.mono (by omega))
   have HML:=Lib.hid (show MM.length=4*S.length+4 by rw [HMM.out];simp;have:=HM4.out;omega)
   clear qa5 qm5 qr5 qi5 hw5 hb8
   have m3:=qm8.cell 3
   have m4:=qm8.cell 4
   have y1:=CS.box.cell 1
   have HCS:=Lib.hid CS
   clear CS
   rcases hsg with rfl|rfl <;> cases ov
   · go_upto_region 14 with (go_at_call 27;refine (mjoin_i _ _ _ w5.heap.size (MM) _ _ (4*S.length+2) (4*S.length+3) (by omega) (by omega) _ HCS.out.own2 (by have h1:=HML.out;have h2:=HM4.out;(try simp only [jnL_length]);omega) (by have h1:=HML.out;have h2:=HM4.out;(try simp only [jnL_length]);omega) (by have h1:=HML.out;have h2:=HM4.out;(try simp only [jnL_length]);omega)).mono ?_;rintro e w9 ⟨rfl,j9⟩)
     have qa9:=j9.arr qa8 (by omega)
     have qm9:=j9.arr qm8 (by omega)
     have qr9:=j9.arr qr8 (by omega)
     have qi9:=j9.arr qi8 (by omega)
     have hw9:=hw8.trans (j9.below.mono (by omega))
     have CS9:=Lib.hid (HCS.out.join j9)
     clear j9 HCS qa8 qm8 qr8 qi8 hw8 y1 m3 m4
     have m1:=qm9.cell 1
     have y1:=CS9.out.box.cell 1
     by_cases hX:X<0
     · go_upto_region 16 with (go_at_call 27;refine (mjoin_i _ _ _ w5.heap.size (jnL MM (4*S.length+2) (4*S.length+3)) _ _ (4*S.length+1) (4*S.length) (by omega) (by omega) _ CS9.out.own2 (by have h1:=HML.out;have h2:=HM4.out;(try simp only [jnL_length]);omega) (by have h1:=HML.out;have h2:=HM4.out;(try simp only [jnL_length]);omega) (by have h1:=HML.out;have h2:=HM4.out;(try simp only [jnL_length]);omega)).mono ?_;rintro e w10 ⟨rfl,j10⟩)
       have qa10:=j10.arr qa9 (by omega)
       have qm10:=j10.arr qm9 (by omega)
       have qr10:=j10.arr qr9 (by omega)
       have qi10:=j10.arr qi9 (by omega)
       have hw10:=hw9.trans (j10.below.mono (by omega))
       have CS10:=Lib.hid (CS9.out.join j10)
       clear j10 CS9 qa9 qm9 qr9 qi9 hw9 y1 m1
       have y2:=CS10.out.box.cell 2
       have f2:=CS10.out.box.frozen 2
       have l0:=HOK.out.l0
       have l1:=HOK.out.l1
       go_upto_region 19 with fail
       clear y2 f2
       have hg6:w5.heap.size<=w6.heap.size:=HB6.out
       have qa11:=qa10.far (p:=⟨w6.heap.size,2,none⟩) (show w.heap.size≠w6.heap.size by omega) (.int .i64 (L-1))
       have qm11:=qm10.far (p:=⟨w6.heap.size,2,none⟩) (show w.heap.size+1≠w6.heap.size by omega) (.int .i64 (L-1))
       have qr11:=qr10.far (p:=⟨w6.heap.size,2,none⟩) (show w.heap.size+2≠w6.heap.size by omega) (.int .i64 (L-1))
       have qi11:=qi10.far (p:=⟨w6.heap.size,2,none⟩) (show w.heap.size+3≠w6.heap.size by omega) (.int .i64 (L-1))
       have hw11:=hw10.setCell (p:=⟨w6.heap.size,2,none⟩) (show w.heap.size<=w6.heap.size by omega) (.int .i64 (L-1))
       have CS11:=Lib.hid (CS10.out.loops (L2:=L-1))
       clear qa10 qm10 qr10 qi10 hw10 CS10 l0 l1
       generalize (w10.setCell ⟨w6.heap.size,2,none⟩ (.int .i64 (L-1)))=w11 at *
       have y0:=CS11.out.box.cell 0
       have y1:=CS11.out.box.cell 1
       have y2:=CS11.out.box.cell 2
       have x0:=qr11.cell 0
       have x1:=qr11.cell 1
       have x2:=qr11.cell 2
       have f0:=qr11.frozen 0
       have f1:=qr11.frozen 1
       have f2:=qr11.frozen 2
       have z0:=qi11.cell 0
       have z1:=qi11.cell 1
       have z2:=qi11.cell 2
       have z3:=qi11.cell 3
       have z4:=qi11.cell 4
       have g0:=qi11.frozen 0
       have g1:=qi11.frozen 1
       have g2:=qi11.frozen 2
       have g3:=qi11.frozen 3
       have g4:=qi11.frozen 4
       have HA:=Lib.hid (Arr.stored qr11 qi11 (by omega) (.slice B1 SS.length n1) (.slice B2 MM.length n2) (.int .i64 (L-1)) (.int .i64 2) (.int .i64 (S.length:Int)) (.int .i64 0) (.int .i64 0) (.bool false))
       have HB:=Lib.hid (below_stored hw11 (r:=w.heap.size+2) (q:=w.heap.size+3) (by omega) (by omega) (.slice B1 SS.length n1) (.slice B2 MM.length n2) (.int .i64 (L-1)) (.int .i64 2) (.int .i64 (S.length:Int)) (.int .i64 0) (.int .i64 0) (.bool false))
       have H1:=Lib.hid (CS11.out.own1.stored (r:=w.heap.size+2) (q:=w.heap.size+3) (by omega) (by omega) (.slice B1 SS.length n1) (.slice B2 MM.length n2) (.int .i64 (L-1)) (.int .i64 2) (.int .i64 (S.length:Int)) (.int .i64 0) (.int .i64 0) (.bool false))
       have H2:=Lib.hid (CS11.out.own2.stored (r:=w.heap.size+2) (q:=w.heap.size+3) (by omega) (by omega) (.slice B1 SS.length n1) (.slice B2 MM.length n2) (.int .i64 (L-1)) (.int .i64 2) (.int .i64 (S.length:Int)) (.int .i64 0) (.int .i64 0) (.bool false))
       clear qr11 qi11 qa11 qm11 hw11
       go_wp2_with fail
       refine bodyPost_ret (v:=.tuple #[.agg #[.slice B1 SS.length n1,.slice B2 MM.length n2,.int .i64 (L-1)],.agg #[.int .i64 2,.int .i64 (S.length:Int),.int .i64 0,.int .i64 0,.bool false],.int .i64 0]) (results_cct Try.results13 _ _ (w.heap.size+2) (w.heap.size+3) 24 26 _ _ _ _ rfl HA.out.1 rfl HA.out.2 Try.underlying24 rfl info_diag Try.underlying26 rfl info_move) rfl ?_
       exact ⟨⟨_,_,SS,_,_,_,0,rfl,⟨_,_,_,_,_,rfl⟩,H1.out.base (Nat.zero_le _),H2.out.base (Nat.zero_le _),fun _=>by rw [HSS.out,HMM.out];exact curl_loop (.inr ⟨.inr ⟨rfl,rfl⟩,.inr ⟨rfl,rfl⟩⟩)⟩,HB.out⟩
     · obtain ⟨x,rfl⟩:∃ x:Nat,X=(x:Int):=⟨X.toNat,by omega⟩
       go_upto_region 17 with fail
       have hxl:x<M.length:=by have:=HM4.out;omega
       have hxy:=HOK.out.lt x hxl
       obtain ⟨bm,om,hA2,hbm,yc⟩:=ints_mt (GM.out w9 hw9) hxl (HOK.out.pos x hxl)
       subst hA2
       have zx:(x:Int)<(M.length:Int):=by omega
       have y3:=qa9.cell 1
       go_still_tail 9,(by kernel_rfl)
       change wpList _ _ _ _ _ w9.drew
       clear yc y3 y1 m1
       have CSd:=Lib.hid CS9.out.drew
       have qad:=qa9.drew
       have qmd:=qm9.drew
       have qrd:=qr9.drew
       have qid:=qi9.drew
       have hwd:=hw9.drew
       clear CS9 qa9 qm9 qr9 qi9 hw9
       generalize w9.drew=wd at *
       have m1:=qmd.cell 1
       go_upto_region 18 with (go_at_call 27;refine (mjoin_i _ _ _ w5.heap.size (jnL MM (4*S.length+2) (4*S.length+3)) _ _ (4*S.length+1) (mt M x) (by omega) (by omega) _ CSd.out.own2 (by have h1:=HML.out;have h2:=HM4.out;(try simp only [jnL_length]);omega) (by have h1:=HML.out;have h2:=HM4.out;(try simp only [jnL_length]);omega) (by have h1:=HML.out;have h2:=HM4.out;(try simp only [jnL_length]);omega)).mono ?_;rintro e w10 ⟨rfl,j10⟩)
       have qa10:=j10.arr qad (by omega)
       have qm10:=j10.arr qmd (by omega)
       have qr10:=j10.arr qrd (by omega)
       have qi10:=j10.arr qid (by omega)
       have hw10:=hwd.trans (j10.below.mono (by omega))
       have CS10:=Lib.hid (CSd.out.join j10)
       clear j10 CSd qad qmd qrd qid hwd m1
       have y1:=CS10.out.box.cell 1
       have m1:=qm10.cell 1
       go_upto_region 19 with (go_at_call 27;refine (mjoin_i _ _ _ w5.heap.size (jnL (jnL MM (4*S.length+2) (4*S.length+3)) (4*S.length+1) (mt M x)) _ _ (x) (4*S.length) (by omega) (by omega) _ CS10.out.own2 (by have h1:=HML.out;have h2:=HM4.out;(try simp only [jnL_length]);omega) (by have h1:=HML.out;have h2:=HM4.out;(try simp only [jnL_length]);omega) (by have h1:=HML.out;have h2:=HM4.out;(try simp only [jnL_length]);omega)).mono ?_;rintro e w11 ⟨rfl,j11⟩)
       have qa11:=j11.arr qa10 (by omega)
       have qm11:=j11.arr qm10 (by omega)
       have qr11:=j11.arr qr10 (by omega)
       have qi11:=j11.arr qi10 (by omega)
       have hw11:=hw10.trans (j11.below.mono (by omega))
       have CS11:=Lib.hid (CS10.out.join j11)
       clear j11 CS10 qa10 qm10 qr10 qi10 hw10 y1 m1
       have y0:=CS11.out.box.cell 0
       have y1:=CS11.out.box.cell 1
       have y2:=CS11.out.box.cell 2
       have x0:=qr11.cell 0
       have x1:=qr11.cell 1
       have x2:=qr11.cell 2
       have f0:=qr11.frozen 0
       have f1:=qr11.frozen 1
       have f2:=qr11.frozen 2
       have z0:=qi11.cell 0
       have z1:=qi11.cell 1
       have z2:=qi11.cell 2
       have z3:=qi11.cell 3
       have z4:=qi11.cell 4
       have g0:=qi11.frozen 0
       have g1:=qi11.frozen 1
       have g2:=qi11.frozen 2
       have g3:=qi11.frozen 3
       have g4:=qi11.frozen 4
       have HA:=Lib.hid (Arr.stored qr11 qi11 (by omega) (.slice B1 SS.length n1) (.slice B2 MM.length n2) (.int .i64 (L)) (.int .i64 2) (.int .i64 (S.length:Int)) (.int .i64 0) (.int .i64 0) (.bool false))
       have HB:=Lib.hid (below_stored hw11 (r:=w.heap.size+2) (q:=w.heap.size+3) (by omega) (by omega) (.slice B1 SS.length n1) (.slice B2 MM.length n2) (.int .i64 (L)) (.int .i64 2) (.int .i64 (S.length:Int)) (.int .i64 0) (.int .i64 0) (.bool false))
       have H1:=Lib.hid (CS11.out.own1.stored (r:=w.heap.size+2) (q:=w.heap.size+3) (by omega) (by omega) (.slice B1 SS.length n1) (.slice B2 MM.length n2) (.int .i64 (L)) (.int .i64 2) (.int .i64 (S.length:Int)) (.int .i64 0) (.int .i64 0) (.bool false))
       have H2:=Lib.hid (CS11.out.own2.stored (r:=w.heap.size+2) (q:=w.heap.size+3) (by omega) (by omega) (.slice B1 SS.length n1) (.slice B2 MM.length n2) (.int .i64 (L)) (.int .i64 2) (.int .i64 (S.length:Int)) (.int .i64 0) (.int .i64 0) (.bool false))
       clear qr11 qi11 qa11 qm11 hw11
       go_wp2_with fail
       refine bodyPost_ret (v:=.tuple #[.agg #[.slice B1 SS.length n1,.slice B2 MM.length n2,.int .i64 (L)],.agg #[.int .i64 2,.int .i64 (S.length:Int),.int .i64 0,.int .i64 0,.bool false],.int .i64 0]) (results_cct Try.results13 _ _ (w.heap.size+2) (w.heap.size+3) 24 26 _ _ _ _ rfl HA.out.1 rfl HA.out.2 Try.underlying24 rfl info_diag Try.underlying26 rfl info_move) rfl ?_
       exact ⟨⟨_,_,SS,_,_,_,0,rfl,⟨_,_,_,_,_,rfl⟩,H1.out.base (Nat.zero_le _),H2.out.base (Nat.zero_le _),fun _=>by rw [HSS.out,HMM.out];exact curl_edge (.inr ⟨.inr ⟨rfl,rfl⟩,.inr ⟨rfl,rfl⟩⟩) hxl⟩,HB.out⟩
   · go_upto_region 14 with (go_at_call 27;refine (mjoin_i _ _ _ w5.heap.size (MM) _ _ (4*S.length+1) (4*S.length) (by omega) (by omega) _ HCS.out.own2 (by have h1:=HML.out;have h2:=HM4.out;(try simp only [jnL_length]);omega) (by have h1:=HML.out;have h2:=HM4.out;(try simp only [jnL_length]);omega) (by have h1:=HML.out;have h2:=HM4.out;(try simp only [jnL_length]);omega)).mono ?_;rintro e w9 ⟨rfl,j9⟩)
     have qa9:=j9.arr qa8 (by omega)
     have qm9:=j9.arr qm8 (by omega)
     have qr9:=j9.arr qr8 (by omega)
     have qi9:=j9.arr qi8 (by omega)
     have hw9:=hw8.trans (j9.below.mono (by omega))
     have CS9:=Lib.hid (HCS.out.join j9)
     clear j9 HCS qa8 qm8 qr8 qi8 hw8 y1 m3 m4
     have m1:=qm9.cell 1
     have y1:=CS9.out.box.cell 1
     by_cases hX:X<0
     · go_upto_region 16 with (go_at_call 27;refine (mjoin_i _ _ _ w5.heap.size (jnL MM (4*S.length+1) (4*S.length)) _ _ (4*S.length+2) (4*S.length+3) (by omega) (by omega) _ CS9.out.own2 (by have h1:=HML.out;have h2:=HM4.out;(try simp only [jnL_length]);omega) (by have h1:=HML.out;have h2:=HM4.out;(try simp only [jnL_length]);omega) (by have h1:=HML.out;have h2:=HM4.out;(try simp only [jnL_length]);omega)).mono ?_;rintro e w10 ⟨rfl,j10⟩)
       have qa10:=j10.arr qa9 (by omega)
       have qm10:=j10.arr qm9 (by omega)
       have qr10:=j10.arr qr9 (by omega)
       have qi10:=j10.arr qi9 (by omega)
       have hw10:=hw9.trans (j10.below.mono (by omega))
       have CS10:=Lib.hid (CS9.out.join j10)
       clear j10 CS9 qa9 qm9 qr9 qi9 hw9 y1 m1
       have y2:=CS10.out.box.cell 2
       have f2:=CS10.out.box.frozen 2
       have l0:=HOK.out.l0
       have l1:=HOK.out.l1
       go_upto_region 19 with fail
       clear y2 f2
       have hg6:w5.heap.size<=w6.heap.size:=HB6.out
       have qa11:=qa10.far (p:=⟨w6.heap.size,2,none⟩) (show w.heap.size≠w6.heap.size by omega) (.int .i64 (L-1))
       have qm11:=qm10.far (p:=⟨w6.heap.size,2,none⟩) (show w.heap.size+1≠w6.heap.size by omega) (.int .i64 (L-1))
       have qr11:=qr10.far (p:=⟨w6.heap.size,2,none⟩) (show w.heap.size+2≠w6.heap.size by omega) (.int .i64 (L-1))
       have qi11:=qi10.far (p:=⟨w6.heap.size,2,none⟩) (show w.heap.size+3≠w6.heap.size by omega) (.int .i64 (L-1))
       have hw11:=hw10.setCell (p:=⟨w6.heap.size,2,none⟩) (show w.heap.size<=w6.heap.size by omega) (.int .i64 (L-1))
       have CS11:=Lib.hid (CS10.out.loops (L2:=L-1))
       clear qa10 qm10 qr10 qi10 hw10 CS10 l0 l1
       generalize (w10.setCell ⟨w6.heap.size,2,none⟩ (.int .i64 (L-1)))=w11 at *
       have y0:=CS11.out.box.cell 0
       have y1:=CS11.out.box.cell 1
       have y2:=CS11.out.box.cell 2
       have x0:=qr11.cell 0
       have x1:=qr11.cell 1
       have x2:=qr11.cell 2
       have f0:=qr11.frozen 0
       have f1:=qr11.frozen 1
       have f2:=qr11.frozen 2
       have z0:=qi11.cell 0
       have z1:=qi11.cell 1
       have z2:=qi11.cell 2
       have z3:=qi11.cell 3
       have z4:=qi11.cell 4
       have g0:=qi11.frozen 0
       have g1:=qi11.frozen 1
       have g2:=qi11.frozen 2
       have g3:=qi11.frozen 3
       have g4:=qi11.frozen 4
       have HA:=Lib.hid (Arr.stored qr11 qi11 (by omega) (.slice B1 SS.length n1) (.slice B2 MM.length n2) (.int .i64 (L-1)) (.int .i64 2) (.int .i64 (S.length:Int)) (.int .i64 0) (.int .i64 0) (.bool false))
       have HB:=Lib.hid (below_stored hw11 (r:=w.heap.size+2) (q:=w.heap.size+3) (by omega) (by omega) (.slice B1 SS.length n1) (.slice B2 MM.length n2) (.int .i64 (L-1)) (.int .i64 2) (.int .i64 (S.length:Int)) (.int .i64 0) (.int .i64 0) (.bool false))
       have H1:=Lib.hid (CS11.out.own1.stored (r:=w.heap.size+2) (q:=w.heap.size+3) (by omega) (by omega) (.slice B1 SS.length n1) (.slice B2 MM.length n2) (.int .i64 (L-1)) (.int .i64 2) (.int .i64 (S.length:Int)) (.int .i64 0) (.int .i64 0) (.bool false))
       have H2:=Lib.hid (CS11.out.own2.stored (r:=w.heap.size+2) (q:=w.heap.size+3) (by omega) (by omega) (.slice B1 SS.length n1) (.slice B2 MM.length n2) (.int .i64 (L-1)) (.int .i64 2) (.int .i64 (S.length:Int)) (.int .i64 0) (.int .i64 0) (.bool false))
       clear qr11 qi11 qa11 qm11 hw11
       go_wp2_with fail
       refine bodyPost_ret (v:=.tuple #[.agg #[.slice B1 SS.length n1,.slice B2 MM.length n2,.int .i64 (L-1)],.agg #[.int .i64 2,.int .i64 (S.length:Int),.int .i64 0,.int .i64 0,.bool false],.int .i64 0]) (results_cct Try.results13 _ _ (w.heap.size+2) (w.heap.size+3) 24 26 _ _ _ _ rfl HA.out.1 rfl HA.out.2 Try.underlying24 rfl info_diag Try.underlying26 rfl info_move) rfl ?_
       exact ⟨⟨_,_,SS,_,_,_,0,rfl,⟨_,_,_,_,_,rfl⟩,H1.out.base (Nat.zero_le _),H2.out.base (Nat.zero_le _),fun _=>by rw [HSS.out,HMM.out];exact curl_loop (.inl ⟨.inl ⟨rfl,rfl⟩,.inl ⟨rfl,rfl⟩⟩)⟩,HB.out⟩
     · obtain ⟨x,rfl⟩:∃ x:Nat,X=(x:Int):=⟨X.toNat,by omega⟩
       go_upto_region 17 with fail
       have hxl:x<M.length:=by have:=HM4.out;omega
       have hxy:=HOK.out.lt x hxl
       obtain ⟨bm,om,hA2,hbm,yc⟩:=ints_mt (GM.out w9 hw9) hxl (HOK.out.pos x hxl)
       subst hA2
       have zx:(x:Int)<(M.length:Int):=by omega
       have y3:=qa9.cell 1
       go_still_tail 9,(by kernel_rfl)
       change wpList _ _ _ _ _ w9.drew
       clear yc y3 y1 m1
       have CSd:=Lib.hid CS9.out.drew
       have qad:=qa9.drew
       have qmd:=qm9.drew
       have qrd:=qr9.drew
       have qid:=qi9.drew
       have hwd:=hw9.drew
       clear CS9 qa9 qm9 qr9 qi9 hw9
       generalize w9.drew=wd at *
       have m1:=qmd.cell 1
       go_upto_region 18 with (go_at_call 27;refine (mjoin_i _ _ _ w5.heap.size (jnL MM (4*S.length+1) (4*S.length)) _ _ (4*S.length+2) (mt M x) (by omega) (by omega) _ CSd.out.own2 (by have h1:=HML.out;have h2:=HM4.out;(try simp only [jnL_length]);omega) (by have h1:=HML.out;have h2:=HM4.out;(try simp only [jnL_length]);omega) (by have h1:=HML.out;have h2:=HM4.out;(try simp only [jnL_length]);omega)).mono ?_;rintro e w10 ⟨rfl,j10⟩)
       have qa10:=j10.arr qad (by omega)
       have qm10:=j10.arr qmd (by omega)
       have qr10:=j10.arr qrd (by omega)
       have qi10:=j10.arr qid (by omega)
       have hw10:=hwd.trans (j10.below.mono (by omega))
       have CS10:=Lib.hid (CSd.out.join j10)
       clear j10 CSd qad qmd qrd qid hwd m1
       have y1:=CS10.out.box.cell 1
       have m1:=qm10.cell 1
       go_upto_region 19 with (go_at_call 27;refine (mjoin_i _ _ _ w5.heap.size (jnL (jnL MM (4*S.length+1) (4*S.length)) (4*S.length+2) (mt M x)) _ _ (x) (4*S.length+3) (by omega) (by omega) _ CS10.out.own2 (by have h1:=HML.out;have h2:=HM4.out;(try simp only [jnL_length]);omega) (by have h1:=HML.out;have h2:=HM4.out;(try simp only [jnL_length]);omega) (by have h1:=HML.out;have h2:=HM4.out;(try simp only [jnL_length]);omega)).mono ?_;rintro e w11 ⟨rfl,j11⟩)
       have qa11:=j11.arr qa10 (by omega)
       have qm11:=j11.arr qm10 (by omega)
       have qr11:=j11.arr qr10 (by omega)
       have qi11:=j11.arr qi10 (by omega)
       have hw11:=hw10.trans (j11.below.mono (by omega))
       have CS11:=Lib.hid (CS10.out.join j11)
       clear j11 CS10 qa10 qm10 qr10 qi10 hw10 y1 m1
       have y0:=CS11.out.box.cell 0
       have y1:=CS11.out.box.cell 1
       have y2:=CS11.out.box.cell 2
       have x0:=qr11.cell 0
       have x1:=qr11.cell 1
       have x2:=qr11.cell 2
       have f0:=qr11.frozen 0
       have f1:=qr11.frozen 1
       have f2:=qr11.frozen 2
       have z0:=qi11.cell 0
       have z1:=qi11.cell 1
       have z2:=qi11.cell 2
       have z3:=qi11.cell 3
       have z4:=qi11.cell 4
       have g0:=qi11.frozen 0
       have g1:=qi11.frozen 1
       have g2:=qi11.frozen 2
       have g3:=qi11.frozen 3
       have g4:=qi11.frozen 4
       have HA:=Lib.hid (Arr.stored qr11 qi11 (by omega) (.slice B1 SS.length n1) (.slice B2 MM.length n2) (.int .i64 (L)) (.int .i64 2) (.int .i64 (S.length:Int)) (.int .i64 0) (.int .i64 0) (.bool false))
       have HB:=Lib.hid (below_stored hw11 (r:=w.heap.size+2) (q:=w.heap.size+3) (by omega) (by omega) (.slice B1 SS.length n1) (.slice B2 MM.length n2) (.int .i64 (L)) (.int .i64 2) (.int .i64 (S.length:Int)) (.int .i64 0) (.int .i64 0) (.bool false))
       have H1:=Lib.hid (CS11.out.own1.stored (r:=w.heap.size+2) (q:=w.heap.size+3) (by omega) (by omega) (.slice B1 SS.length n1) (.slice B2 MM.length n2) (.int .i64 (L)) (.int .i64 2) (.int .i64 (S.length:Int)) (.int .i64 0) (.int .i64 0) (.bool false))
       have H2:=Lib.hid (CS11.out.own2.stored (r:=w.heap.size+2) (q:=w.heap.size+3) (by omega) (by omega) (.slice B1 SS.length n1) (.slice B2 MM.length n2) (.int .i64 (L)) (.int .i64 2) (.int .i64 (S.length:Int)) (.int .i64 0) (.int .i64 0) (.bool false))
       clear qr11 qi11 qa11 qm11 hw11
       go_wp2_with fail
       refine bodyPost_ret (v:=.tuple #[.agg #[.slice B1 SS.length n1,.slice B2 MM.length n2,.int .i64 (L)],.agg #[.int .i64 2,.int .i64 (S.length:Int),.int .i64 0,.int .i64 0,.bool false],.int .i64 0]) (results_cct Try.results13 _ _ (w.heap.size+2) (w.heap.size+3) 24 26 _ _ _ _ rfl HA.out.1 rfl HA.out.2 Try.underlying24 rfl info_diag Try.underlying26 rfl info_move) rfl ?_
       exact ⟨⟨_,_,SS,_,_,_,0,rfl,⟨_,_,_,_,_,rfl⟩,H1.out.base (Nat.zero_le _),H2.out.base (Nat.zero_le _),fun _=>by rw [HSS.out,HMM.out];exact curl_edge (.inl ⟨.inl ⟨rfl,rfl⟩,.inl ⟨rfl,rfl⟩⟩) hxl⟩,HB.out⟩
   · go_upto_region 14 with (go_at_call 27;refine (mjoin_i _ _ _ w5.heap.size (MM) _ _ (4*S.length+2) (4*S.length+1) (by omega) (by omega) _ HCS.out.own2 (by have h1:=HML.out;have h2:=HM4.out;(try simp only [jnL_length]);omega) (by have h1:=HML.out;have h2:=HM4.out;(try simp only [jnL_length]);omega) (by have h1:=HML.out;have h2:=HM4.out;(try simp only [jnL_length]);omega)).mono ?_;rintro e w9 ⟨rfl,j9⟩)
     have qa9:=j9.arr qa8 (by omega)
     have qm9:=j9.arr qm8 (by omega)
     have qr9:=j9.arr qr8 (by omega)
     have qi9:=j9.arr qi8 (by omega)
     have hw9:=hw8.trans (j9.below.mono (by omega))
     have CS9:=Lib.hid (HCS.out.join j9)
     clear j9 HCS qa8 qm8 qr8 qi8 hw8 y1 m3 m4
     have m1:=qm9.cell 1
     have y1:=CS9.out.box.cell 1
     by_cases hX:X<0
     · go_upto_region 16 with (go_at_call 27;refine (mjoin_i _ _ _ w5.heap.size (jnL MM (4*S.length+2) (4*S.length+1)) _ _ (4*S.length+3) (4*S.length) (by omega) (by omega) _ CS9.out.own2 (by have h1:=HML.out;have h2:=HM4.out;(try simp only [jnL_length]);omega) (by have h1:=HML.out;have h2:=HM4.out;(try simp only [jnL_length]);omega) (by have h1:=HML.out;have h2:=HM4.out;(try simp only [jnL_length]);omega)).mono ?_;rintro e w10 ⟨rfl,j10⟩)
       have qa10:=j10.arr qa9 (by omega)
       have qm10:=j10.arr qm9 (by omega)
       have qr10:=j10.arr qr9 (by omega)
       have qi10:=j10.arr qi9 (by omega)
       have hw10:=hw9.trans (j10.below.mono (by omega))
       have CS10:=Lib.hid (CS9.out.join j10)
       clear j10 CS9 qa9 qm9 qr9 qi9 hw9 y1 m1
       have y2:=CS10.out.box.cell 2
       have f2:=CS10.out.box.frozen 2
       have l0:=HOK.out.l0
       have l1:=HOK.out.l1
       go_upto_region 19 with fail
       clear y2 f2
       have hg6:w5.heap.size<=w6.heap.size:=HB6.out
       have qa11:=qa10.far (p:=⟨w6.heap.size,2,none⟩) (show w.heap.size≠w6.heap.size by omega) (.int .i64 (L-1))
       have qm11:=qm10.far (p:=⟨w6.heap.size,2,none⟩) (show w.heap.size+1≠w6.heap.size by omega) (.int .i64 (L-1))
       have qr11:=qr10.far (p:=⟨w6.heap.size,2,none⟩) (show w.heap.size+2≠w6.heap.size by omega) (.int .i64 (L-1))
       have qi11:=qi10.far (p:=⟨w6.heap.size,2,none⟩) (show w.heap.size+3≠w6.heap.size by omega) (.int .i64 (L-1))
       have hw11:=hw10.setCell (p:=⟨w6.heap.size,2,none⟩) (show w.heap.size<=w6.heap.size by omega) (.int .i64 (L-1))
       have CS11:=Lib.hid (CS10.out.loops (L2:=L-1))
       clear qa10 qm10 qr10 qi10 hw10 CS10 l0 l1
       generalize (w10.setCell ⟨w6.heap.size,2,none⟩ (.int .i64 (L-1)))=w11 at *
       have y0:=CS11.out.box.cell 0
       have y1:=CS11.out.box.cell 1
       have y2:=CS11.out.box.cell 2
       have x0:=qr11.cell 0
       have x1:=qr11.cell 1
       have x2:=qr11.cell 2
       have f0:=qr11.frozen 0
       have f1:=qr11.frozen 1
       have f2:=qr11.frozen 2
       have z0:=qi11.cell 0
       have z1:=qi11.cell 1
       have z2:=qi11.cell 2
       have z3:=qi11.cell 3
       have z4:=qi11.cell 4
       have g0:=qi11.frozen 0
       have g1:=qi11.frozen 1
       have g2:=qi11.frozen 2
       have g3:=qi11.frozen 3
       have g4:=qi11.frozen 4
       have HA:=Lib.hid (Arr.stored qr11 qi11 (by omega) (.slice B1 SS.length n1) (.slice B2 MM.length n2) (.int .i64 (L-1)) (.int .i64 2) (.int .i64 (S.length:Int)) (.int .i64 0) (.int .i64 0) (.bool false))
       have HB:=Lib.hid (below_stored hw11 (r:=w.heap.size+2) (q:=w.heap.size+3) (by omega) (by omega) (.slice B1 SS.length n1) (.slice B2 MM.length n2) (.int .i64 (L-1)) (.int .i64 2) (.int .i64 (S.length:Int)) (.int .i64 0) (.int .i64 0) (.bool false))
       have H1:=Lib.hid (CS11.out.own1.stored (r:=w.heap.size+2) (q:=w.heap.size+3) (by omega) (by omega) (.slice B1 SS.length n1) (.slice B2 MM.length n2) (.int .i64 (L-1)) (.int .i64 2) (.int .i64 (S.length:Int)) (.int .i64 0) (.int .i64 0) (.bool false))
       have H2:=Lib.hid (CS11.out.own2.stored (r:=w.heap.size+2) (q:=w.heap.size+3) (by omega) (by omega) (.slice B1 SS.length n1) (.slice B2 MM.length n2) (.int .i64 (L-1)) (.int .i64 2) (.int .i64 (S.length:Int)) (.int .i64 0) (.int .i64 0) (.bool false))
       clear qr11 qi11 qa11 qm11 hw11
       go_wp2_with fail
       refine bodyPost_ret (v:=.tuple #[.agg #[.slice B1 SS.length n1,.slice B2 MM.length n2,.int .i64 (L-1)],.agg #[.int .i64 2,.int .i64 (S.length:Int),.int .i64 0,.int .i64 0,.bool false],.int .i64 0]) (results_cct Try.results13 _ _ (w.heap.size+2) (w.heap.size+3) 24 26 _ _ _ _ rfl HA.out.1 rfl HA.out.2 Try.underlying24 rfl info_diag Try.underlying26 rfl info_move) rfl ?_
       exact ⟨⟨_,_,SS,_,_,_,0,rfl,⟨_,_,_,_,_,rfl⟩,H1.out.base (Nat.zero_le _),H2.out.base (Nat.zero_le _),fun _=>by rw [HSS.out,HMM.out];exact curl_loop (.inr ⟨.inl ⟨rfl,rfl⟩,.inr ⟨rfl,rfl⟩⟩)⟩,HB.out⟩
     · obtain ⟨x,rfl⟩:∃ x:Nat,X=(x:Int):=⟨X.toNat,by omega⟩
       go_upto_region 17 with fail
       have hxl:x<M.length:=by have:=HM4.out;omega
       have hxy:=HOK.out.lt x hxl
       obtain ⟨bm,om,hA2,hbm,yc⟩:=ints_mt (GM.out w9 hw9) hxl (HOK.out.pos x hxl)
       subst hA2
       have zx:(x:Int)<(M.length:Int):=by omega
       have y3:=qa9.cell 1
       go_still_tail 9,(by kernel_rfl)
       change wpList _ _ _ _ _ w9.drew
       clear yc y3 y1 m1
       have CSd:=Lib.hid CS9.out.drew
       have qad:=qa9.drew
       have qmd:=qm9.drew
       have qrd:=qr9.drew
       have qid:=qi9.drew
       have hwd:=hw9.drew
       clear CS9 qa9 qm9 qr9 qi9 hw9
       generalize w9.drew=wd at *
       have m1:=qmd.cell 1
       go_upto_region 18 with (go_at_call 27;refine (mjoin_i _ _ _ w5.heap.size (jnL MM (4*S.length+2) (4*S.length+1)) _ _ (4*S.length+3) (mt M x) (by omega) (by omega) _ CSd.out.own2 (by have h1:=HML.out;have h2:=HM4.out;(try simp only [jnL_length]);omega) (by have h1:=HML.out;have h2:=HM4.out;(try simp only [jnL_length]);omega) (by have h1:=HML.out;have h2:=HM4.out;(try simp only [jnL_length]);omega)).mono ?_;rintro e w10 ⟨rfl,j10⟩)
       have qa10:=j10.arr qad (by omega)
       have qm10:=j10.arr qmd (by omega)
       have qr10:=j10.arr qrd (by omega)
       have qi10:=j10.arr qid (by omega)
       have hw10:=hwd.trans (j10.below.mono (by omega))
       have CS10:=Lib.hid (CSd.out.join j10)
       clear j10 CSd qad qmd qrd qid hwd m1
       have y1:=CS10.out.box.cell 1
       have m1:=qm10.cell 1
       go_upto_region 19 with (go_at_call 27;refine (mjoin_i _ _ _ w5.heap.size (jnL (jnL MM (4*S.length+2) (4*S.length+1)) (4*S.length+3) (mt M x)) _ _ (x) (4*S.length) (by omega) (by omega) _ CS10.out.own2 (by have h1:=HML.out;have h2:=HM4.out;(try simp only [jnL_length]);omega) (by have h1:=HML.out;have h2:=HM4.out;(try simp only [jnL_length]);omega) (by have h1:=HML.out;have h2:=HM4.out;(try simp only [jnL_length]);omega)).mono ?_;rintro e w11 ⟨rfl,j11⟩)
       have qa11:=j11.arr qa10 (by omega)
       have qm11:=j11.arr qm10 (by omega)
       have qr11:=j11.arr qr10 (by omega)
       have qi11:=j11.arr qi10 (by omega)
       have hw11:=hw10.trans (j11.below.mono (by omega))
       have CS11:=Lib.hid (CS10.out.join j11)
       clear j11 CS10 qa10 qm10 qr10 qi10 hw10 y1 m1
       have y0:=CS11.out.box.cell 0
       have y1:=CS11.out.box.cell 1
       have y2:=CS11.out.box.cell 2
       have x0:=qr11.cell 0
       have x1:=qr11.cell 1
       have x2:=qr11.cell 2
       have f0:=qr11.frozen 0
       have f1:=qr11.frozen 1
       have f2:=qr11.frozen 2
       have z0:=qi11.cell 0
       have z1:=qi11.cell 1
       have z2:=qi11.cell 2
       have z3:=qi11.cell 3
       have z4:=qi11.cell 4
       have g0:=qi11.frozen 0
       have g1:=qi11.frozen 1
       have g2:=qi11.frozen 2
       have g3:=qi11.frozen 3
       have g4:=qi11.frozen 4
       have HA:=Lib.hid (Arr.stored qr11 qi11 (by omega) (.slice B1 SS.length n1) (.slice B2 MM.length n2) (.int .i64 (L)) (.int .i64 2) (.int .i64 (S.length:Int)) (.int .i64 0) (.int .i64 0) (.bool false))
       have HB:=Lib.hid (below_stored hw11 (r:=w.heap.size+2) (q:=w.heap.size+3) (by omega) (by omega) (.slice B1 SS.length n1) (.slice B2 MM.length n2) (.int .i64 (L)) (.int .i64 2) (.int .i64 (S.length:Int)) (.int .i64 0) (.int .i64 0) (.bool false))
       have H1:=Lib.hid (CS11.out.own1.stored (r:=w.heap.size+2) (q:=w.heap.size+3) (by omega) (by omega) (.slice B1 SS.length n1) (.slice B2 MM.length n2) (.int .i64 (L)) (.int .i64 2) (.int .i64 (S.length:Int)) (.int .i64 0) (.int .i64 0) (.bool false))
       have H2:=Lib.hid (CS11.out.own2.stored (r:=w.heap.size+2) (q:=w.heap.size+3) (by omega) (by omega) (.slice B1 SS.length n1) (.slice B2 MM.length n2) (.int .i64 (L)) (.int .i64 2) (.int .i64 (S.length:Int)) (.int .i64 0) (.int .i64 0) (.bool false))
       clear qr11 qi11 qa11 qm11 hw11
       go_wp2_with fail
       refine bodyPost_ret (v:=.tuple #[.agg #[.slice B1 SS.length n1,.slice B2 MM.length n2,.int .i64 (L)],.agg #[.int .i64 2,.int .i64 (S.length:Int),.int .i64 0,.int .i64 0,.bool false],.int .i64 0]) (results_cct Try.results13 _ _ (w.heap.size+2) (w.heap.size+3) 24 26 _ _ _ _ rfl HA.out.1 rfl HA.out.2 Try.underlying24 rfl info_diag Try.underlying26 rfl info_move) rfl ?_
       exact ⟨⟨_,_,SS,_,_,_,0,rfl,⟨_,_,_,_,_,rfl⟩,H1.out.base (Nat.zero_le _),H2.out.base (Nat.zero_le _),fun _=>by rw [HSS.out,HMM.out];exact curl_edge (.inr ⟨.inl ⟨rfl,rfl⟩,.inr ⟨rfl,rfl⟩⟩) hxl⟩,HB.out⟩
   · go_upto_region 14 with (go_at_call 27;refine (mjoin_i _ _ _ w5.heap.size (MM) _ _ (4*S.length+3) (4*S.length) (by omega) (by omega) _ HCS.out.own2 (by have h1:=HML.out;have h2:=HM4.out;(try simp only [jnL_length]);omega) (by have h1:=HML.out;have h2:=HM4.out;(try simp only [jnL_length]);omega) (by have h1:=HML.out;have h2:=HM4.out;(try simp only [jnL_length]);omega)).mono ?_;rintro e w9 ⟨rfl,j9⟩)
     have qa9:=j9.arr qa8 (by omega)
     have qm9:=j9.arr qm8 (by omega)
     have qr9:=j9.arr qr8 (by omega)
     have qi9:=j9.arr qi8 (by omega)
     have hw9:=hw8.trans (j9.below.mono (by omega))
     have CS9:=Lib.hid (HCS.out.join j9)
     clear j9 HCS qa8 qm8 qr8 qi8 hw8 y1 m3 m4
     have m1:=qm9.cell 1
     have y1:=CS9.out.box.cell 1
     by_cases hX:X<0
     · go_upto_region 16 with (go_at_call 27;refine (mjoin_i _ _ _ w5.heap.size (jnL MM (4*S.length+3) (4*S.length)) _ _ (4*S.length+2) (4*S.length+1) (by omega) (by omega) _ CS9.out.own2 (by have h1:=HML.out;have h2:=HM4.out;(try simp only [jnL_length]);omega) (by have h1:=HML.out;have h2:=HM4.out;(try simp only [jnL_length]);omega) (by have h1:=HML.out;have h2:=HM4.out;(try simp only [jnL_length]);omega)).mono ?_;rintro e w10 ⟨rfl,j10⟩)
       have qa10:=j10.arr qa9 (by omega)
       have qm10:=j10.arr qm9 (by omega)
       have qr10:=j10.arr qr9 (by omega)
       have qi10:=j10.arr qi9 (by omega)
       have hw10:=hw9.trans (j10.below.mono (by omega))
       have CS10:=Lib.hid (CS9.out.join j10)
       clear j10 CS9 qa9 qm9 qr9 qi9 hw9 y1 m1
       have y2:=CS10.out.box.cell 2
       have f2:=CS10.out.box.frozen 2
       have l0:=HOK.out.l0
       have l1:=HOK.out.l1
       go_upto_region 19 with fail
       clear y2 f2
       have hg6:w5.heap.size<=w6.heap.size:=HB6.out
       have qa11:=qa10.far (p:=⟨w6.heap.size,2,none⟩) (show w.heap.size≠w6.heap.size by omega) (.int .i64 (L-1))
       have qm11:=qm10.far (p:=⟨w6.heap.size,2,none⟩) (show w.heap.size+1≠w6.heap.size by omega) (.int .i64 (L-1))
       have qr11:=qr10.far (p:=⟨w6.heap.size,2,none⟩) (show w.heap.size+2≠w6.heap.size by omega) (.int .i64 (L-1))
       have qi11:=qi10.far (p:=⟨w6.heap.size,2,none⟩) (show w.heap.size+3≠w6.heap.size by omega) (.int .i64 (L-1))
       have hw11:=hw10.setCell (p:=⟨w6.heap.size,2,none⟩) (show w.heap.size<=w6.heap.size by omega) (.int .i64 (L-1))
       have CS11:=Lib.hid (CS10.out.loops (L2:=L-1))
       clear qa10 qm10 qr10 qi10 hw10 CS10 l0 l1
       generalize (w10.setCell ⟨w6.heap.size,2,none⟩ (.int .i64 (L-1)))=w11 at *
       have y0:=CS11.out.box.cell 0
       have y1:=CS11.out.box.cell 1
       have y2:=CS11.out.box.cell 2
       have x0:=qr11.cell 0
       have x1:=qr11.cell 1
       have x2:=qr11.cell 2
       have f0:=qr11.frozen 0
       have f1:=qr11.frozen 1
       have f2:=qr11.frozen 2
       have z0:=qi11.cell 0
       have z1:=qi11.cell 1
       have z2:=qi11.cell 2
       have z3:=qi11.cell 3
       have z4:=qi11.cell 4
       have g0:=qi11.frozen 0
       have g1:=qi11.frozen 1
       have g2:=qi11.frozen 2
       have g3:=qi11.frozen 3
       have g4:=qi11.frozen 4
       have HA:=Lib.hid (Arr.stored qr11 qi11 (by omega) (.slice B1 SS.length n1) (.slice B2 MM.length n2) (.int .i64 (L-1)) (.int .i64 2) (.int .i64 (S.length:Int)) (.int .i64 0) (.int .i64 0) (.bool false))
       have HB:=Lib.hid (below_stored hw11 (r:=w.heap.size+2) (q:=w.heap.size+3) (by omega) (by omega) (.slice B1 SS.length n1) (.slice B2 MM.length n2) (.int .i64 (L-1)) (.int .i64 2) (.int .i64 (S.length:Int)) (.int .i64 0) (.int .i64 0) (.bool false))
       have H1:=Lib.hid (CS11.out.own1.stored (r:=w.heap.size+2) (q:=w.heap.size+3) (by omega) (by omega) (.slice B1 SS.length n1) (.slice B2 MM.length n2) (.int .i64 (L-1)) (.int .i64 2) (.int .i64 (S.length:Int)) (.int .i64 0) (.int .i64 0) (.bool false))
       have H2:=Lib.hid (CS11.out.own2.stored (r:=w.heap.size+2) (q:=w.heap.size+3) (by omega) (by omega) (.slice B1 SS.length n1) (.slice B2 MM.length n2) (.int .i64 (L-1)) (.int .i64 2) (.int .i64 (S.length:Int)) (.int .i64 0) (.int .i64 0) (.bool false))
       clear qr11 qi11 qa11 qm11 hw11
       go_wp2_with fail
       refine bodyPost_ret (v:=.tuple #[.agg #[.slice B1 SS.length n1,.slice B2 MM.length n2,.int .i64 (L-1)],.agg #[.int .i64 2,.int .i64 (S.length:Int),.int .i64 0,.int .i64 0,.bool false],.int .i64 0]) (results_cct Try.results13 _ _ (w.heap.size+2) (w.heap.size+3) 24 26 _ _ _ _ rfl HA.out.1 rfl HA.out.2 Try.underlying24 rfl info_diag Try.underlying26 rfl info_move) rfl ?_
       exact ⟨⟨_,_,SS,_,_,_,0,rfl,⟨_,_,_,_,_,rfl⟩,H1.out.base (Nat.zero_le _),H2.out.base (Nat.zero_le _),fun _=>by rw [HSS.out,HMM.out];exact curl_loop (.inl ⟨.inr ⟨rfl,rfl⟩,.inl ⟨rfl,rfl⟩⟩)⟩,HB.out⟩
     · obtain ⟨x,rfl⟩:∃ x:Nat,X=(x:Int):=⟨X.toNat,by omega⟩
       go_upto_region 17 with fail
       have hxl:x<M.length:=by have:=HM4.out;omega
       have hxy:=HOK.out.lt x hxl
       obtain ⟨bm,om,hA2,hbm,yc⟩:=ints_mt (GM.out w9 hw9) hxl (HOK.out.pos x hxl)
       subst hA2
       have zx:(x:Int)<(M.length:Int):=by omega
       have y3:=qa9.cell 1
       go_still_tail 9,(by kernel_rfl)
       change wpList _ _ _ _ _ w9.drew
       clear yc y3 y1 m1
       have CSd:=Lib.hid CS9.out.drew
       have qad:=qa9.drew
       have qmd:=qm9.drew
       have qrd:=qr9.drew
       have qid:=qi9.drew
       have hwd:=hw9.drew
       clear CS9 qa9 qm9 qr9 qi9 hw9
       generalize w9.drew=wd at *
       have m1:=qmd.cell 1
       go_upto_region 18 with (go_at_call 27;refine (mjoin_i _ _ _ w5.heap.size (jnL MM (4*S.length+3) (4*S.length)) _ _ (4*S.length+2) (mt M x) (by omega) (by omega) _ CSd.out.own2 (by have h1:=HML.out;have h2:=HM4.out;(try simp only [jnL_length]);omega) (by have h1:=HML.out;have h2:=HM4.out;(try simp only [jnL_length]);omega) (by have h1:=HML.out;have h2:=HM4.out;(try simp only [jnL_length]);omega)).mono ?_;rintro e w10 ⟨rfl,j10⟩)
       have qa10:=j10.arr qad (by omega)
       have qm10:=j10.arr qmd (by omega)
       have qr10:=j10.arr qrd (by omega)
       have qi10:=j10.arr qid (by omega)
       have hw10:=hwd.trans (j10.below.mono (by omega))
       have CS10:=Lib.hid (CSd.out.join j10)
       clear j10 CSd qad qmd qrd qid hwd m1
       have y1:=CS10.out.box.cell 1
       have m1:=qm10.cell 1
       go_upto_region 19 with (go_at_call 27;refine (mjoin_i _ _ _ w5.heap.size (jnL (jnL MM (4*S.length+3) (4*S.length)) (4*S.length+2) (mt M x)) _ _ (x) (4*S.length+1) (by omega) (by omega) _ CS10.out.own2 (by have h1:=HML.out;have h2:=HM4.out;(try simp only [jnL_length]);omega) (by have h1:=HML.out;have h2:=HM4.out;(try simp only [jnL_length]);omega) (by have h1:=HML.out;have h2:=HM4.out;(try simp only [jnL_length]);omega)).mono ?_;rintro e w11 ⟨rfl,j11⟩)
       have qa11:=j11.arr qa10 (by omega)
       have qm11:=j11.arr qm10 (by omega)
       have qr11:=j11.arr qr10 (by omega)
       have qi11:=j11.arr qi10 (by omega)
       have hw11:=hw10.trans (j11.below.mono (by omega))
       have CS11:=Lib.hid (CS10.out.join j11)
       clear j11 CS10 qa10 qm10 qr10 qi10 hw10 y1 m1
       have y0:=CS11.out.box.cell 0
       have y1:=CS11.out.box.cell 1
       have y2:=CS11.out.box.cell 2
       have x0:=qr11.cell 0
       have x1:=qr11.cell 1
       have x2:=qr11.cell 2
       have f0:=qr11.frozen 0
       have f1:=qr11.frozen 1
       have f2:=qr11.frozen 2
       have z0:=qi11.cell 0
       have z1:=qi11.cell 1
       have z2:=qi11.cell 2
       have z3:=qi11.cell 3
       have z4:=qi11.cell 4
       have g0:=qi11.frozen 0
       have g1:=qi11.frozen 1
       have g2:=qi11.frozen 2
       have g3:=qi11.frozen 3
       have g4:=qi11.frozen 4
       have HA:=Lib.hid (Arr.stored qr11 qi11 (by omega) (.slice B1 SS.length n1) (.slice B2 MM.length n2) (.int .i64 (L)) (.int .i64 2) (.int .i64 (S.length:Int)) (.int .i64 0) (.int .i64 0) (.bool false))
       have HB:=Lib.hid (below_stored hw11 (r:=w.heap.size+2) (q:=w.heap.size+3) (by omega) (by omega) (.slice B1 SS.length n1) (.slice B2 MM.length n2) (.int .i64 (L)) (.int .i64 2) (.int .i64 (S.length:Int)) (.int .i64 0) (.int .i64 0) (.bool false))
       have H1:=Lib.hid (CS11.out.own1.stored (r:=w.heap.size+2) (q:=w.heap.size+3) (by omega) (by omega) (.slice B1 SS.length n1) (.slice B2 MM.length n2) (.int .i64 (L)) (.int .i64 2) (.int .i64 (S.length:Int)) (.int .i64 0) (.int .i64 0) (.bool false))
       have H2:=Lib.hid (CS11.out.own2.stored (r:=w.heap.size+2) (q:=w.heap.size+3) (by omega) (by omega) (.slice B1 SS.length n1) (.slice B2 MM.length n2) (.int .i64 (L)) (.int .i64 2) (.int .i64 (S.length:Int)) (.int .i64 0) (.int .i64 0) (.bool false))
       clear qr11 qi11 qa11 qm11 hw11
       go_wp2_with fail
       refine bodyPost_ret (v:=.tuple #[.agg #[.slice B1 SS.length n1,.slice B2 MM.length n2,.int .i64 (L)],.agg #[.int .i64 2,.int .i64 (S.length:Int),.int .i64 0,.int .i64 0,.bool false],.int .i64 0]) (results_cct Try.results13 _ _ (w.heap.size+2) (w.heap.size+3) 24 26 _ _ _ _ rfl HA.out.1 rfl HA.out.2 Try.underlying24 rfl info_diag Try.underlying26 rfl info_move) rfl ?_
       exact ⟨⟨_,_,SS,_,_,_,0,rfl,⟨_,_,_,_,_,rfl⟩,H1.out.base (Nat.zero_le _),H2.out.base (Nat.zero_le _),fun _=>by rw [HSS.out,HMM.out];exact curl_edge (.inl ⟨.inr ⟨rfl,rfl⟩,.inl ⟨rfl,rfl⟩⟩) hxl⟩,HB.out⟩
 · have x0:=qr5.cell 0
   have x1:=qr5.cell 1
   have x2:=qr5.cell 2
   have f0:=qr5.frozen 0
   have f1:=qr5.frozen 1
   have f2:=qr5.frozen 2
   have z0:=qi5.cell 0
   have z1:=qi5.cell 1
   have z2:=qi5.cell 2
   have z3:=qi5.cell 3
   have z4:=qi5.cell 4
   have g0:=qi5.frozen 0
   have g1:=qi5.frozen 1
   have g2:=qi5.frozen 2
   have g3:=qi5.frozen 3
   have g4:=qi5.frozen 4
   have HA:=Lib.hid (Arr.stored qr5 qi5 (by omega) (.slice none 0 0) (.slice none 0 0) (.int .i64 0) (.int .i64 0) (.int .i64 0) (.int .i64 0) (.int .i64 0) (.bool false))
   have HB:=Lib.hid (below_stored hw5 (r:=w.heap.size+2) (q:=w.heap.size+3) (by omega) (by omega) (.slice none 0 0) (.slice none 0 0) (.int .i64 0) (.int .i64 0) (.int .i64 0) (.int .i64 0) (.int .i64 0) (.bool false))
   clear qr5 qi5 qa5 qm5 hw5
   go_wp2_with fail
   refine bodyPost_ret (v:=.tuple #[.agg #[.slice none 0 0,.slice none 0 0,.int .i64 0],.agg #[.int .i64 0,.int .i64 0,.int .i64 0,.int .i64 0,.bool false],.int .i64 kk]) (results_cct Try.results13 _ _ (w.heap.size+2) (w.heap.size+3) 24 26 _ _ _ _ rfl HA.out.1 rfl HA.out.2 Try.underlying24 rfl info_diag Try.underlying26 rfl info_move) rfl ?_
   exact ⟨MvE.err hk,HB.out⟩
set_option maxHeartbeats 1000000 in
theorem pokeP_any (gn gf n f0 side:Nat) (w:World) (hn:w.cell? ⟨gn,0,none⟩=some (.int .i64 (n:Int))) (hf:w.cell? ⟨gf,0,none⟩=some (.int .i64 (f0:Int))) (l1:n<100) (l2:f0<4) (l3:side<4) :
 Calls Try.prog 34 #[.int .i64 (side:Nat),.pointer (some ⟨gn,0,none⟩),.pointer (some ⟨gf,0,none⟩)] w fun e w'=>e=.returned (.int .i64 (4*n+(side+4-f0)%4:Nat))/\w=w':=by
 have K:=Lib.hid (place_any n f0 side w (by omega) l2 l3)
 generalize 4*n+(side+4-f0)%4=r at *
 go_enter Try.func34,Try.ntmps34
 go_wp2_with (go_at_call 35;refine K.out.mono ?_;rintro e w5 ⟨rfl,rfl⟩)
 go_ret
 exact ⟨rfl,rfl⟩
set_option maxHeartbeats 1000000 in
theorem pokeQ_any (gn gf n f1 side:Nat) (w:World) (hn:w.cell? ⟨gn,0,none⟩=some (.int .i64 (n:Int))) (hf:w.cell? ⟨gf,1,none⟩=some (.int .i64 (f1:Int))) (l1:n<100) (l2:f1<4) (l3:side<4) :
 Calls Try.prog 36 #[.int .i64 (side:Nat),.pointer (some ⟨gn,0,none⟩),.pointer (some ⟨gf,0,none⟩)] w fun e w'=>e=.returned (.int .i64 (4*(n+1)+(side+4-f1)%4:Nat))/\w=w':=by
 have K:=Lib.hid (place_any (n+1) f1 side w (by omega) l2 l3)
 generalize 4*(n+1)+(side+4-f1)%4=r at *
 have e1:(n:Int)+1=((n+1:Nat):Int):=by omega
 obtain ⟨m,hm⟩:∃ m,m=n+1:=⟨_,rfl⟩
 rw [<- hm] at K e1
 clear hm
 go_enter Try.func36,Try.ntmps36
 go_wp2_with (go_at_call 35;refine K.out.mono ?_;rintro e w5 ⟨rfl,rfl⟩)
 go_ret
 exact ⟨rfl,rfl⟩
def JnK (B g:Nat) (W W':World):Prop:=Below B W W'/\∀ k t cs,Arr W k t cs->t≠3->k≠g->Arr W' k t cs
theorem JnK.trans {B g:Nat} {W W1 W2:World} (h:JnK B g W W1) (k:JnK B g W1 W2):JnK B g W W2:=⟨h.1.trans k.1,fun z t cs a b c=>k.2 z t cs (h.2 z t cs a b c) b c⟩
theorem CuS.jnk {B g n c:Nat} {A:Option Addr} {v1:Value} {S M M2:List Int} {L:Int} {W W2:World} (s:CuS B g W v1 A n c S M L) (j:JnR B A n c M2 W W2):JnK B g W W2:=by
 obtain ⟨h1,b,hA,hb,o⟩:=j
 refine ⟨o.below hb,fun k t cs a ht _=>a.onl o (fun e=>?_)⟩
 exact s.own2.apart a (Ne.symm ht) (by rw [hA,e];rfl)
theorem CuS.jnkL {B g:Nat} {W:World} (hg:B<=g) (L:Int):JnK B g W (W.setCell ⟨g,2,none⟩ (.int .i64 L)) :=
 ⟨(Below.refl _ _).setCell (p:=⟨g,2,none⟩) hg _,fun k t cs a _ hk=>a.far (p:=⟨g,2,none⟩) hk _⟩
theorem JnK.drew {B g:Nat} (W:World):JnK B g W W.drew:=⟨(Below.refl _ _).drew,fun k t cs a _ _=>a⟩
set_option maxHeartbeats 2000000 in
theorem leadL_any (B g gd n c:Nat) (A:Option Addr) (v1:Value) (S M:List Int) (L z:Int) (a b:Nat) (w:World) (s:CuS B g w v1 A n c S M L) (hg:B<=g) (hz:z<0) (ha:a<M.length) (hb:b<M.length) (hl:M.length<=1000) (hL:0<=L+5/\L<=100) :
 Calls Try.prog 37 #[.int .i64 z,.int .i64 (a:Nat),.int .i64 (b:Nat),.pointer (some ⟨g,0,none⟩),.pointer (some ⟨gd,0,none⟩)] w fun e w'=>e=.returned (.tuple #[])/\CuS B g w' v1 A n c S (jnL M a b) (L-1)/\JnK B g w w':=by
 have KJ:=Lib.hid (mjoin_any A n c B M a b w s.own2 ha hb hl)
 have HS:=Lib.hid s
 have y1:=s.box.cell 1
 obtain ⟨l0,l1⟩:=hL
 clear s
 go_enter Try.func37,Try.ntmps37
 go_upto_region 2 with (go_at_call 27;refine KJ.out.mono ?_;rintro e w5 ⟨rfl,j5⟩)
 have HS5:=Lib.hid (HS.out.join j5)
 have HK:=Lib.hid (HS.out.jnk j5)
 clear j5 y1
 have y2:=HS5.out.box.cell 2
 have f2:=HS5.out.box.frozen 2
 go_wp2_with fail
 refine bodyPost_ret (results_none (by rfl) _ _ _) rfl ?_
 exact ⟨rfl,HS5.out.loops,HK.out.trans (CuS.jnkL hg _)⟩
set_option maxHeartbeats 4000000 in
set_option maxRecDepth 100000 in
theorem leadE_any (B g gd n c:Nat) (A:Option Addr) (v1 vs vm:Value) (S M S0 M0:List Int) (L L0:Int) (z a b:Nat) (w:World) (s:CuS B g w v1 A n c S M L) (hd:Arr w gd 24 [vs,vm,.int .i64 L0]) (hgd:gd≠g) (hM:Ints w vm M0) (hMB:∀ W,Below B w W->Ints W vm M0) (hz:z<M0.length) (h0:0<=M0[z]) (hzl:z<M.length) (hml:mt M0 z<M.length) (ha:a<M.length) (hb:b<M.length) (hl:M.length<=1000) :
 Calls Try.prog 37 #[.int .i64 (z:Nat),.int .i64 (a:Nat),.int .i64 (b:Nat),.pointer (some ⟨g,0,none⟩),.pointer (some ⟨gd,0,none⟩)] w fun e w'=>e=.returned (.tuple #[])/\CuS B g w' v1 A n c S (jnL (jnL M z a) b (mt M0 z)) L/\JnK B g w w':=by
 have KJ:=Lib.hid (mjoin_any A n c B M z a w s.own2 hzl ha hl)
 have KJ2:=Lib.hid (fun W (h:OwnI 3 B W (.slice A n c) (jnL M z a))=>mjoin_any A n c B (jnL M z a) b (mt M0 z) W h (by rw [jnL_length];exact hb) (by rw [jnL_length];exact hml) (by rw [jnL_length];exact hl))
 have HS:=Lib.hid s
 have HD:=Lib.hid hd
 have HMB:=Lib.hid hMB
 have y1:=s.box.cell 1
 have hz':¬ ((z:Int)<0):=by omega
 obtain ⟨A2,c2,rfl,hc2,hx2⟩:=hM
 clear hx2 s hd hMB
 have zz:(z:Int)<(M0.length:Int):=by omega
 go_enter Try.func37,Try.ntmps37
 go_upto_region 4 with (go_at_call 27;refine KJ.out.mono ?_;rintro e w5 ⟨rfl,j5⟩)
 have HS5:=Lib.hid (HS.out.join j5)
 have HK:=Lib.hid (HS.out.jnk j5)
 have HD5:=Lib.hid (HK.out.2 _ _ _ HD.out (by decide) hgd)
 clear j5 y1
 obtain ⟨bm,om,hA2,hbm,yc⟩:=ints_mt (HMB.out w5 HK.out.1) hz h0
 subst hA2
 obtain ⟨q,hq⟩:∃ q,q=mt M0 z:=⟨_,rfl⟩
 rw [<- hq] at yc KJ2
 have HQ:=Lib.hid hq
 clear hq h0 hml
 have y1:=HS5.out.box.cell 1
 have y3:=HD5.out.cell 1
 go_still_tail 8,(by kernel_rfl)
 change wpList _ _ _ _ _ w5.drew
 clear yc y1 y3
 have HSd:=Lib.hid HS5.out.drew
 have HKd:=Lib.hid (HK.out.trans (JnK.drew w5))
 clear HS5 HK HD5 hbm
 generalize w5.drew=wd at *
 go_wp2_with (go_at_call 27;refine (KJ2.out _ HSd.out.own2).mono ?_;rintro e w6 ⟨rfl,j6⟩)
 have H1:=HSd.out.join j6
 have H2:=HKd.out.trans (HSd.out.jnk j6)
 rw [HQ.out] at H1
 have H1:=Lib.hid H1
 have H2:=Lib.hid H2
 clear j6
 go_end0
 exact ⟨rfl,H1.out,H2.out⟩
theorem pkE_lt (n f0 f1:Nat) (i:Fin 8):pkE n f0 f1 i<4*n+8:=by unfold pkE;split <;> omega
def Pb4 (w W:World) (d m:List Value):Prop:=Arr W w.heap.size 42 d/\Arr W (w.heap.size+1) 26 m/\Arr W (w.heap.size+2) 24 [.slice none 0 0,.slice none 0 0,.int .i64 0]/\Arr W (w.heap.size+3) 26 [.int .i64 0,.int .i64 0,.int .i64 0,.int .i64 0,.bool false]/\Below w.heap.size w W
section
variable {w W W2:World} {d m:List Value}
theorem Pb4.start (W:World) (vs vm vl vp:Value) (L kd X Y sg:Int) (ov:Bool) (w:World) (hW:W=((((w.alloc (.cells #[vs,vm,.int .i64 L,vl,vp] 42)).alloc (.cells #[.int .i64 kd,.int .i64 X,.int .i64 Y,.int .i64 sg,.bool ov] 26)).alloc (.cells #[.slice none 0 0,.slice none 0 0,.int .i64 0] 24)).alloc (.cells #[.int .i64 0,.int .i64 0,.int .i64 0,.int .i64 0,.bool false] 26))) :
 Pb4 w W [vs,vm,.int .i64 L,vl,vp] [.int .i64 kd,.int .i64 X,.int .i64 Y,.int .i64 sg,.bool ov]:=by
 subst hW
 exact ⟨(((Arr.new _ _ [_,_,_,_,_]).alloc _).alloc _).alloc _,((Arr.newAt (w.alloc _) _ [_,_,_,_,_] _ (by simp)).alloc _).alloc _,(Arr.newAt ((w.alloc _).alloc _) _ [_,_,_] _ (by simp)).alloc _,Arr.newAt (((w.alloc _).alloc _).alloc _) _ [_,_,_,_,_] _ (by simp),((((Below.refl _ _).alloc (Nat.le_refl _) _).alloc (by simp) _).alloc (by simp <;> omega) _).alloc (by simp <;> omega) _⟩
theorem Pb4.lt (h:Pb4 w W d m):w.heap.size+4<=W.heap.size:=by
 have:=h.2.2.2.1.lt;omega
theorem Pb4.below {B:Nat} (h:Pb4 w W d m) (hb:Below B W W2) (hB:w.heap.size+4<=B):Pb4 w W2 d m :=
 ⟨h.1.below hb (by omega),h.2.1.below hb (by omega),h.2.2.1.below hb (by omega),h.2.2.2.1.below hb (by omega),h.2.2.2.2.trans (hb.mono (by omega))⟩
theorem Pb4.drew (h:Pb4 w W d m):Pb4 w W.drew d m:=⟨h.1,h.2.1,h.2.2.1,h.2.2.2.1,h.2.2.2.2.drew⟩
end
structure PkS (w:World) (B g8 g9 g11 g n c N f0 f1:Nat) (ss mm dd:List Value) (v1:Value) (A:Option Addr) (S2 Mx:List Int) (Lx:Int) (W:World):Prop where
 box:Pb4 w W ss mm
 dg:Arr W g8 24 dd
 num:Arr W g9 3 [.int .i64 (N:Nat)]
 sid:Arr W g11 61 [.int .i64 (f0:Nat),.int .i64 (f1:Nat)]
 cu:CuS B g W v1 A n c S2 Mx Lx
 b8:w.heap.size+4<=g8/\g8<B/\w.heap.size+4<=g9/\g9<B/\B<=g/\g11≠g
section
variable {w:World} {B g8 g9 g11 g n c N f0 f1:Nat} {ss mm dd:List Value} {v1:Value} {A:Option Addr} {S2 Mx:List Int} {Lx:Int} {W:World}
theorem PkS.drew (h:PkS w B g8 g9 g11 g n c N f0 f1 ss mm dd v1 A S2 Mx Lx W):PkS w B g8 g9 g11 g n c N f0 f1 ss mm dd v1 A S2 Mx Lx W.drew:=⟨h.box.drew,h.dg,h.num,h.sid,h.cu.drew,h.b8⟩
theorem PkS.step {Mz:List Int} {Lz:Int} {W2:World} (h:PkS w B g8 g9 g11 g n c N f0 f1 ss mm dd v1 A S2 Mx Lx W) (cu:CuS B g W2 v1 A n c S2 Mz Lz) (j:JnK B g W W2):PkS w B g8 g9 g11 g n c N f0 f1 ss mm dd v1 A S2 Mz Lz W2:=by
 obtain ⟨a,b,d,e,f,i⟩:=h.b8
 exact ⟨h.box.below j.1 (by omega),h.dg.below j.1 b,h.num.below j.1 e,j.2 _ _ _ h.sid (by decide) i,cu,h.b8⟩
theorem PkS.joins (h:PkS w B g8 g9 g11 g n c N f0 f1 ss mm dd v1 A S2 Mx Lx W) (x y:Nat) (hx:x<Mx.length) (hy:y<Mx.length) (hl:Mx.length<=1000) :
 Calls Try.prog 27 #[.slice A n c,.int .i64 (x:Nat),.int .i64 (y:Nat)] W fun e w'=>e=.returned (.tuple #[])/\PkS w B g8 g9 g11 g n c N f0 f1 ss mm dd v1 A S2 (jnL Mx x y) Lx w' :=
 (mjoin_any A n c B Mx x y W h.cu.own2 hx hy hl).mono fun e w' j=>⟨j.1,h.step (h.cu.join j.2) (h.cu.jnk j.2)⟩
theorem PkS.lessL (h:PkS w B g8 g9 g11 g n c N f0 f1 ss mm dd v1 A S2 Mx Lx W) (L2:Int):PkS w B g8 g9 g11 g n c N f0 f1 ss mm dd v1 A S2 Mx L2 (W.setCell ⟨g,2,none⟩ (.int .i64 L2)) :=
 h.step h.cu.loops (CuS.jnkL h.b8.2.2.2.2.1 _)
def LedM (M0 Mx:List Int) (Lx z:Int) (a b:Nat) (Mz:List Int) (Lz:Int):Prop:=(z<0/\Mz=jnL Mx a b/\Lz=Lx-1)\/(∃ k:Nat,z=(k:Int)/\k<M0.length/\Mz=jnL (jnL Mx k a) b (mt M0 k)/\Lz=Lx)
theorem PkS.leads {vs vm:Value} {L0:Int} {M0:List Int} (h:PkS w B g8 g9 g11 g n c N f0 f1 ss mm [vs,vm,.int .i64 L0] v1 A S2 Mx Lx W) (z:Int) (a b:Nat) (hM:∀ W',Below w.heap.size w W'->Ints W' vm M0) (hz:z<M0.length) (h0:∀ i (hi:i<M0.length),0<=M0[i]) (hml:∀ i,i<M0.length->mt M0 i<M0.length) (h1:M0.length<=Mx.length) (ha:a<Mx.length) (hb:b<Mx.length) (hl:Mx.length<=1000) (hL:0<=Lx+5/\Lx<=100) :
 Calls Try.prog 37 #[.int .i64 z,.int .i64 (a:Nat),.int .i64 (b:Nat),.pointer (some ⟨g,0,none⟩),.pointer (some ⟨g8,0,none⟩)] W fun e w'=>e=.returned (.tuple #[])/\∃ Mz Lz,LedM M0 Mx Lx z a b Mz Lz/\PkS w B g8 g9 g11 g n c N f0 f1 ss mm [vs,vm,.int .i64 L0] v1 A S2 Mz Lz w':=by
 obtain ⟨q1,q2,q3,q4,q5,q6⟩:=h.b8
 by_cases hz0:z<0
 · exact (leadL_any B g g8 n c A v1 S2 Mx Lx z a b W h.cu q5 hz0 ha hb hl hL).mono fun e w' j=>⟨j.1,_,_,.inl ⟨hz0,rfl,rfl⟩,h.step j.2.1 j.2.2⟩
 · obtain ⟨k,rfl⟩:∃ k:Nat,z=(k:Int):=⟨z.toNat,by omega⟩
   have hk:k<M0.length:=by omega
   have hmk:=hml k hk
   exact (leadE_any B g g8 n c A v1 vs vm S2 Mx [] M0 Lx L0 k a b W h.cu h.dg (by omega) (hM W h.box.2.2.2.2) (fun W' hb'=>hM W' (h.box.2.2.2.2.trans (hb'.mono (by omega)))) hk (h0 k hk) (by omega) (by omega) ha hb hl).mono fun e w' j=>⟨j.1,_,_,.inr ⟨k,rfl,hk,rfl,rfl⟩,h.step j.2.1 j.2.2⟩
end
section
variable {w W W':World} {g g9 N:Nat} {v1 v2:Value} {S2 M2:List Int} {L2:Int} {p q:Bool}
end
theorem mt_lt_of {M:List Int} (h:∀ i (hi:i<M.length),0<=M[i]/\M[i]<(M.length:Int)):∀ i,i<M.length->mt M i<M.length:=fun i hi=>by
 have h1:=cast_mt hi (h i hi).1
 rw [List.getElem?_eq_getElem hi,Option.getD_some] at h1
 have:=(h i hi).2
 omega
theorem Ok.ltl {S M:List Int} {L:Int} (k:Ok S M L):∀ i (hi:i<M.length),M[i]<(M.length:Int):=by
 intro i hi
 have h1:=k.lt i hi
 have h2:=cast_mt hi (k.pos i hi)
 rw [List.getElem?_eq_getElem hi,Option.getD_some] at h2
 omega
theorem UpK.start {w W:World} {gl:Nat} {dd mm ll:List Value} {vm:Value} {M1 S2 M2:List Int} {L2:Int} (h:Bx4 w W dd mm) (hl:Arr W gl 70 ll) (ho:OwnI 3 (gl+1) W vm M1):UpK w gl dd mm ll vm M1 S2 M2 L2 false false W.drew :=
 ⟨h.1,h.2.1,hl,ho.drew,h.2.2.1,h.2.2.2.1,h.2.2.2.2.drew⟩
set_option maxHeartbeats 8000000 in
set_option maxRecDepth 100000 in
theorem unpoke_any (vs vm:Value) (S M:List Int) (L kd sg:Int) (ov:Bool) (jx jy:Nat) (w:World) (hS:Ints w vs S) (hM:Ints w vm M) (k:Ok S M L) (hxy:jx<jy) (hy:jy<S.length) (hn:S.length<=7) :
 Calls Try.prog 17 #[.agg #[vs,vm,.int .i64 L],.agg #[.int .i64 kd,.int .i64 (jx:Nat),.int .i64 (jy:Nat),.int .i64 sg,.bool ov]] w fun e w'=>MvE (fun S' M' L'=>MvQ S M L S' M' L') e w'/\Below w.heap.size w w':=by
 have KF:=Lib.hid (fun W (hb:Below w.heap.size w W)=>find_any vs vm S M L jx jy W (hS.below hb) (hM.below hb) k (by omega) hy hn)
 have GM:=Lib.hid (fun W (hb:Below w.heap.size w W)=>hM.below hb)
 have GS:=Lib.hid (fun W (hb:Below w.heap.size w W)=>hS.below hb)
 have GP:=Lib.hid (fun (h up ho uo mo g m go:Nat) (l1:ho<M.length) (l2:uo<M.length) (l3:mo<M.length) (l4:go<M.length) (l5:g<M.length) W (hb:Below w.heap.size w W)=>pushed_any vs vm S M L kd (jx:Int) (jy:Int) sg ov h up ho uo mo g m go W (hS.below hb) (hM.below hb) k hn l1 l2 l3 l4 l5)
 have HOK:=Lib.hid k
 clear k
 obtain ⟨A,cs,rfl,hcs,hx'⟩:=hS
 obtain ⟨A2,c2,rfl,hc2,hx2⟩:=hM
 clear hx' hx2
 obtain ⟨ii,hi1,hi2,hi3,hi4⟩:=info_parts info_int
 have HI1:=Lib.hid hi1
 have HI2:=Lib.hid hi2
 have HI3:=Lib.hid hi3
 have HI4:=Lib.hid hi4
 clear hi1 hi2 hi3 hi4
 go_enter Try.func17,Try.ntmps17
 go_upto_region 1 with fail
 have hW:=Bx4.start ((((w.alloc (.cells #[.slice A S.length cs,.slice A2 M.length c2,.int .i64 L] 24)).alloc (.cells #[.int .i64 kd,.int .i64 (jx:Int),.int .i64 (jy:Int),.int .i64 sg,.bool ov] 26)).alloc (.cells #[.slice none 0 0,.slice none 0 0,.int .i64 0] 24)).alloc (.cells #[.int .i64 0,.int .i64 0,.int .i64 0,.int .i64 0,.bool false] 26)) _ _ L kd (jx:Int) (jy:Int) sg ov w rfl
 generalize ((((w.alloc (.cells #[.slice A S.length cs,.slice A2 M.length c2,.int .i64 L] 24)).alloc (.cells #[.int .i64 kd,.int .i64 (jx:Int),.int .i64 (jy:Int),.int .i64 sg,.bool ov] 26)).alloc (.cells #[.slice none 0 0,.slice none 0 0,.int .i64 0] 24)).alloc (.cells #[.int .i64 0,.int .i64 0,.int .i64 0,.int .i64 0,.bool false] 26))=w4 at hW ⊢
 have y0:=hW.1.cell 0
 have y1:=hW.1.cell 1
 have y2:=hW.1.cell 2
 have m1:=hW.2.1.cell 1
 have m2:=hW.2.1.cell 2
 have HW:=Lib.hid hW
 clear hW
 go_upto_region 2 with (go_at_call 40;refine (KF.out _ HW.out.2.2.2.2).mono ?_;rintro e w5 ⟨hfr,hb5⟩;rcases hfr.split with rfl|⟨h,up,m,g,hl,HEQ,rfl⟩)
 · have HBX0:=Lib.hid (HW.out.below hb5 HW.out.lt)
   have HBX:=Lib.hid (HBX0.out.below (((Below.refl _ _).alloc (Nat.le_refl _) (.cells #[.int .i64 0,.int .i64 0,.int .i64 0,.int .i64 0,.int .i64 0,.int .i64 0,.int .i64 0,.int .i64 0] 70):Below w5.heap.size w5 _)) HBX0.out.lt)
   clear HW y0 y1 y2 m1 m2 hb5 KF HBX0 hfr
   generalize (w5.alloc (.cells #[.int .i64 0,.int .i64 0,.int .i64 0,.int .i64 0,.int .i64 0,.int .i64 0,.int .i64 0,.int .i64 0] 70))=w6 at HBX ⊢
   have x0:=HBX.out.2.2.1.cell 0
   have x1:=HBX.out.2.2.1.cell 1
   have x2:=HBX.out.2.2.1.cell 2
   have f0:=HBX.out.2.2.1.frozen 0
   have f1:=HBX.out.2.2.1.frozen 1
   have f2:=HBX.out.2.2.1.frozen 2
   have z0:=HBX.out.2.2.2.1.cell 0
   have z1:=HBX.out.2.2.2.1.cell 1
   have z2:=HBX.out.2.2.2.1.cell 2
   have z3:=HBX.out.2.2.2.1.cell 3
   have z4:=HBX.out.2.2.2.1.cell 4
   have g0:=HBX.out.2.2.2.1.frozen 0
   have g1:=HBX.out.2.2.2.1.frozen 1
   have g2:=HBX.out.2.2.2.1.frozen 2
   have g3:=HBX.out.2.2.2.1.frozen 3
   have g4:=HBX.out.2.2.2.1.frozen 4
   have HA:=Lib.hid (Arr.stored HBX.out.2.2.1 HBX.out.2.2.2.1 (by simp) (.slice none 0 0) (.slice none 0 0) (.int .i64 0) (.int .i64 0) (.int .i64 0) (.int .i64 0) (.int .i64 0) (.bool false))
   have HB:=Lib.hid (below_stored HBX.out.2.2.2.2 (r:=w.heap.size+2) (q:=w.heap.size+3) (by simp) (by simp) (.slice none 0 0) (.slice none 0 0) (.int .i64 0) (.int .i64 0) (.int .i64 0) (.int .i64 0) (.int .i64 0) (.bool false))
   go_wp2_with fail
   refine bodyPost_ret (v:=.tuple #[.agg #[.slice none 0 0,.slice none 0 0,.int .i64 0],.agg #[.int .i64 0,.int .i64 0,.int .i64 0,.int .i64 0,.bool false],.int .i64 6]) (results_cct Try.results17 _ _ (w.heap.size+2) (w.heap.size+3) 24 26 _ _ _ _ rfl HA.out.1 rfl HA.out.2 Try.underlying24 rfl info_diag Try.underlying26 rfl info_move) rfl ?_
   exact ⟨MvE.err (by decide),HB.out⟩
 · have HBX0:=Lib.hid (HW.out.below hb5 HW.out.lt)
   clear HW y0 y1 y2 m1 m2 hb5 KF hfr
   obtain ⟨hm,hg,hu⟩:=HEQ.out
   have hml:=HOK.out.m
   have hhl:h<M.length:=by have:=hl.at_;omega
   have hmm:m<M.length:=by rw [hm];exact HOK.out.lt h hhl
   have hgl:g<M.length:=by rw [hg];unfold turnN;omega
   have hul:up<M.length:=by rw [hu];exact HOK.out.lt g hgl
   obtain ⟨ho,hho⟩:∃ z,z=opp h:=⟨_,rfl⟩
   obtain ⟨uo,huo⟩:∃ z,z=opp up:=⟨_,rfl⟩
   obtain ⟨mo,hmo⟩:∃ z,z=opp m:=⟨_,rfl⟩
   obtain ⟨go,hgo⟩:∃ z,z=opp g:=⟨_,rfl⟩
   have LH:=Lib.hid (show ho<M.length by have:=(opp_slots (c:=h/4) (o:=h) rfl).1;omega)
   have LU:=Lib.hid (show uo<M.length by have:=(opp_slots (c:=up/4) (o:=up) rfl).1;omega)
   have LM:=Lib.hid (show mo<M.length by have:=(opp_slots (c:=m/4) (o:=m) rfl).1;omega)
   have LG:=Lib.hid (show go<M.length by have:=(opp_slots (c:=g/4) (o:=g) rfl).1;omega)
   have LGG:=Lib.hid hgl
   have HLAW:=Lib.hid (fun M1 M2 (h1:M1=clL M ho mo) (h2:M2=clL M1 uo go)=>unpoke_mv (S:=S) (M:=M) (L:=L) (M1:=M1) (M2:=M2) hxy hy hl hm hg hu (by rw [<- hho,<- hmo];exact h1) (by rw [<- huo,<- hgo];exact h2))
   rw [<- hho,<- huo,<- hmo,<- hgo] at HLAW ⊢
   have HLM:=Lib.hid (show M.length<=1000 by omega)
   clear HEQ hml hhl hmm hgl hul hm hg hu hl hho huo hmo hgo
   have HPS:=Lib.hid (GP.out h up ho uo mo g m go LH.out LU.out LM.out LG.out LGG.out)
   clear GP
   obtain ⟨w6,hw6⟩:∃ W,W=w5.alloc (.cells #[.int .i64 (h:Int),.int .i64 (up:Int),.int .i64 (ho:Int),.int .i64 (uo:Int),.int .i64 (mo:Int),.int .i64 (g:Int),.int .i64 (m:Int),.int .i64 (go:Int)] 70):=⟨_,rfl⟩
   have HLN:Hid (Arr w6 w5.heap.size 70 [.int .i64 (h:Int),.int .i64 (up:Int),.int .i64 (ho:Int),.int .i64 (uo:Int),.int .i64 (mo:Int),.int .i64 (g:Int),.int .i64 (m:Int),.int .i64 (go:Int)]):=by rw [hw6];exact Lib.hid (Arr.new _ _ [.int .i64 (h:Int),.int .i64 (up:Int),.int .i64 (ho:Int),.int .i64 (uo:Int),.int .i64 (mo:Int),.int .i64 (g:Int),.int .i64 (m:Int),.int .i64 (go:Int)])
   have hb6:Below w5.heap.size w5 w6:=by rw [hw6];exact (Below.refl _ _).alloc (Nat.le_refl _) _
   rw [<- hw6]
   clear hw6
   have HBX:=Lib.hid (HBX0.out.below hb6 HBX0.out.lt)
   have HGL:=Lib.hid HBX0.out.lt
   have HW6:=Lib.hid (show w5.heap.size+1<=w6.heap.size from HLN.out.lt)
   clear HBX0 hb6
   generalize w5.heap.size=gl at *
   have y1:=HBX.out.1.cell 1
   go_upto_region 5 with (at_builtin;refine wpList_appI rfl _ (.tmp 25) 22 rfl Try.underlying22 HI1.out HI2.out HI3.out HI4.out rfl (OwnI.nil 3 (gl+1) w6) rfl (GM.out w6 HBX.out.2.2.2.2) (by have:=HLM.out;simp;omega) HW6.out ?_;intro v' w7 h1 h2 h3)
   rw [List.nil_append] at h1
   obtain ⟨Am,cm,hv'⟩:=h1.form
   subst hv'
   have HOWM:=Lib.hid h1
   have HBX7:=Lib.hid (HBX.out.below h2 (by have:=HGL.out;omega))
   have HLN7:=Lib.hid (HLN.out.below h2 (by omega))
   clear h1 h2 h3 y1 HBX HLN HW6
   have HBX:=HBX7
   have HLN:=HLN7
   clear HBX7 HLN7
   have HCL:=Lib.hid (fun W (hW:OwnI 3 (gl+1) W (.slice Am M.length cm) M)=>closed_any Am M.length cm (gl+1) M ho mo W hW LH.out LM.out HOK.out.pos HOK.out.lt HLM.out)
   have HQ1:=Lib.hid (show lp (mt M) ho mo<=1 by unfold lp;split <;> omega)
   have HM1:=Lib.hid (show (clL M ho mo).length=M.length/\∀ i (hi:i<(clL M ho mo).length),0<=(clL M ho mo)[i]/\(clL M ho mo)[i]<(M.length:Int) from ⟨clL_length M ho mo,fun i hi=>⟨clL_pos HOK.out.pos i hi,clL_lt HOK.out.ltl (by have:=HOK.out.lt ho LH.out;omega) (by have:=HOK.out.lt mo LM.out;omega) i hi⟩⟩)
   obtain ⟨q1,hq1⟩:∃ q,q=lp (mt M) ho mo:=⟨_,rfl⟩
   obtain ⟨M1,hM1⟩:∃ M1,M1=clL M ho mo:=⟨_,rfl⟩
   have HL1:=Lib.hid (HLAW.out M1 _ hM1 rfl)
   rw [<- hq1,<- hM1] at HCL
   rw [<- hq1] at HQ1 HL1
   rw [<- hM1] at HM1
   clear hq1 hM1 HLAW
   refine wp_region_eff 9 (by kernel_rfl) (by kernel_rfl) (by kernel_rfl) (by kernel_rfl) (by kernel_rfl) (by decide) (fun i=>([(.pointer (some ⟨w.heap.size,2,none⟩)),(.int .i64 L),(.slice Am M.length cm),(.pointer (some ⟨gl,0,none⟩)),(.pointer (some ⟨gl,2,none⟩)),(.int .i64 (ho:Int)),(.pointer (some ⟨gl,4,none⟩)),(.pointer (some ⟨gl,4,none⟩)),(.int .i64 (mo:Int)),(.int .i64 (q1:Int)),(.int .i64 (L+(q1:Int))),(.int .i64 (L+(q1:Int)))]:List Value).getD i undef) (fun W=>OwnI 3 (gl+1) W (.slice Am M.length cm) M/\Bx4 w W [.slice A S.length cs,.slice A2 M.length c2,.int .i64 L] [.int .i64 kd,.int .i64 (jx:Int),.int .i64 (jy:Int),.int .i64 sg,.bool ov]/\Arr W gl 70 [.int .i64 (h:Int),.int .i64 (up:Int),.int .i64 (ho:Int),.int .i64 (uo:Int),.int .i64 (mo:Int),.int .i64 (g:Int),.int .i64 (m:Int),.int .i64 (go:Int)]) (fun W=>W.cell? ⟨w.heap.size,2,none⟩=some (.int .i64 L)/\Arr W gl 70 [.int .i64 (h:Int),.int .i64 (up:Int),.int .i64 (ho:Int),.int .i64 (uo:Int),.int .i64 (mo:Int),.int .i64 (g:Int),.int .i64 (m:Int),.int .i64 (go:Int)]) (fun W=>OwnI 3 (gl+1) W (.slice Am M.length cm) M1/\Bx4 w W [.slice A S.length cs,.slice A2 M.length c2,.int .i64 L] [.int .i64 kd,.int .i64 (jx:Int),.int .i64 (jy:Int),.int .i64 sg,.bool ov]/\Arr W gl 70 [.int .i64 (h:Int),.int .i64 (up:Int),.int .i64 (ho:Int),.int .i64 (uo:Int),.int .i64 (mo:Int),.int .i64 (g:Int),.int .i64 (m:Int),.int .i64 (go:Int)]) ⟨HOWM.out.drew,HBX.out.drew,HLN.out⟩ (fun W h=>⟨h.2.1.1.cell 2,h.2.2⟩) (fun W h=>⟨h.2.1.1.cell 2,h.2.2⟩) ⟨?_,?_,?_,?_,?_,?_,?_,?_,?_,?_,?_,?_,trivial⟩ ?_
   · intro x w1 bA hb hdep
     refine ⟨fun _ hC=>?_,fun h=>absurd h (by decide)⟩
     have e2:bA.tmps[2]?.getD undef=.pointer (some ⟨w.heap.size,0,none⟩):=hb 2
     show (execOp bA.eval _).run Try.prog w1=.ok (.value (.pointer (some ⟨w.heap.size,2,none⟩))) w1
     clear hb hdep hC
     go_simp
   · intro x w1 bA hb hdep
     refine ⟨fun _ hC=>?_,fun h=>absurd h (by decide)⟩
     have e27:bA.tmps[27]?.getD undef=.pointer (some ⟨w.heap.size,2,none⟩):=(hb 27).trans (hdep 0 (by decide))
     have u0:=hC.1
     show (execOp bA.eval _).run Try.prog w1=.ok (.value (.int .i64 L)) w1
     clear hb hdep hC
     go_simp
   · intro x w1 bA hb hdep
     refine ⟨fun _ hC=>?_,fun h=>absurd h (by decide)⟩
     have e9:bA.tmps[9]?.getD undef=.slice Am M.length cm:=hb 9
     show (execOp bA.eval _).run Try.prog w1=.ok (.value (.slice Am M.length cm)) w1
     clear hb hdep hC
     go_simp
   · intro x w1 bA hb hdep
     refine ⟨fun _ hC=>?_,fun h=>absurd h (by decide)⟩
     have e7:bA.tmps[7]?.getD undef=.pointer (some ⟨gl,0,none⟩):=hb 7
     show (execOp bA.eval _).run Try.prog w1=.ok (.value (.pointer (some ⟨gl,0,none⟩))) w1
     clear hb hdep hC
     go_simp
   · intro x w1 bA hb hdep
     refine ⟨fun _ hC=>?_,fun h=>absurd h (by decide)⟩
     have e30:bA.tmps[30]?.getD undef=.pointer (some ⟨gl,0,none⟩):=(hb 30).trans (hdep 3 (by decide))
     show (execOp bA.eval _).run Try.prog w1=.ok (.value (.pointer (some ⟨gl,2,none⟩))) w1
     clear hb hdep hC
     go_simp
   · intro x w1 bA hb hdep
     refine ⟨fun _ hC=>?_,fun h=>absurd h (by decide)⟩
     have e31:bA.tmps[31]?.getD undef=.pointer (some ⟨gl,2,none⟩):=(hb 31).trans (hdep 4 (by decide))
     have u0:=hC.2.cell 2
     show (execOp bA.eval _).run Try.prog w1=.ok (.value (.int .i64 (ho:Int))) w1
     clear hb hdep hC
     go_simp
   · intro x w1 bA hb hdep
     refine ⟨fun _ hC=>?_,fun h=>absurd h (by decide)⟩
     have e7:bA.tmps[7]?.getD undef=.pointer (some ⟨gl,0,none⟩):=hb 7
     show (execOp bA.eval _).run Try.prog w1=.ok (.value (.pointer (some ⟨gl,4,none⟩))) w1
     clear hb hdep hC
     go_simp
   · intro x w1 bA hb hdep
     refine ⟨fun _ hC=>?_,fun h=>absurd h (by decide)⟩
     have e33:bA.tmps[33]?.getD undef=.pointer (some ⟨gl,4,none⟩):=(hb 33).trans (hdep 6 (by decide))
     show (execOp bA.eval _).run Try.prog w1=.ok (.value (.pointer (some ⟨gl,4,none⟩))) w1
     clear hb hdep hC
     go_simp
   · intro x w1 bA hb hdep
     refine ⟨fun _ hC=>?_,fun h=>absurd h (by decide)⟩
     have e34:bA.tmps[34]?.getD undef=.pointer (some ⟨gl,4,none⟩):=(hb 34).trans (hdep 7 (by decide))
     have u0:=hC.2.cell 4
     show (execOp bA.eval _).run Try.prog w1=.ok (.value (.int .i64 (mo:Int))) w1
     clear hb hdep hC
     go_simp
   · intro x w1 bA hb hdep
     refine ⟨fun h=>absurd rfl h,fun _ hAw=>?_⟩
     have e29:bA.tmps[29]?.getD undef=.slice Am M.length cm:=(hb 29).trans (hdep 2 (by decide))
     have e32:bA.tmps[32]?.getD undef=.int .i64 (ho:Int):=(hb 32).trans (hdep 5 (by decide))
     have e35:bA.tmps[35]?.getD undef=.int .i64 (mo:Int):=(hb 35).trans (hdep 8 (by decide))
     refine eff_call ?_ ((HCL.out w1 hAw.1).mono fun e w' h=>⟨h.1,by obtain ⟨j1,g',hA,hg,o⟩:=h.2;exact ⟨j1,hAw.2.1.below (o.below hg) (by have:=HGL.out;omega),hAw.2.2.below (o.below hg) (by omega)⟩⟩)
     clear hb hdep hAw
     go_simp
   · intro x w1 bA hb hdep
     refine ⟨fun _ hC=>?_,fun h=>absurd h (by decide)⟩
     have e28:bA.tmps[28]?.getD undef=.int .i64 L:=(hb 28).trans (hdep 1 (by decide))
     have e36:bA.tmps[36]?.getD undef=.int .i64 (q1:Int):=(hb 36).trans (hdep 9 (by decide))
     have cw:IntKind.i64.wrap (L+(q1:Int))=L+(q1:Int):=IntWalk.i64_in _ (by have h1:=HOK.out.l0;have h2:=HOK.out.l1;have h3:=HQ1.out;omega)
     show (execOp bA.eval _).run Try.prog w1=.ok (.value (.int .i64 (L+(q1:Int)))) w1
     clear hb hdep hC
     go_simp
   · intro x w1 bA hb hdep
     refine ⟨fun _ hC=>?_,fun h=>absurd h (by decide)⟩
     have e37:bA.tmps[37]?.getD undef=.int .i64 (L+(q1:Int)):=(hb 37).trans (hdep 10 (by decide))
     show (execOp bA.eval _).run Try.prog w1=.ok (.value (.int .i64 (L+(q1:Int)))) w1
     clear hb hdep hC
     go_simp
   intro x w1 hR hall
   have x0e:x 0=.pointer (some ⟨w.heap.size,2,none⟩):=hall 0 (by simp)
   have x1e:x 1=.int .i64 L:=hall 1 (by simp)
   have x2e:x 2=.slice Am M.length cm:=hall 2 (by simp)
   have x3e:x 3=.pointer (some ⟨gl,0,none⟩):=hall 3 (by simp)
   have x4e:x 4=.pointer (some ⟨gl,2,none⟩):=hall 4 (by simp)
   have x5e:x 5=.int .i64 (ho:Int):=hall 5 (by simp)
   have x6e:x 6=.pointer (some ⟨gl,4,none⟩):=hall 6 (by simp)
   have x7e:x 7=.pointer (some ⟨gl,4,none⟩):=hall 7 (by simp)
   have x8e:x 8=.int .i64 (mo:Int):=hall 8 (by simp)
   have x9e:x 9=.int .i64 (q1:Int):=hall 9 (by simp)
   have x10e:x 10=.int .i64 (L+(q1:Int)):=hall 10 (by simp)
   have x11e:x 11=.int .i64 (L+(q1:Int)):=hall 11 (by simp)
   simp only [putAll,dstOf,Act.put,List.map_cons,List.map_nil,List.setIfInBounds_toArray,List.set_cons_succ,List.set_cons_zero,Nat.reduceAdd,x0e,x1e,x2e,x3e,x4e,x5e,x6e,x7e,x8e,x9e,x10e,x11e]
   clear hall x0e x1e x2e x3e x4e x5e x6e x7e x8e x9e x10e x11e
   obtain ⟨h1,h2,h3⟩:=hR
   clear HOWM HBX HCL HLN
   have HOWM:=Lib.hid h1
   have HBX:=Lib.hid h2
   have HLN:=Lib.hid h3
   clear h1 h2 h3
   have HML1:=HM1.out.1
   have HB1:=Lib.hid (show ∀ i (hi:i<M1.length),0<=M1[i]/\M1[i]<(M1.length:Int) from fun i hi=>⟨(HM1.out.2 i hi).1,by have:=(HM1.out.2 i hi).2;omega⟩)
   have HCL2:=Lib.hid (fun W (hW:OwnI 3 (gl+1) W (.slice Am M1.length cm) M1)=>closed_any Am M1.length cm (gl+1) M1 uo go W hW (by rw [HML1];exact LU.out) (by rw [HML1];exact LG.out) (fun i hi=>(HB1.out i hi).1) (mt_lt_of HB1.out) (by rw [HML1];exact HLM.out))
   have HQ2:=Lib.hid (show lp (mt M1) uo go<=1 by unfold lp;split <;> omega)
   have HM2:=Lib.hid (show (clL M1 uo go).length=M.length/\∀ i (hi:i<(clL M1 uo go).length),0<=(clL M1 uo go)[i]/\(clL M1 uo go)[i]<1000 from ⟨(clL_length M1 uo go).trans HML1,fun i hi=>⟨clL_pos (fun i hi=>(HB1.out i hi).1) i hi,clL_lt (fun i hi=>by have h1:=(HB1.out i hi).2;have h2:=HLM.out;have h3:=HOK.out.m;omega) (by have h1:=mt_lt_of HB1.out uo (by rw [HML1];exact LU.out);have h3:=HOK.out.m;omega) (by have h1:=mt_lt_of HB1.out go (by rw [HML1];exact LG.out);have h3:=HOK.out.m;omega) i hi⟩⟩)
   obtain ⟨q2,hq2⟩:∃ q,q=lp (mt M1) uo go:=⟨_,rfl⟩
   obtain ⟨M2,hM2⟩:∃ M2,M2=clL M1 uo go:=⟨_,rfl⟩
   rw [<- hq2,<- hM2,HML1] at HCL2
   rw [<- hq2] at HQ2
   rw [<- hq2,<- hM2] at HL1
   rw [<- hM2] at HM2
   clear hq2 hM2 HML1 HB1 HM1
   have e3:=HLN.out.cell 3
   have e7:=HLN.out.cell 7
   have cw1:=HQ1.out
   have cw2:=HQ2.out
   have cl0:=HOK.out.l0
   have cl1:=HOK.out.l1
   go_upto_region 7 with (go_at_call 29;refine (HCL2.out _ HOWM.out).mono ?_;rintro e w8 ⟨rfl,hj⟩)
   obtain ⟨j1,g',hA,hg',oj⟩:=hj
   clear e3 e7
   have HOWM2:=Lib.hid j1
   have HBX2:=Lib.hid (HBX.out.below (oj.below hg') (by have:=HGL.out;omega))
   have HLN2:=Lib.hid (HLN.out.below (oj.below hg') (by omega))
   clear j1 hA hg' oj HOWM HBX HLN HCL2
   have HOWM:=HOWM2
   have HBX:=HBX2
   have HLN:=HLN2
   clear HOWM2 HBX2 HLN2
   by_cases hbig:64<L+(q1:Int)+(q2:Int)
   · clear cw1 cw2 cl0 cl1
     have x0:=HBX.out.2.2.1.cell 0
     have x1:=HBX.out.2.2.1.cell 1
     have x2:=HBX.out.2.2.1.cell 2
     have f0:=HBX.out.2.2.1.frozen 0
     have f1:=HBX.out.2.2.1.frozen 1
     have f2:=HBX.out.2.2.1.frozen 2
     have z0:=HBX.out.2.2.2.1.cell 0
     have z1:=HBX.out.2.2.2.1.cell 1
     have z2:=HBX.out.2.2.2.1.cell 2
     have z3:=HBX.out.2.2.2.1.cell 3
     have z4:=HBX.out.2.2.2.1.cell 4
     have g0:=HBX.out.2.2.2.1.frozen 0
     have g1:=HBX.out.2.2.2.1.frozen 1
     have g2:=HBX.out.2.2.2.1.frozen 2
     have g3:=HBX.out.2.2.2.1.frozen 3
     have g4:=HBX.out.2.2.2.1.frozen 4
     have HA:=Lib.hid (Arr.stored HBX.out.2.2.1 HBX.out.2.2.2.1 (by simp) (.slice none 0 0) (.slice none 0 0) (.int .i64 0) (.int .i64 0) (.int .i64 0) (.int .i64 0) (.int .i64 0) (.bool false))
     have HB:=Lib.hid (below_stored HBX.out.2.2.2.2 (r:=w.heap.size+2) (q:=w.heap.size+3) (by simp) (by simp) (.slice none 0 0) (.slice none 0 0) (.int .i64 0) (.int .i64 0) (.int .i64 0) (.int .i64 0) (.int .i64 0) (.bool false))
     go_wp2_with fail
     refine bodyPost_ret (v:=.tuple #[.agg #[.slice none 0 0,.slice none 0 0,.int .i64 0],.agg #[.int .i64 0,.int .i64 0,.int .i64 0,.int .i64 0,.bool false],.int .i64 5]) (results_cct Try.results17 _ _ (w.heap.size+2) (w.heap.size+3) 24 26 _ _ _ _ rfl HA.out.1 rfl HA.out.2 Try.underlying24 rfl info_diag Try.underlying26 rfl info_move) rfl ?_
     exact ⟨MvE.err (by decide),HB.out⟩
   · obtain ⟨S2,hS2⟩:∃ l,l=shS [(jx:Int),(jy:Int)] S S.length:=⟨_,rfl⟩
     obtain ⟨M3,hM3⟩:∃ l,l=shM [(jx:Int),(jy:Int)] M2 S.length:=⟨_,rfl⟩
     have HSK:=Lib.hid (fun W vg (hb:Below w.heap.size w W) (hI:Ints W (.slice Am M.length cm) M2) (hG:Ints W vg [(jx:Int),(jy:Int)])=>shrunk_any (.slice A S.length cs) (.slice Am M.length cm) vg S M2 [(jx:Int),(jy:Int)] (L+(q1:Int)+(q2:Int)) W (GS.out W hb) hI hG (by rw [HM2.out.1];exact HOK.out.m) (by omega) (by simp) (fun i hi=>HM2.out.2 i hi))
     rw [<- hS2,<- hM3] at HSK HL1
     clear hS2 hM3
     go_upto_region 9 with fail
     clear cw1 cw2 cl0 cl1 hbig
     have HK0:=Lib.hid (UpK.start (S2:=S2) (M2:=M3) (L2:=L+(q1:Int)+(q2:Int)) HBX.out HLN.out HOWM.out)
     obtain ⟨H0,hH0⟩:∃ H,H=w.heap.size:=⟨_,rfl⟩
     have HH0:=Lib.hid hH0
     clear hH0
     refine wp_region_two 14 15 (by kernel_rfl) (by kernel_rfl) (by kernel_rfl) (by kernel_rfl) (by kernel_rfl) (by decide) (by simp) (by simp) (phiT (fun i=>([some (.pointer (some ⟨w.heap.size,0,none⟩)),some (.slice A S.length cs),some (.slice Am M.length cm),some (.int .i64 (L+(q1:Int)+(q2:Int))),some (.pointer (some ⟨w.heap.size+1,1,none⟩)),some (.int .i64 (jx:Int)),some (.pointer (some ⟨w.heap.size+1,2,none⟩)),some (.int .i64 (jy:Int)),none,none,some (.agg #[.slice A S.length cs,.slice A2 M.length c2,.int .i64 L]),some (.agg #[.int .i64 (h:Int),.int .i64 (up:Int),.int .i64 (ho:Int),.int .i64 (uo:Int),.int .i64 (mo:Int),.int .i64 (g:Int),.int .i64 (m:Int),.int .i64 (go:Int)]),some (.agg #[.int .i64 kd,.int .i64 (jx:Int),.int .i64 (jy:Int),.int .i64 sg,.bool ov]),none,none,none,some (.int .i64 0)]:List (Option Value)).getD i none) (fun i v w=>(if i=8 then (fun v w=>∃ b,v=.slice (some ⟨b,0,none⟩) 2 2/\H0+4<=b/\Arr w b 3 [.int .i64 (jx:Int),.int .i64 (jy:Int)]) v w else (if i=9 then (fun v w=>∃ v1 v2,v=.agg #[v1,v2,.int .i64 (L+(q1:Int)+(q2:Int))]/\OwnI 3 (H0+4) w v1 S2/\OwnI 3 (H0+4) w v2 M3) v w else (if i=13 then (fun v w=>MvV v) v w else True))))) (fun p q W=>UpK w gl [.slice A S.length cs,.slice A2 M.length c2,.int .i64 L] [.int .i64 kd,.int .i64 (jx:Int),.int .i64 (jy:Int),.int .i64 sg,.bool ov] [.int .i64 (h:Int),.int .i64 (up:Int),.int .i64 (ho:Int),.int .i64 (uo:Int),.int .i64 (mo:Int),.int .i64 (g:Int),.int .i64 (m:Int),.int .i64 (go:Int)] (.slice Am M.length cm) M2 S2 M3 (L+(q1:Int)+(q2:Int)) p q W) (EvR (w.heap.size+2)) (fun w w' h=>EvR.of h) (fun i v w w' h hb=>?_) (fun p q w w' h hb=>h.grow hb) HK0.out ⟨?_,?_,?_,?_,?_,?_,?_,?_,?_,?_,?_,?_,?_,?_,?_,?_,?_,trivial⟩ ?_
     · unfold phiT at h ⊢
       split
       · next u hu=>rw [hu] at h;exact h
       · next hu =>
         rw [hu] at h
         simp only at h ⊢
         by_cases q8:i=8
         · rw [if_pos q8] at h ⊢;exact by obtain ⟨b,h1,h2,h3⟩:=h;exact ⟨b,h1,h2,(hb b h3.lt (by have:=HH0.out;omega) (by have:=HH0.out;omega)).trans h3⟩
         · rw [if_neg q8] at h ⊢
           by_cases q9:i=9
           · rw [if_pos q9] at h ⊢;exact by obtain ⟨v1,v2,h1,h2,h3⟩:=h;exact ⟨v1,v2,h1,h2.ev hb (by have:=HH0.out;omega),h3.ev hb (by have:=HH0.out;omega)⟩
           · rw [if_neg q9] at h ⊢
             by_cases q13:i=13
             · rw [if_pos q13] at h ⊢;exact h
             · rw [if_neg q13] at h ⊢
               trivial
     · intro x w1 bA hb hdep
       refine ⟨fun _ _ p0 q0 hKw=>?_,fun h=>absurd h (by decide),fun h=>absurd h (by decide)⟩
       have e2:bA.tmps[2]?.getD undef=.pointer (some ⟨w.heap.size,0,none⟩):=hb 2
       have HKW:=Lib.hid hKw
       clear hKw
       clear hb hdep
       refine phi_run (.pointer (some ⟨w.heap.size,0,none⟩)) ?_ rfl
       go_simp
     · intro x w1 bA hb hdep
       refine ⟨fun _ _ p0 q0 hKw=>?_,fun h=>absurd h (by decide),fun h=>absurd h (by decide)⟩
       have e52:bA.tmps[52]?.getD undef=.pointer (some ⟨w.heap.size,0,none⟩):=(hb 52).trans (hdep 0 (by decide))
       have HKW:=Lib.hid hKw
       clear hKw
       have u0:=HKW.out.1.cell 0
       clear hb hdep
       refine phi_run (.slice A S.length cs) ?_ rfl
       go_simp
     · intro x w1 bA hb hdep
       refine ⟨fun _ _ p0 q0 hKw=>?_,fun h=>absurd h (by decide),fun h=>absurd h (by decide)⟩
       have e9:bA.tmps[9]?.getD undef=.slice Am M.length cm:=hb 9
       have HKW:=Lib.hid hKw
       clear hKw
       clear hb hdep
       refine phi_run (.slice Am M.length cm) ?_ rfl
       go_simp
     · intro x w1 bA hb hdep
       refine ⟨fun _ _ p0 q0 hKw=>?_,fun h=>absurd h (by decide),fun h=>absurd h (by decide)⟩
       have e10:bA.tmps[10]?.getD undef=.int .i64 (L+(q1:Int)+(q2:Int)):=hb 10
       have HKW:=Lib.hid hKw
       clear hKw
       clear hb hdep
       refine phi_run (.int .i64 (L+(q1:Int)+(q2:Int))) ?_ rfl
       go_simp
     · intro x w1 bA hb hdep
       refine ⟨fun _ _ p0 q0 hKw=>?_,fun h=>absurd h (by decide),fun h=>absurd h (by decide)⟩
       have e3:bA.tmps[3]?.getD undef=.pointer (some ⟨w.heap.size+1,0,none⟩):=hb 3
       have HKW:=Lib.hid hKw
       clear hKw
       clear hb hdep
       refine phi_run (.pointer (some ⟨w.heap.size+1,1,none⟩)) ?_ rfl
       go_simp
     · intro x w1 bA hb hdep
       refine ⟨fun _ _ p0 q0 hKw=>?_,fun h=>absurd h (by decide),fun h=>absurd h (by decide)⟩
       have e56:bA.tmps[56]?.getD undef=.pointer (some ⟨w.heap.size+1,1,none⟩):=(hb 56).trans (hdep 4 (by decide))
       have HKW:=Lib.hid hKw
       clear hKw
       have u0:=HKW.out.2.1.cell 1
       clear hb hdep
       refine phi_run (.int .i64 (jx:Int)) ?_ rfl
       go_simp
     · intro x w1 bA hb hdep
       refine ⟨fun _ _ p0 q0 hKw=>?_,fun h=>absurd h (by decide),fun h=>absurd h (by decide)⟩
       have e3:bA.tmps[3]?.getD undef=.pointer (some ⟨w.heap.size+1,0,none⟩):=hb 3
       have HKW:=Lib.hid hKw
       clear hKw
       clear hb hdep
       refine phi_run (.pointer (some ⟨w.heap.size+1,2,none⟩)) ?_ rfl
       go_simp
     · intro x w1 bA hb hdep
       refine ⟨fun _ _ p0 q0 hKw=>?_,fun h=>absurd h (by decide),fun h=>absurd h (by decide)⟩
       have e58:bA.tmps[58]?.getD undef=.pointer (some ⟨w.heap.size+1,2,none⟩):=(hb 58).trans (hdep 6 (by decide))
       have HKW:=Lib.hid hKw
       clear hKw
       have u0:=HKW.out.2.1.cell 2
       clear hb hdep
       refine phi_run (.int .i64 (jy:Int)) ?_ rfl
       go_simp
     · intro x w1 bA hb hdep
       refine ⟨fun _ _ p0 q0 hKw=>?_,fun h=>absurd h (by decide),fun h=>absurd h (by decide)⟩
       have e57:bA.tmps[57]?.getD undef=.int .i64 (jx:Int):=(hb 57).trans (hdep 5 (by decide))
       have e59:bA.tmps[59]?.getD undef=.int .i64 (jy:Int):=(hb 59).trans (hdep 7 (by decide))
       have HKW:=Lib.hid hKw
       clear hKw
       clear hb hdep
       refine phi_make (.slice (some ⟨w1.heap.size,0,none⟩) 2 2) (w1.alloc (.cells #[.int .i64 (jx:Int),.int .i64 (jy:Int)] 3)) ?_ ((Below.refl _ _).alloc (Nat.le_refl _) _) (⟨w1.heap.size,rfl,by have:=HKW.out.2.2.1.lt;have:=HGL.out;have:=HH0.out;omega,Arr.new w1 3 [_,_]⟩)
       go_simp
     · intro x w1 bA hb hdep
       refine ⟨fun _ _ p0 q0 hKw=>?_,fun h=>absurd h (by decide),fun h=>absurd h (by decide)⟩
       have e53:bA.tmps[53]?.getD undef=.slice A S.length cs:=(hb 53).trans (hdep 1 (by decide))
       have e54:bA.tmps[54]?.getD undef=.slice Am M.length cm:=(hb 54).trans (hdep 2 (by decide))
       have e55:bA.tmps[55]?.getD undef=.int .i64 (L+(q1:Int)+(q2:Int)):=(hb 55).trans (hdep 3 (by decide))
       have p60:=hdep 8 (by decide)
       have e60:bA.tmps[60]?.getD undef=x 8:=hb 60
       generalize x 8=x60 at p60 e60
       have P60:=Lib.hid (show (fun v w=>∃ b,v=.slice (some ⟨b,0,none⟩) 2 2/\H0+4<=b/\Arr w b 3 [.int .i64 (jx:Int),.int .i64 (jy:Int)]) x60 w1 from p60)
       clear p60
       have HKW:=Lib.hid hKw
       clear hKw
       obtain ⟨bc,rfl,_,hgc⟩:=P60.out
       clear hb hdep
       refine phi_call ?_ ((HSK.out w1 _ HKW.out.2.2.2.2.2.2 HKW.out.2.2.2.1.ints (Ints.of_arr (xs:=[(jx:Int),(jy:Int)]) hgc)).mono fun e w' h=>(by obtain ⟨v1,v2,he,h1,h2,h3⟩:=h;exact ⟨_,he,h3,v1,v2,rfl,h1.base (by have:=HKW.out.2.2.1.lt;have:=HGL.out;have:=HH0.out;omega),h2.base (by have:=HKW.out.2.2.1.lt;have:=HGL.out;have:=HH0.out;omega)⟩))
       go_simp
     · intro x w1 bA hb hdep
       refine ⟨fun _ _ p0 q0 hKw=>?_,fun h=>absurd h (by decide),fun h=>absurd h (by decide)⟩
       have e2:bA.tmps[2]?.getD undef=.pointer (some ⟨w.heap.size,0,none⟩):=hb 2
       have HKW:=Lib.hid hKw
       clear hKw
       have u0:=HKW.out.1.cell 0
       have u1:=HKW.out.1.cell 1
       have u2:=HKW.out.1.cell 2
       clear hb hdep
       refine phi_run (.agg #[.slice A S.length cs,.slice A2 M.length c2,.int .i64 L]) ?_ rfl
       go_simp
     · intro x w1 bA hb hdep
       refine ⟨fun _ _ p0 q0 hKw=>?_,fun h=>absurd h (by decide),fun h=>absurd h (by decide)⟩
       have e7:bA.tmps[7]?.getD undef=.pointer (some ⟨gl,0,none⟩):=hb 7
       have HKW:=Lib.hid hKw
       clear hKw
       have u0:=HKW.out.2.2.1.cell 0
       have u1:=HKW.out.2.2.1.cell 1
       have u2:=HKW.out.2.2.1.cell 2
       have u3:=HKW.out.2.2.1.cell 3
       have u4:=HKW.out.2.2.1.cell 4
       have u5:=HKW.out.2.2.1.cell 5
       have u6:=HKW.out.2.2.1.cell 6
       have u7:=HKW.out.2.2.1.cell 7
       clear hb hdep
       refine phi_run (.agg #[.int .i64 (h:Int),.int .i64 (up:Int),.int .i64 (ho:Int),.int .i64 (uo:Int),.int .i64 (mo:Int),.int .i64 (g:Int),.int .i64 (m:Int),.int .i64 (go:Int)]) ?_ rfl
       go_simp
     · intro x w1 bA hb hdep
       refine ⟨fun _ _ p0 q0 hKw=>?_,fun h=>absurd h (by decide),fun h=>absurd h (by decide)⟩
       have e3:bA.tmps[3]?.getD undef=.pointer (some ⟨w.heap.size+1,0,none⟩):=hb 3
       have HKW:=Lib.hid hKw
       clear hKw
       have u0:=HKW.out.2.1.cell 0
       have u1:=HKW.out.2.1.cell 1
       have u2:=HKW.out.2.1.cell 2
       have u3:=HKW.out.2.1.cell 3
       have u4:=HKW.out.2.1.cell 4
       clear hb hdep
       refine phi_run (.agg #[.int .i64 kd,.int .i64 (jx:Int),.int .i64 (jy:Int),.int .i64 sg,.bool ov]) ?_ rfl
       go_simp
     · intro x w1 bA hb hdep
       refine ⟨fun _ _ p0 q0 hKw=>?_,fun h=>absurd h (by decide),fun h=>absurd h (by decide)⟩
       have e62:bA.tmps[62]?.getD undef=.agg #[.slice A S.length cs,.slice A2 M.length c2,.int .i64 L]:=(hb 62).trans (hdep 10 (by decide))
       have e63:bA.tmps[63]?.getD undef=.agg #[.int .i64 (h:Int),.int .i64 (up:Int),.int .i64 (ho:Int),.int .i64 (uo:Int),.int .i64 (mo:Int),.int .i64 (g:Int),.int .i64 (m:Int),.int .i64 (go:Int)]:=(hb 63).trans (hdep 11 (by decide))
       have e64:bA.tmps[64]?.getD undef=.agg #[.int .i64 kd,.int .i64 (jx:Int),.int .i64 (jy:Int),.int .i64 sg,.bool ov]:=(hb 64).trans (hdep 12 (by decide))
       have HKW:=Lib.hid hKw
       clear hKw
       clear hb hdep
       refine phi_call ?_ ((HPS.out w1 HKW.out.2.2.2.2.2.2).mono fun e w' h=>(by obtain ⟨⟨mv,he,hm⟩,hb⟩:=h;exact ⟨_,he,hb,hm⟩))
       go_simp
     · intro x w1 bA hb hdep
       refine ⟨fun h=>absurd rfl h,fun _ q0 hKw=>?_,fun h=>absurd h (by decide)⟩
       have e4:bA.tmps[4]?.getD undef=.pointer (some ⟨w.heap.size+2,0,none⟩):=hb 4
       have p61:=hdep 9 (by decide)
       have e61:bA.tmps[61]?.getD undef=x 9:=hb 61
       generalize x 9=x61 at p61 e61
       have P61:=Lib.hid (show (fun v w=>∃ v1 v2,v=.agg #[v1,v2,.int .i64 (L+(q1:Int)+(q2:Int))]/\OwnI 3 (H0+4) w v1 S2/\OwnI 3 (H0+4) w v2 M3) x61 w1 from p61)
       clear p61
       have HKW:=Lib.hid hKw
       clear hKw
       clear hb hdep
       obtain ⟨v1,v2,e61b,o1,o2⟩:=P61.out
       rw [e61b] at e61
       clear e61b P61
       have ST:=Lib.hid (HKW.out.store1 HGL.out (o1.base (by have:=HH0.out;omega)) (o2.base (by have:=HH0.out;omega)))
       have hr:=(show Arr w1 (w.heap.size+2) 24 [.slice none 0 0,.slice none 0 0,.int .i64 0] from HKW.out.2.2.2.2.1)
       obtain ⟨B1,n1,rfl⟩:=o1.form
       obtain ⟨B2,n2,rfl⟩:=o2.form
       clear o1 o2
       have c0:=hr.cell 0
       have f0:=hr.frozen 0
       have c1:=hr.cell 1
       have f1:=hr.frozen 1
       have c2:=hr.cell 2
       have f2:=hr.frozen 2
       clear hr
       refine two_st (((w1.setCell ⟨w.heap.size+2,0,none⟩ (.slice B1 S2.length n1)).setCell ⟨w.heap.size+2,1,none⟩ (.slice B2 M3.length n2)).setCell ⟨w.heap.size+2,2,none⟩ (.int .i64 (L+(q1:Int)+(q2:Int)))) ?_ rfl ST.out.1 ST.out.2 trivial
       go_simp
     · intro x w1 bA hb hdep
       refine ⟨fun _ h=>absurd rfl h,fun h=>absurd h (by decide),fun _ p0 hKw=>?_⟩
       have e5:bA.tmps[5]?.getD undef=.pointer (some ⟨w.heap.size+3,0,none⟩):=hb 5
       have p65:=hdep 13 (by decide)
       have e65:bA.tmps[65]?.getD undef=x 13:=hb 65
       generalize x 13=x65 at p65 e65
       have P65:=Lib.hid (show (fun v w=>MvV v) x65 w1 from p65)
       clear p65
       have HKW:=Lib.hid hKw
       clear hKw
       clear hb hdep
       obtain ⟨a1,b1,c1v,d1,o1v,e65b⟩:=P65.out
       rw [e65b] at e65
       clear e65b P65
       have ST:=Lib.hid (HKW.out.store2 HGL.out a1 b1 c1v d1 o1v)
       have hr:=(show Arr w1 (w.heap.size+3) 26 [.int .i64 0,.int .i64 0,.int .i64 0,.int .i64 0,.bool false] from HKW.out.2.2.2.2.2.1)
       have c0:=hr.cell 0
       have f0:=hr.frozen 0
       have c1:=hr.cell 1
       have f1:=hr.frozen 1
       have c2:=hr.cell 2
       have f2:=hr.frozen 2
       have c3:=hr.cell 3
       have f3:=hr.frozen 3
       have c4:=hr.cell 4
       have f4:=hr.frozen 4
       clear hr
       refine two_st (((((w1.setCell ⟨w.heap.size+3,0,none⟩ (.int .i64 a1)).setCell ⟨w.heap.size+3,1,none⟩ (.int .i64 b1)).setCell ⟨w.heap.size+3,2,none⟩ (.int .i64 c1v)).setCell ⟨w.heap.size+3,3,none⟩ (.int .i64 d1)).setCell ⟨w.heap.size+3,4,none⟩ (.bool o1v)) ?_ rfl ST.out.1 ST.out.2 trivial
       go_simp
     · intro x w1 bA hb hdep
       refine ⟨fun _ _ p0 q0 hKw=>?_,fun h=>absurd h (by decide),fun h=>absurd h (by decide)⟩
       have HKW:=Lib.hid hKw
       clear hKw
       clear hb hdep
       refine phi_run (.int .i64 0) ?_ rfl
       go_simp
     intro x w1 hKE hall
     have x0e:x 0=.pointer (some ⟨w.heap.size,0,none⟩):=hall 0 (by simp)
     have x1e:x 1=.slice A S.length cs:=hall 1 (by simp)
     have x2e:x 2=.slice Am M.length cm:=hall 2 (by simp)
     have x3e:x 3=.int .i64 (L+(q1:Int)+(q2:Int)):=hall 3 (by simp)
     have x4e:x 4=.pointer (some ⟨w.heap.size+1,1,none⟩):=hall 4 (by simp)
     have x5e:x 5=.int .i64 (jx:Int):=hall 5 (by simp)
     have x6e:x 6=.pointer (some ⟨w.heap.size+1,2,none⟩):=hall 6 (by simp)
     have x7e:x 7=.int .i64 (jy:Int):=hall 7 (by simp)
     have x10e:x 10=.agg #[.slice A S.length cs,.slice A2 M.length c2,.int .i64 L]:=hall 10 (by simp)
     have x11e:x 11=.agg #[.int .i64 (h:Int),.int .i64 (up:Int),.int .i64 (ho:Int),.int .i64 (uo:Int),.int .i64 (mo:Int),.int .i64 (g:Int),.int .i64 (m:Int),.int .i64 (go:Int)]:=hall 11 (by simp)
     have x12e:x 12=.agg #[.int .i64 kd,.int .i64 (jx:Int),.int .i64 (jy:Int),.int .i64 sg,.bool ov]:=hall 12 (by simp)
     have x16e:x 16=.int .i64 0:=hall 16 (by simp)
     simp only [putAll,dstOf,Act.put,List.map_cons,List.map_nil,List.setIfInBounds_toArray,List.set_cons_succ,List.set_cons_zero,Nat.reduceAdd,x0e,x1e,x2e,x3e,x4e,x5e,x6e,x7e,x10e,x11e,x12e,x16e]
     clear hall x0e x1e x2e x3e x4e x5e x6e x7e x10e x11e x12e x16e
     obtain ⟨v1,v2,a2,o1,o2⟩:=(show ∃ v1 v2,Arr w1 (w.heap.size+2) 24 [v1,v2,.int .i64 (L+(q1:Int)+(q2:Int))]/\OwnI 3 (w.heap.size+2+2) w1 v1 S2/\OwnI 3 (w.heap.size+2+2) w1 v2 M3 from hKE.2.2.2.2.1)
     obtain ⟨ra,rb,rc,rd,ro,a3⟩:=(show ∃ (a b c d:Int) (o:Bool),Arr w1 (w.heap.size+3) 26 [.int .i64 a,.int .i64 b,.int .i64 c,.int .i64 d,.bool o] from hKE.2.2.2.2.2.1)
     have HA2:=Lib.hid a2
     have HA3:=Lib.hid a3
     have O1:=Lib.hid o1
     have O2:=Lib.hid o2
     have HBW:=Lib.hid hKE.2.2.2.2.2.2
     clear a2 a3 o1 o2 hKE
     go_wp2_with fail
     refine bodyPost_ret (v:=.tuple #[.agg #[v1,v2,.int .i64 (L+(q1:Int)+(q2:Int))],.agg #[.int .i64 ra,.int .i64 rb,.int .i64 rc,.int .i64 rd,.bool ro],.int .i64 0]) (results_cct Try.results17 _ _ (w.heap.size+2) (w.heap.size+3) 24 26 _ _ _ _ rfl HA2.out rfl HA3.out Try.underlying24 rfl info_diag Try.underlying26 rfl info_move) rfl ?_
     exact ⟨⟨_,_,S2,M3,_,_,0,rfl,⟨_,_,_,_,_,rfl⟩,O1.out.base (Nat.zero_le _),O2.out.base (Nat.zero_le _),fun _=>HL1.out⟩,HBW.out⟩
end Go.Proofs.Ytfnmeigpfmeomaa
