/- moves.slide. -/
import Derived.Test.YtfnmeigpfmeomaaZfDcl
import Derived.Test.YtfnmeigpfmeomaaZfTwo
import Derived.BigRegion
import Derived.Test.YtfnmeigpfmeomaaZfUnk
namespace Go.Proofs.Ytfnmeigpfmeomaa
open Go.RowKit
set_option linter.unusedVariables false
theorem TriR.split {M:List Int} {h:Nat} {e:Ending} (t:TriR M h e):(∃ z0 z1 z2 z3 z4 z5 z6 z7 z8 z9 z10 z11:Int,e=.returned (.tuple #[.agg #[.int .i64 z0,.int .i64 z1,.int .i64 z2,.int .i64 z3,.int .i64 z4,.int .i64 z5,.int .i64 z6,.int .i64 z7,.int .i64 z8,.int .i64 z9,.int .i64 z10,.int .i64 z11],.bool false])) \/
 ∃ i1 j1 o1 n1 o2 n2 o3 n3:Nat,e=.returned (.tuple #[.agg #[.int .i64 (opp o1:Nat),.int .i64 (o1:Nat),.int .i64 (n1:Nat),.int .i64 (opp n1:Nat),.int .i64 (opp o2:Nat),.int .i64 (o2:Nat),.int .i64 (n2:Nat),.int .i64 (opp n2:Nat),.int .i64 (opp o3:Nat),.int .i64 (o3:Nat),.int .i64 (n3:Nat),.int .i64 (opp n3:Nat)],.bool true])/\PE M h o1 n1/\PE M i1 o2 n2/\PE M j1 o3 n3/\Trg M h i1 j1/\ovC o1 n1+ovC o2 n2+ovC o3 n3=1/\unC o1 n1+unC o2 n2+unC o3 n3=1:=by
 rcases t with rfl|⟨i1,j1,o1,n1,o2,n2,o3,n3,b,rfl,p1,p2,p3,hb⟩
 · exact .inl ⟨0,0,0,0,0,0,0,0,0,0,0,0,rfl⟩
 · cases b
   · exact .inl ⟨_,_,_,_,_,_,_,_,_,_,_,_,rfl⟩
   · obtain ⟨t1,t2,t3⟩:=hb rfl
     exact .inr ⟨i1,j1,o1,n1,o2,n2,o3,n3,rfl,p1,p2,p3,t1,t2,t3⟩
set_option maxHeartbeats 16000000 in
set_option maxRecDepth 100000 in
theorem slide_any (vs vm:Value) (S M:List Int) (L kd Y sg:Int) (ov:Bool) (jx:Nat) (w:World) (hS:Ints w vs S) (hM:Ints w vm M) (k:Ok S M L) (hx:jx<4*S.length) (hn:S.length<=7) :
 Calls Try.prog 18 #[.agg #[vs,vm,.int .i64 L],.agg #[.int .i64 kd,.int .i64 (jx:Nat),.int .i64 Y,.int .i64 sg,.bool ov]] w fun e w'=>MvE (fun S' M' L'=>MvQ S M L S' M' L') e w'/\Below w.heap.size w w':=by
 have KT:=Lib.hid (fun W (hb:Below w.heap.size w W)=>triangle_any vs vm S M L jx W (hS.below hb) (hM.below hb) k hx hn)
 have KC:=Lib.hid (fun W (hb:Below w.heap.size w W)=>dclone_any vs vm S M L W (hS.below hb) (hM.below hb) (by omega) (by have:=k.m;omega))
 have GM:=Lib.hid (fun W (hb:Below w.heap.size w W)=>hM.below hb)
 have HLM:=Lib.hid (show M.length=4*S.length/\S.length<=7 from ⟨k.m,hn⟩)
 have HXL:=Lib.hid (show jx<M.length by have:=k.m;omega)
 have HOK:=Lib.hid k
 have hlm:(M.length:Int)<=28:=by have:=k.m;omega
 obtain ⟨A0,cs,rfl,hcs,hx1⟩:=hS
 obtain ⟨A2,c2,rfl,hc2,hx2⟩:=hM
 clear hx1 hx2 hcs hc2 k hx hn
 go_enter Try.func18,Try.ntmps18
 go_upto_region 1 with fail
 have hW:=Bx4.start ((((w.alloc (.cells #[.slice A0 S.length cs,.slice A2 M.length c2,.int .i64 L] 24)).alloc (.cells #[.int .i64 kd,.int .i64 (jx:Nat),.int .i64 Y,.int .i64 sg,.bool ov] 26)).alloc (.cells #[.slice none 0 0,.slice none 0 0,.int .i64 0] 24)).alloc (.cells #[.int .i64 0,.int .i64 0,.int .i64 0,.int .i64 0,.bool false] 26)) _ _ L kd (jx:Nat) Y sg ov w rfl
 generalize ((((w.alloc (.cells #[.slice A0 S.length cs,.slice A2 M.length c2,.int .i64 L] 24)).alloc (.cells #[.int .i64 kd,.int .i64 (jx:Nat),.int .i64 Y,.int .i64 sg,.bool ov] 26)).alloc (.cells #[.slice none 0 0,.slice none 0 0,.int .i64 0] 24)).alloc (.cells #[.int .i64 0,.int .i64 0,.int .i64 0,.int .i64 0,.bool false] 26))=w4 at hW ⊢
 have HW:=Lib.hid hW
 clear hW
 have y0:=HW.out.1.cell 0
 have y1:=HW.out.1.cell 1
 have y2:=HW.out.1.cell 2
 have m1:=HW.out.2.1.cell 1
 go_upto_region 2 with (go_at_call 42;refine (KT.out _ HW.out.2.2.2.2).mono ?_;rintro e w5 ⟨htr,hb5⟩;rcases htr.split with ⟨z0,z1,z2,z3,z4,z5,z6,z7,z8,z9,z10,z11,rfl⟩|⟨i1,j1,o1,n1,o2,n2,o3,n3,rfl,hp1,hp2,hp3,htg,hs1,hs2⟩)
 · have HBX0:=Lib.hid (HW.out.below hb5 HW.out.lt)
   have HBX:=Lib.hid (HBX0.out.below (((Below.refl _ _).alloc (Nat.le_refl _) (.cells #[.int .i64 z0,.int .i64 z1,.int .i64 z2,.int .i64 z3,.int .i64 z4,.int .i64 z5,.int .i64 z6,.int .i64 z7,.int .i64 z8,.int .i64 z9,.int .i64 z10,.int .i64 z11] 76):Below w5.heap.size w5 _)) HBX0.out.lt)
   clear HW y0 y1 y2 m1 hb5 KT HBX0 htr
   generalize (w5.alloc (.cells #[.int .i64 z0,.int .i64 z1,.int .i64 z2,.int .i64 z3,.int .i64 z4,.int .i64 z5,.int .i64 z6,.int .i64 z7,.int .i64 z8,.int .i64 z9,.int .i64 z10,.int .i64 z11] 76))=w6 at HBX ⊢
   have x0:=HBX.out.2.2.1.cell 0
   have x1:=HBX.out.2.2.1.cell 1
   have x2:=HBX.out.2.2.1.cell 2
   have f0:=HBX.out.2.2.1.frozen 0
   have f1:=HBX.out.2.2.1.frozen 1
   have f2:=HBX.out.2.2.1.frozen 2
   have z0:=HBX.out.2.2.2.1.cell 0
   have z1:=HBX.out.2.2.2.1.cell 1
   have z2:=HBX.out.2.2.2.1.cell 2
   have z3:=HBX.out.2.2.2.1.cell 3
   have z4:=HBX.out.2.2.2.1.cell 4
   have g0:=HBX.out.2.2.2.1.frozen 0
   have g1:=HBX.out.2.2.2.1.frozen 1
   have g2:=HBX.out.2.2.2.1.frozen 2
   have g3:=HBX.out.2.2.2.1.frozen 3
   have g4:=HBX.out.2.2.2.1.frozen 4
   have HA:=Lib.hid (Arr.stored HBX.out.2.2.1 HBX.out.2.2.2.1 (by simp) (.slice none 0 0) (.slice none 0 0) (.int .i64 0) (.int .i64 0) (.int .i64 0) (.int .i64 0) (.int .i64 0) (.bool false))
   have HB:=Lib.hid (below_stored HBX.out.2.2.2.2 (r:=w.heap.size+2) (q:=w.heap.size+3) (by simp) (by simp) (.slice none 0 0) (.slice none 0 0) (.int .i64 0) (.int .i64 0) (.int .i64 0) (.int .i64 0) (.int .i64 0) (.bool false))
   go_wp2_with fail
   refine bodyPost_ret (v:=.tuple #[.agg #[.slice none 0 0,.slice none 0 0,.int .i64 0],.agg #[.int .i64 0,.int .i64 0,.int .i64 0,.int .i64 0,.bool false],.int .i64 6]) (results_cct Try.results18 _ _ (w.heap.size+2) (w.heap.size+3) 24 26 _ _ _ _ rfl HA.out.1 rfl HA.out.2 Try.underlying24 rfl info_diag Try.underlying26 rfl info_move) rfl ?_
   exact ⟨MvE.err (by decide),HB.out⟩
 · have HBX0:=Lib.hid (HW.out.below hb5 HW.out.lt)
   clear HW y0 y1 y2 m1 hb5 KT htr
   have HPE:=Lib.hid (show PE M jx o1 n1/\PE M i1 o2 n2/\PE M j1 o3 n3 from ⟨hp1,hp2,hp3⟩)
   have HEN:=Lib.hid (htg.ends hp1 hp2 hp3)
   have HLAW:=Lib.hid (slide_fin HOK.out htg HXL.out hp1 hp2 hp3 hs1 hs2)
   have HBO:=Lib.hid (show (o1<M.length/\n1<M.length)/\(o2<M.length/\n2<M.length)/\(o3<M.length/\n3<M.length) from ⟨⟨hp1.1,hp1.2.1⟩,⟨hp2.1,hp2.2.1⟩,⟨hp3.1,hp3.2.1⟩⟩)
   clear hp1 hp2 hp3 htg hs1 hs2
   obtain ⟨w6,hw6⟩:∃ W,W=w5.alloc (.cells #[.int .i64 (opp o1:Nat),.int .i64 (o1:Nat),.int .i64 (n1:Nat),.int .i64 (opp n1:Nat),.int .i64 (opp o2:Nat),.int .i64 (o2:Nat),.int .i64 (n2:Nat),.int .i64 (opp n2:Nat),.int .i64 (opp o3:Nat),.int .i64 (o3:Nat),.int .i64 (n3:Nat),.int .i64 (opp n3:Nat)] 76):=⟨_,rfl⟩
   have HTR0:Hid (Arr w6 w5.heap.size 76 [.int .i64 (opp o1:Nat),.int .i64 (o1:Nat),.int .i64 (n1:Nat),.int .i64 (opp n1:Nat),.int .i64 (opp o2:Nat),.int .i64 (o2:Nat),.int .i64 (n2:Nat),.int .i64 (opp n2:Nat),.int .i64 (opp o3:Nat),.int .i64 (o3:Nat),.int .i64 (n3:Nat),.int .i64 (opp n3:Nat)]):=by rw [hw6];exact Lib.hid (Arr.new _ _ [.int .i64 (opp o1:Nat),.int .i64 (o1:Nat),.int .i64 (n1:Nat),.int .i64 (opp n1:Nat),.int .i64 (opp o2:Nat),.int .i64 (o2:Nat),.int .i64 (n2:Nat),.int .i64 (opp n2:Nat),.int .i64 (opp o3:Nat),.int .i64 (o3:Nat),.int .i64 (n3:Nat),.int .i64 (opp n3:Nat)])
   have hb6:Below w5.heap.size w5 w6:=by rw [hw6];exact (Below.refl _ _).alloc (Nat.le_refl _) _
   rw [<- hw6]
   clear hw6
   obtain ⟨oo1,hoo1⟩:∃ z,z=opp o1:=⟨_,rfl⟩
   obtain ⟨no1,hno1⟩:∃ z,z=opp n1:=⟨_,rfl⟩
   obtain ⟨oo2,hoo2⟩:∃ z,z=opp o2:=⟨_,rfl⟩
   obtain ⟨no2,hno2⟩:∃ z,z=opp n2:=⟨_,rfl⟩
   obtain ⟨oo3,hoo3⟩:∃ z,z=opp o3:=⟨_,rfl⟩
   obtain ⟨no3,hno3⟩:∃ z,z=opp n3:=⟨_,rfl⟩
   rw [<- hoo1,<- hno1,<- hoo2,<- hno2,<- hoo3,<- hno3] at HTR0 HEN
   have HOO:=Lib.hid (show (oo1=opp o1/\no1=opp n1)/\(oo2=opp o2/\no2=opp n2)/\(oo3=opp o3/\no3=opp n3) from ⟨⟨hoo1,hno1⟩,⟨hoo2,hno2⟩,⟨hoo3,hno3⟩⟩)
   have HBB:=Lib.hid (show (oo1<M.length/\no1<M.length)/\(oo2<M.length/\no2<M.length)/\(oo3<M.length/\no3<M.length) by
    have h1:=HBO.out
    have h2:=HLM.out.1
    have l:∀ z,z<M.length->opp z<M.length:=fun z hz=>by have:=opp_div z;omega
    rw [hoo1,hno1,hoo2,hno2,hoo3,hno3]
    exact ⟨⟨l _ h1.1.1,l _ h1.1.2⟩,⟨l _ h1.2.1.1,l _ h1.2.1.2⟩,⟨l _ h1.2.2.1,l _ h1.2.2.2⟩⟩)
   clear hoo1 hno1 hoo2 hno2 hoo3 hno3
   have HBX:=Lib.hid (HBX0.out.below hb6 HBX0.out.lt)
   have HG7:=Lib.hid HBX0.out.lt
   clear HBX0 hb6
   generalize w5.heap.size=g7 at *
   have y1:=HBX.out.1.cell 1
   have mk:=mk_zeros M.length (by have:=HLM.out;omega)
   obtain ⟨w7,hw7⟩:∃ W,W=w6.alloc (.cells (rowOf (List.replicate M.length (.int .i64 0))) 3):=⟨_,rfl⟩
   go_upto_region 5 with fail
   rw [<- hw7]
   clear mk y1
   have hb7:Below w6.heap.size w6 w7:=by rw [hw7];exact (Below.refl _ _).alloc (Nat.le_refl _) _
   have HTO:Hid (Arr w7 w6.heap.size 3 (TL M.length (idF 0))):=by rw [hw7,<- idF_zero,<- TL_zero];exact Lib.hid (Arr.new _ _ _)
   have HBX7:=Lib.hid (HBX.out.below hb7 HBX.out.lt)
   have HTR:=Lib.hid (HTR0.out.below hb7 HTR0.out.lt)
   have HGT:=Lib.hid (show w.heap.size+4<=w6.heap.size/\g7<w6.heap.size from ⟨HBX.out.lt,HTR0.out.lt⟩)
   clear hw7 hb7 HBX HTR0
   generalize w6.heap.size=gt at *
   go_wp2_with fail
   go_loopg [40] M.length (fun gk s40 wr=>∃ k:Nat,k<=M.length/\gk=M.length-k/\s40=.int .i64 (k:Int)/\Hid (Bx4 w wr [.slice A0 S.length cs,.slice A2 M.length c2,.int .i64 L] [.int .i64 kd,.int .i64 (jx:Nat),.int .i64 Y,.int .i64 sg,.bool ov]/\Arr wr g7 76 [.int .i64 (oo1:Nat),.int .i64 (o1:Nat),.int .i64 (n1:Nat),.int .i64 (no1:Nat),.int .i64 (oo2:Nat),.int .i64 (o2:Nat),.int .i64 (n2:Nat),.int .i64 (no2:Nat),.int .i64 (oo3:Nat),.int .i64 (o3:Nat),.int .i64 (n3:Nat),.int .i64 (no3:Nat)]/\Arr wr gt 3 (TL M.length (idF k))))
   case atStart=>exact ⟨0,Nat.zero_le _,rfl,rfl,Lib.hid ⟨HBX7.out,HTR.out,HTO.out⟩⟩
   case round =>
    clear HBX7 HTR HTO
    obtain ⟨k,hk,rfl,rfl,hh⟩:=hrel
    by_cases hlt:k<M.length
    · have z1:(k:Int)<(M.length:Int):=by omega
      have u0:wr.cell? ⟨gt,k,none⟩=some (.int .i64 (idF k k:Nat)):=by rw [hh.out.2.2.cell,TL_get hlt]
      have f0:=hh.out.2.2.frozen k
      generalize idF k k=ik at u0
      have HN:=Lib.hid (show Bx4 w (wr.setCell ⟨gt,k,none⟩ (.int .i64 (k:Nat))) [.slice A0 S.length cs,.slice A2 M.length c2,.int .i64 L] [.int .i64 kd,.int .i64 (jx:Nat),.int .i64 Y,.int .i64 sg,.bool ov]/\Arr (wr.setCell ⟨gt,k,none⟩ (.int .i64 (k:Nat))) g7 76 [.int .i64 (oo1:Nat),.int .i64 (o1:Nat),.int .i64 (n1:Nat),.int .i64 (no1:Nat),.int .i64 (oo2:Nat),.int .i64 (o2:Nat),.int .i64 (n2:Nat),.int .i64 (no2:Nat),.int .i64 (oo3:Nat),.int .i64 (o3:Nat),.int .i64 (n3:Nat),.int .i64 (no3:Nat)]/\Arr (wr.setCell ⟨gt,k,none⟩ (.int .i64 (k:Nat))) gt 3 (TL M.length (idF (k+1))) from ⟨hh.out.1.set HGT.out.1,hh.out.2.1.far (p:=⟨gt,k,none⟩) (by have:=HGT.out.2;simp;omega) _,by rw [<- idF_step,<- TL_set];exact hh.out.2.2.set k _⟩)
      clear hh hlt
      go_wp2_with fail
      go_roundg (M.length-(k+1))
      case measure=>omega
      case rel=>exact ⟨k+1,by omega,rfl,by go_num,HN⟩
    · have z1:¬ (k:Int)<(M.length:Int):=by omega
      obtain rfl:k=M.length:=by omega
      have HBX:=Lib.hid hh.out.1
      have HTR:=Lib.hid hh.out.2.1
      have HTO:=Lib.hid (show Arr wr gt 3 (TL M.length (fun z=>z)) by rw [<- TL_idF];exact hh.out.2.2)
      clear hh hlt
      have y1:=HBX.out.1.cell 1
      have mk:=mk_bools M.length (by have:=HLM.out;omega)
      obtain ⟨w8,hw8⟩:∃ W,W=wr.alloc (.cells (rowOf (List.replicate M.length (.bool false))) 4):=⟨_,rfl⟩
      go_upto_region 11 with fail
      rw [<- hw8]
      clear mk y1 z1
      have hb8:Below wr.heap.size wr w8:=by rw [hw8];exact (Below.refl _ _).alloc (Nat.le_refl _) _
      have HST:Hid (SlS w g7 gt wr.heap.size M.length [.slice A0 S.length cs,.slice A2 M.length c2,.int .i64 L] [.int .i64 kd,.int .i64 (jx:Nat),.int .i64 Y,.int .i64 sg,.bool ov] [.int .i64 (oo1:Nat),.int .i64 (o1:Nat),.int .i64 (n1:Nat),.int .i64 (no1:Nat),.int .i64 (oo2:Nat),.int .i64 (o2:Nat),.int .i64 (n2:Nat),.int .i64 (no2:Nat),.int .i64 (oo3:Nat),.int .i64 (o3:Nat),.int .i64 (n3:Nat),.int .i64 (no3:Nat)] (fun z=>z) (fun _=>false) w8):=Lib.hid ⟨HBX.out.below hb8 HBX.out.lt,HTR.out.below hb8 HTR.out.lt,HTO.out.below hb8 HTO.out.lt,by rw [hw8,<- BL_zero];exact Arr.new _ _ _,⟨by have:=HTO.out.lt;omega,HG7.out,HGT.out.1,HBX.out.lt,by have:=HGT.out.2;omega,by have:=HTR.out.lt;omega⟩⟩
      clear HBX HTR HTO hw8 hb8 HG7 HGT
      generalize wr.heap.size=gb at *
      have t0:=HST.out.tri.cell 0
      have t1:=HST.out.tri.cell 1
      have t2:=HST.out.tri.cell 2
      have t3:=HST.out.tri.cell 3
      have t4:=HST.out.tri.cell 4
      have t5:=HST.out.tri.cell 5
      have t6:=HST.out.tri.cell 6
      have t7:=HST.out.tri.cell 7
      have t8:=HST.out.tri.cell 8
      have t9:=HST.out.tri.cell 9
      have t10:=HST.out.tri.cell 10
      have t11:=HST.out.tri.cell 11
      go_wp2_with fail
      clear t0 t1 t2 t3 t4 t5 t6 t7 t8 t9 t10 t11
      go_loopg [53] 3 (fun gk s53 wr=>(gk=3/\s53=.int .i64 0/\Hid (SlS w g7 gt gb M.length [.slice A0 S.length cs,.slice A2 M.length c2,.int .i64 L] [.int .i64 kd,.int .i64 (jx:Nat),.int .i64 Y,.int .i64 sg,.bool ov] [.int .i64 (oo1:Nat),.int .i64 (o1:Nat),.int .i64 (n1:Nat),.int .i64 (no1:Nat),.int .i64 (oo2:Nat),.int .i64 (o2:Nat),.int .i64 (n2:Nat),.int .i64 (no2:Nat),.int .i64 (oo3:Nat),.int .i64 (o3:Nat),.int .i64 (n3:Nat),.int .i64 (no3:Nat)] (fun z=>z) (fun _=>false) wr))\/(gk=2/\s53=.int .i64 1/\Hid (SlS w g7 gt gb M.length [.slice A0 S.length cs,.slice A2 M.length c2,.int .i64 L] [.int .i64 kd,.int .i64 (jx:Nat),.int .i64 Y,.int .i64 sg,.bool ov] [.int .i64 (oo1:Nat),.int .i64 (o1:Nat),.int .i64 (n1:Nat),.int .i64 (no1:Nat),.int .i64 (oo2:Nat),.int .i64 (o2:Nat),.int .i64 (n2:Nat),.int .i64 (no2:Nat),.int .i64 (oo3:Nat),.int .i64 (o3:Nat),.int .i64 (n3:Nat),.int .i64 (no3:Nat)] (stF (fun z=>z) o1 n1) (stP (fun _=>false) o1 n1) wr))\/(gk=1/\s53=.int .i64 2/\Hid (SlS w g7 gt gb M.length [.slice A0 S.length cs,.slice A2 M.length c2,.int .i64 L] [.int .i64 kd,.int .i64 (jx:Nat),.int .i64 Y,.int .i64 sg,.bool ov] [.int .i64 (oo1:Nat),.int .i64 (o1:Nat),.int .i64 (n1:Nat),.int .i64 (no1:Nat),.int .i64 (oo2:Nat),.int .i64 (o2:Nat),.int .i64 (n2:Nat),.int .i64 (no2:Nat),.int .i64 (oo3:Nat),.int .i64 (o3:Nat),.int .i64 (n3:Nat),.int .i64 (no3:Nat)] (stF (stF (fun z=>z) o1 n1) o2 n2) (stP (stP (fun _=>false) o1 n1) o2 n2) wr))\/(gk=0/\s53=.int .i64 3/\Hid (SlS w g7 gt gb M.length [.slice A0 S.length cs,.slice A2 M.length c2,.int .i64 L] [.int .i64 kd,.int .i64 (jx:Nat),.int .i64 Y,.int .i64 sg,.bool ov] [.int .i64 (oo1:Nat),.int .i64 (o1:Nat),.int .i64 (n1:Nat),.int .i64 (no1:Nat),.int .i64 (oo2:Nat),.int .i64 (o2:Nat),.int .i64 (n2:Nat),.int .i64 (no2:Nat),.int .i64 (oo3:Nat),.int .i64 (o3:Nat),.int .i64 (n3:Nat),.int .i64 (no3:Nat)] (stF (stF (stF (fun z=>z) o1 n1) o2 n2) o3 n3) (stP (stP (stP (fun _=>false) o1 n1) o2 n2) o3 n3) wr)))
      case atStart=>exact .inl ⟨rfl,rfl,HST⟩
      case round =>
       clear HST
       rcases hrel with ⟨rfl,rfl,hr⟩|⟨rfl,rfl,hr⟩|⟨rfl,rfl,hr⟩|⟨rfl,rfl,hr⟩
       · have ix:∀ w,(Instr.index 76 (.agg #[.int .i64 (oo1:Nat),.int .i64 (o1:Nat),.int .i64 (n1:Nat),.int .i64 (no1:Nat),.int .i64 (oo2:Nat),.int .i64 (o2:Nat),.int .i64 (n2:Nat),.int .i64 (no2:Nat),.int .i64 (oo3:Nat),.int .i64 (o3:Nat),.int .i64 (n3:Nat),.int .i64 (no3:Nat)]) (.int .i64 0)).run Try.prog w=.ok (.agg #[.int .i64 (oo1:Nat),.int .i64 (o1:Nat),.int .i64 (n1:Nat),.int .i64 (no1:Nat)]) w:=fun _=>by kernel_rfl
         obtain ⟨wa,hwa⟩:∃ W,W=wr.alloc (.cells #[.int .i64 (oo1:Nat),.int .i64 (o1:Nat),.int .i64 (n1:Nat),.int .i64 (no1:Nat)] 75):=⟨_,rfl⟩
         have hba:Below wr.heap.size wr wa:=by rw [hwa];exact (Below.refl _ _).alloc (Nat.le_refl _) _
         have HPS:Hid (Arr wa wr.heap.size 75 [.int .i64 (oo1:Nat),.int .i64 (o1:Nat),.int .i64 (n1:Nat),.int .i64 (no1:Nat)]):=by rw [hwa];exact Lib.hid (Arr.new _ _ [_,_,_,_])
         go_upto_region 14 with fail
         rw [<- hwa]
         clear hwa ix
         have HST:=Lib.hid (hr.out.grow hba)
         have HNE:=Lib.hid (show wr.heap.size≠gt/\wr.heap.size≠gb/\w.heap.size+4<=wr.heap.size from ⟨by have:=hr.out.tt.lt;omega,by have:=hr.out.out.lt;omega,hr.out.box.lt⟩)
         clear hr hba
         generalize wr.heap.size=gp at *
         have p0:=HPS.out.cell 0
         have p1:=HPS.out.cell 1
         have p2:=HPS.out.cell 2
         have p3:=HPS.out.cell 3
         have b1:=HBB.out.1.1
         have b2:=HBB.out.1.2
         have u1:wa.cell? ⟨gt,oo1,none⟩=some (.int .i64 ((fun z=>z) oo1:Nat)):=by rw [HST.out.tt.cell,TL_get b1]
         have u2:wa.cell? ⟨gt,no1,none⟩=some (.int .i64 ((fun z=>z) no1:Nat)):=by rw [HST.out.tt.cell,TL_get b2]
         generalize (fun z=>z) oo1=v1_ at u1
         generalize (fun z=>z) no1=v2_ at u2
         have f1:=HST.out.tt.frozen oo1
         have f2:=HST.out.tt.frozen no1
         have n1_:oo1≠no1:=HEN.out.1
         have n2_:no1≠oo1:=n1_.symm
         have n3_:gp≠gt:=HNE.out.1
         have n4_:gt≠gp:=n3_.symm
         have z1:(oo1:Int)<(M.length:Int):=by omega
         have z2:(no1:Int)<(M.length:Int):=by omega
         have HS1:=Lib.hid (show SlS w g7 gt gb M.length [.slice A0 S.length cs,.slice A2 M.length c2,.int .i64 L] [.int .i64 kd,.int .i64 (jx:Nat),.int .i64 Y,.int .i64 sg,.bool ov] [.int .i64 (oo1:Nat),.int .i64 (o1:Nat),.int .i64 (n1:Nat),.int .i64 (no1:Nat),.int .i64 (oo2:Nat),.int .i64 (o2:Nat),.int .i64 (n2:Nat),.int .i64 (no2:Nat),.int .i64 (oo3:Nat),.int .i64 (o3:Nat),.int .i64 (n3:Nat),.int .i64 (no3:Nat)] (stF (fun z=>z) o1 n1) (fun _=>false) ((wa.setCell ⟨gt,oo1,none⟩ (.int .i64 (n1:Nat))).setCell ⟨gt,no1,none⟩ (.int .i64 (o1:Nat))).drew from (HST.out.edge HOO.out.1.1 HOO.out.1.2).drew)
         have HP1:=Lib.hid (show Arr ((wa.setCell ⟨gt,oo1,none⟩ (.int .i64 (n1:Nat))).setCell ⟨gt,no1,none⟩ (.int .i64 (o1:Nat))).drew gp 75 [.int .i64 (oo1:Nat),.int .i64 (o1:Nat),.int .i64 (n1:Nat),.int .i64 (no1:Nat)] from ((HPS.out.far (p:=⟨gt,oo1,none⟩) n3_ _).far (p:=⟨gt,no1,none⟩) n3_ _).drew)
         go_region
         go_upto_region 15 with fail
         clear p0 p1 p2 p3 u1 u2 f1 f2 n3_ n4_ HST HPS
         generalize ((wa.setCell ⟨gt,oo1,none⟩ (.int .i64 (n1:Nat))).setCell ⟨gt,no1,none⟩ (.int .i64 (o1:Nat))).drew=wb at *
         have p0:=HP1.out.cell 0
         have p3:=HP1.out.cell 3
         have u1:wb.cell? ⟨gb,oo1,none⟩=some (.bool ((fun _=>false) oo1)):=by rw [HS1.out.out.cell,BL_get b1]
         have u2:wb.cell? ⟨gb,no1,none⟩=some (.bool ((fun _=>false) no1)):=by rw [HS1.out.out.cell,BL_get b2]
         generalize (fun _=>false) oo1=v1_ at u1
         generalize (fun _=>false) no1=v2_ at u2
         have f1:=HS1.out.out.frozen oo1
         have f2:=HS1.out.out.frozen no1
         have n3_:gp≠gb:=HNE.out.2.1
         have n4_:gb≠gp:=n3_.symm
         have HS2:=Lib.hid (show SlS w g7 gt gb M.length [.slice A0 S.length cs,.slice A2 M.length c2,.int .i64 L] [.int .i64 kd,.int .i64 (jx:Nat),.int .i64 Y,.int .i64 sg,.bool ov] [.int .i64 (oo1:Nat),.int .i64 (o1:Nat),.int .i64 (n1:Nat),.int .i64 (no1:Nat),.int .i64 (oo2:Nat),.int .i64 (o2:Nat),.int .i64 (n2:Nat),.int .i64 (no2:Nat),.int .i64 (oo3:Nat),.int .i64 (o3:Nat),.int .i64 (n3:Nat),.int .i64 (no3:Nat)] (stF (fun z=>z) o1 n1) (stP (fun _=>false) o1 n1) ((wb.setCell ⟨gb,oo1,none⟩ (.bool true)).setCell ⟨gb,no1,none⟩ (.bool true)).drew from (HS1.out.mark HOO.out.1.1 HOO.out.1.2).drew)
         go_region
         go_wp2_with fail
         go_roundg 2
         case measure=>omega
         case rel=>exact .inr (.inl ⟨rfl,by go_num,HS2⟩)
       · have ix:∀ w,(Instr.index 76 (.agg #[.int .i64 (oo1:Nat),.int .i64 (o1:Nat),.int .i64 (n1:Nat),.int .i64 (no1:Nat),.int .i64 (oo2:Nat),.int .i64 (o2:Nat),.int .i64 (n2:Nat),.int .i64 (no2:Nat),.int .i64 (oo3:Nat),.int .i64 (o3:Nat),.int .i64 (n3:Nat),.int .i64 (no3:Nat)]) (.int .i64 1)).run Try.prog w=.ok (.agg #[.int .i64 (oo2:Nat),.int .i64 (o2:Nat),.int .i64 (n2:Nat),.int .i64 (no2:Nat)]) w:=fun _=>by kernel_rfl
         obtain ⟨wa,hwa⟩:∃ W,W=wr.alloc (.cells #[.int .i64 (oo2:Nat),.int .i64 (o2:Nat),.int .i64 (n2:Nat),.int .i64 (no2:Nat)] 75):=⟨_,rfl⟩
         have hba:Below wr.heap.size wr wa:=by rw [hwa];exact (Below.refl _ _).alloc (Nat.le_refl _) _
         have HPS:Hid (Arr wa wr.heap.size 75 [.int .i64 (oo2:Nat),.int .i64 (o2:Nat),.int .i64 (n2:Nat),.int .i64 (no2:Nat)]):=by rw [hwa];exact Lib.hid (Arr.new _ _ [_,_,_,_])
         go_upto_region 14 with fail
         rw [<- hwa]
         clear hwa ix
         have HST:=Lib.hid (hr.out.grow hba)
         have HNE:=Lib.hid (show wr.heap.size≠gt/\wr.heap.size≠gb/\w.heap.size+4<=wr.heap.size from ⟨by have:=hr.out.tt.lt;omega,by have:=hr.out.out.lt;omega,hr.out.box.lt⟩)
         clear hr hba
         generalize wr.heap.size=gp at *
         have p0:=HPS.out.cell 0
         have p1:=HPS.out.cell 1
         have p2:=HPS.out.cell 2
         have p3:=HPS.out.cell 3
         have b1:=HBB.out.2.1.1
         have b2:=HBB.out.2.1.2
         have u1:wa.cell? ⟨gt,oo2,none⟩=some (.int .i64 ((stF (fun z=>z) o1 n1) oo2:Nat)):=by rw [HST.out.tt.cell,TL_get b1]
         have u2:wa.cell? ⟨gt,no2,none⟩=some (.int .i64 ((stF (fun z=>z) o1 n1) no2:Nat)):=by rw [HST.out.tt.cell,TL_get b2]
         generalize (stF (fun z=>z) o1 n1) oo2=v1_ at u1
         generalize (stF (fun z=>z) o1 n1) no2=v2_ at u2
         have f1:=HST.out.tt.frozen oo2
         have f2:=HST.out.tt.frozen no2
         have n1_:oo2≠no2:=HEN.out.2.1
         have n2_:no2≠oo2:=n1_.symm
         have n3_:gp≠gt:=HNE.out.1
         have n4_:gt≠gp:=n3_.symm
         have z1:(oo2:Int)<(M.length:Int):=by omega
         have z2:(no2:Int)<(M.length:Int):=by omega
         have HS1:=Lib.hid (show SlS w g7 gt gb M.length [.slice A0 S.length cs,.slice A2 M.length c2,.int .i64 L] [.int .i64 kd,.int .i64 (jx:Nat),.int .i64 Y,.int .i64 sg,.bool ov] [.int .i64 (oo1:Nat),.int .i64 (o1:Nat),.int .i64 (n1:Nat),.int .i64 (no1:Nat),.int .i64 (oo2:Nat),.int .i64 (o2:Nat),.int .i64 (n2:Nat),.int .i64 (no2:Nat),.int .i64 (oo3:Nat),.int .i64 (o3:Nat),.int .i64 (n3:Nat),.int .i64 (no3:Nat)] (stF (stF (fun z=>z) o1 n1) o2 n2) (stP (fun _=>false) o1 n1) ((wa.setCell ⟨gt,oo2,none⟩ (.int .i64 (n2:Nat))).setCell ⟨gt,no2,none⟩ (.int .i64 (o2:Nat))).drew from (HST.out.edge HOO.out.2.1.1 HOO.out.2.1.2).drew)
         have HP1:=Lib.hid (show Arr ((wa.setCell ⟨gt,oo2,none⟩ (.int .i64 (n2:Nat))).setCell ⟨gt,no2,none⟩ (.int .i64 (o2:Nat))).drew gp 75 [.int .i64 (oo2:Nat),.int .i64 (o2:Nat),.int .i64 (n2:Nat),.int .i64 (no2:Nat)] from ((HPS.out.far (p:=⟨gt,oo2,none⟩) n3_ _).far (p:=⟨gt,no2,none⟩) n3_ _).drew)
         go_region
         go_upto_region 15 with fail
         clear p0 p1 p2 p3 u1 u2 f1 f2 n3_ n4_ HST HPS
         generalize ((wa.setCell ⟨gt,oo2,none⟩ (.int .i64 (n2:Nat))).setCell ⟨gt,no2,none⟩ (.int .i64 (o2:Nat))).drew=wb at *
         have p0:=HP1.out.cell 0
         have p3:=HP1.out.cell 3
         have u1:wb.cell? ⟨gb,oo2,none⟩=some (.bool ((stP (fun _=>false) o1 n1) oo2)):=by rw [HS1.out.out.cell,BL_get b1]
         have u2:wb.cell? ⟨gb,no2,none⟩=some (.bool ((stP (fun _=>false) o1 n1) no2)):=by rw [HS1.out.out.cell,BL_get b2]
         generalize (stP (fun _=>false) o1 n1) oo2=v1_ at u1
         generalize (stP (fun _=>false) o1 n1) no2=v2_ at u2
         have f1:=HS1.out.out.frozen oo2
         have f2:=HS1.out.out.frozen no2
         have n3_:gp≠gb:=HNE.out.2.1
         have n4_:gb≠gp:=n3_.symm
         have HS2:=Lib.hid (show SlS w g7 gt gb M.length [.slice A0 S.length cs,.slice A2 M.length c2,.int .i64 L] [.int .i64 kd,.int .i64 (jx:Nat),.int .i64 Y,.int .i64 sg,.bool ov] [.int .i64 (oo1:Nat),.int .i64 (o1:Nat),.int .i64 (n1:Nat),.int .i64 (no1:Nat),.int .i64 (oo2:Nat),.int .i64 (o2:Nat),.int .i64 (n2:Nat),.int .i64 (no2:Nat),.int .i64 (oo3:Nat),.int .i64 (o3:Nat),.int .i64 (n3:Nat),.int .i64 (no3:Nat)] (stF (stF (fun z=>z) o1 n1) o2 n2) (stP (stP (fun _=>false) o1 n1) o2 n2) ((wb.setCell ⟨gb,oo2,none⟩ (.bool true)).setCell ⟨gb,no2,none⟩ (.bool true)).drew from (HS1.out.mark HOO.out.2.1.1 HOO.out.2.1.2).drew)
         go_region
         go_wp2_with fail
         go_roundg 1
         case measure=>omega
         case rel=>exact .inr (.inr (.inl ⟨rfl,by go_num,HS2⟩))
       · have ix:∀ w,(Instr.index 76 (.agg #[.int .i64 (oo1:Nat),.int .i64 (o1:Nat),.int .i64 (n1:Nat),.int .i64 (no1:Nat),.int .i64 (oo2:Nat),.int .i64 (o2:Nat),.int .i64 (n2:Nat),.int .i64 (no2:Nat),.int .i64 (oo3:Nat),.int .i64 (o3:Nat),.int .i64 (n3:Nat),.int .i64 (no3:Nat)]) (.int .i64 2)).run Try.prog w=.ok (.agg #[.int .i64 (oo3:Nat),.int .i64 (o3:Nat),.int .i64 (n3:Nat),.int .i64 (no3:Nat)]) w:=fun _=>by kernel_rfl
         obtain ⟨wa,hwa⟩:∃ W,W=wr.alloc (.cells #[.int .i64 (oo3:Nat),.int .i64 (o3:Nat),.int .i64 (n3:Nat),.int .i64 (no3:Nat)] 75):=⟨_,rfl⟩
         have hba:Below wr.heap.size wr wa:=by rw [hwa];exact (Below.refl _ _).alloc (Nat.le_refl _) _
         have HPS:Hid (Arr wa wr.heap.size 75 [.int .i64 (oo3:Nat),.int .i64 (o3:Nat),.int .i64 (n3:Nat),.int .i64 (no3:Nat)]):=by rw [hwa];exact Lib.hid (Arr.new _ _ [_,_,_,_])
         go_upto_region 14 with fail
         rw [<- hwa]
         clear hwa ix
         have HST:=Lib.hid (hr.out.grow hba)
         have HNE:=Lib.hid (show wr.heap.size≠gt/\wr.heap.size≠gb/\w.heap.size+4<=wr.heap.size from ⟨by have:=hr.out.tt.lt;omega,by have:=hr.out.out.lt;omega,hr.out.box.lt⟩)
         clear hr hba
         generalize wr.heap.size=gp at *
         have p0:=HPS.out.cell 0
         have p1:=HPS.out.cell 1
         have p2:=HPS.out.cell 2
         have p3:=HPS.out.cell 3
         have b1:=HBB.out.2.2.1
         have b2:=HBB.out.2.2.2
         have u1:wa.cell? ⟨gt,oo3,none⟩=some (.int .i64 ((stF (stF (fun z=>z) o1 n1) o2 n2) oo3:Nat)):=by rw [HST.out.tt.cell,TL_get b1]
         have u2:wa.cell? ⟨gt,no3,none⟩=some (.int .i64 ((stF (stF (fun z=>z) o1 n1) o2 n2) no3:Nat)):=by rw [HST.out.tt.cell,TL_get b2]
         generalize (stF (stF (fun z=>z) o1 n1) o2 n2) oo3=v1_ at u1
         generalize (stF (stF (fun z=>z) o1 n1) o2 n2) no3=v2_ at u2
         have f1:=HST.out.tt.frozen oo3
         have f2:=HST.out.tt.frozen no3
         have n1_:oo3≠no3:=HEN.out.2.2
         have n2_:no3≠oo3:=n1_.symm
         have n3_:gp≠gt:=HNE.out.1
         have n4_:gt≠gp:=n3_.symm
         have z1:(oo3:Int)<(M.length:Int):=by omega
         have z2:(no3:Int)<(M.length:Int):=by omega
         have HS1:=Lib.hid (show SlS w g7 gt gb M.length [.slice A0 S.length cs,.slice A2 M.length c2,.int .i64 L] [.int .i64 kd,.int .i64 (jx:Nat),.int .i64 Y,.int .i64 sg,.bool ov] [.int .i64 (oo1:Nat),.int .i64 (o1:Nat),.int .i64 (n1:Nat),.int .i64 (no1:Nat),.int .i64 (oo2:Nat),.int .i64 (o2:Nat),.int .i64 (n2:Nat),.int .i64 (no2:Nat),.int .i64 (oo3:Nat),.int .i64 (o3:Nat),.int .i64 (n3:Nat),.int .i64 (no3:Nat)] (stF (stF (stF (fun z=>z) o1 n1) o2 n2) o3 n3) (stP (stP (fun _=>false) o1 n1) o2 n2) ((wa.setCell ⟨gt,oo3,none⟩ (.int .i64 (n3:Nat))).setCell ⟨gt,no3,none⟩ (.int .i64 (o3:Nat))).drew from (HST.out.edge HOO.out.2.2.1 HOO.out.2.2.2).drew)
         have HP1:=Lib.hid (show Arr ((wa.setCell ⟨gt,oo3,none⟩ (.int .i64 (n3:Nat))).setCell ⟨gt,no3,none⟩ (.int .i64 (o3:Nat))).drew gp 75 [.int .i64 (oo3:Nat),.int .i64 (o3:Nat),.int .i64 (n3:Nat),.int .i64 (no3:Nat)] from ((HPS.out.far (p:=⟨gt,oo3,none⟩) n3_ _).far (p:=⟨gt,no3,none⟩) n3_ _).drew)
         go_region
         go_upto_region 15 with fail
         clear p0 p1 p2 p3 u1 u2 f1 f2 n3_ n4_ HST HPS
         generalize ((wa.setCell ⟨gt,oo3,none⟩ (.int .i64 (n3:Nat))).setCell ⟨gt,no3,none⟩ (.int .i64 (o3:Nat))).drew=wb at *
         have p0:=HP1.out.cell 0
         have p3:=HP1.out.cell 3
         have u1:wb.cell? ⟨gb,oo3,none⟩=some (.bool ((stP (stP (fun _=>false) o1 n1) o2 n2) oo3)):=by rw [HS1.out.out.cell,BL_get b1]
         have u2:wb.cell? ⟨gb,no3,none⟩=some (.bool ((stP (stP (fun _=>false) o1 n1) o2 n2) no3)):=by rw [HS1.out.out.cell,BL_get b2]
         generalize (stP (stP (fun _=>false) o1 n1) o2 n2) oo3=v1_ at u1
         generalize (stP (stP (fun _=>false) o1 n1) o2 n2) no3=v2_ at u2
         have f1:=HS1.out.out.frozen oo3
         have f2:=HS1.out.out.frozen no3
         have n3_:gp≠gb:=HNE.out.2.1
         have n4_:gb≠gp:=n3_.symm
         have HS2:=Lib.hid (show SlS w g7 gt gb M.length [.slice A0 S.length cs,.slice A2 M.length c2,.int .i64 L] [.int .i64 kd,.int .i64 (jx:Nat),.int .i64 Y,.int .i64 sg,.bool ov] [.int .i64 (oo1:Nat),.int .i64 (o1:Nat),.int .i64 (n1:Nat),.int .i64 (no1:Nat),.int .i64 (oo2:Nat),.int .i64 (o2:Nat),.int .i64 (n2:Nat),.int .i64 (no2:Nat),.int .i64 (oo3:Nat),.int .i64 (o3:Nat),.int .i64 (n3:Nat),.int .i64 (no3:Nat)] (stF (stF (stF (fun z=>z) o1 n1) o2 n2) o3 n3) (stP (stP (stP (fun _=>false) o1 n1) o2 n2) o3 n3) ((wb.setCell ⟨gb,oo3,none⟩ (.bool true)).setCell ⟨gb,no3,none⟩ (.bool true)).drew from (HS1.out.mark HOO.out.2.2.1 HOO.out.2.2.2).drew)
         go_region
         go_wp2_with fail
         go_roundg 0
         case measure=>omega
         case rel=>exact .inr (.inr (.inr (⟨rfl,by go_num,HS2⟩)))
       · have HST:=hr
         clear hr
         obtain ⟨fF,hfF⟩:∃ f,f=(stF (stF (stF (fun z=>z) o1 n1) o2 n2) o3 n3):=⟨_,rfl⟩
         obtain ⟨pF,hpF⟩:∃ p,p=(stP (stP (stP (fun _=>false) o1 n1) o2 n2) o3 n3):=⟨_,rfl⟩
         rw [<- hfF,<- hpF] at HST HLAW
         have HFL:=Lib.hid (show ∀ z,z<M.length->fF z<M.length by rw [hfF];exact stF_lt HBO.out.2.2.1 HBO.out.2.2.2 (stF_lt HBO.out.2.1.1 HBO.out.2.1.2 (stF_lt HBO.out.1.1 HBO.out.1.2 (fun z hz=>hz))))
         clear hfF hpF HEN HPE
         have y0:=HST.out.box.1.cell 0
         have y1:=HST.out.box.1.cell 1
         have y2:=HST.out.box.1.cell 2
         go_upto_region 18 with (go_at_call 43;refine (KC.out _ HST.out.box.2.2.2.2).mono ?_;rintro e w9 ⟨v1,v2,rfl,q1,q2,q3,hb9⟩;have Q1:=Lib.hid q1;have Q2:=Lib.hid q2;have Q3:=Lib.hid q3;obtain ⟨A1,ca1,rfl⟩:=q1.form;obtain ⟨A,cm,rfl⟩:=q2.form;clear q1 q2 q3)
         obtain ⟨wA,hwA⟩:∃ W,W=w9.alloc (.cells #[.slice A1 S.length ca1,.slice A M.length cm,.int .i64 L] 24):=⟨_,rfl⟩
         rw [<- hwA]
         have hbA:Below wr.heap.size wr wA:=by rw [hwA];exact hb9.alloc hb9.size _
         have HB4:=Lib.hid HST.out.box.lt
         have HSR:Hid (SlR w g7 gt gb M.length wr.heap.size w9.heap.size M.length cm [.slice A0 S.length cs,.slice A2 M.length c2,.int .i64 L] [.int .i64 kd,.int .i64 (jx:Nat),.int .i64 Y,.int .i64 sg,.bool ov] [.int .i64 (oo1:Nat),.int .i64 (o1:Nat),.int .i64 (n1:Nat),.int .i64 (no1:Nat),.int .i64 (oo2:Nat),.int .i64 (o2:Nat),.int .i64 (n2:Nat),.int .i64 (no2:Nat),.int .i64 (oo3:Nat),.int .i64 (o3:Nat),.int .i64 (n3:Nat),.int .i64 (no3:Nat)] fF pF (.slice A1 S.length ca1) A S (slL M fF pF 0) L wA):=Lib.hid ⟨HST.out.grow hbA,by rw [hwA];exact CuS.start Q1.out Q2.out Q3.out L,HB4.out,HST.out.tri.lt,HST.out.tt.lt,HST.out.out.lt,hb9.size⟩
         clear hwA hbA hb9 Q1 Q2 Q3 HST y0 y1 y2 KC
         generalize w9.heap.size=g at *
         generalize wr.heap.size=B at *
         go_wp2_with fail
         go_loopg [81] M.length (fun gk s81 wr=>∃ k:Nat,k<=M.length/\gk=M.length-k/\s81=.int .i64 (k:Int)/\Hid (SlR w g7 gt gb M.length B g M.length cm [.slice A0 S.length cs,.slice A2 M.length c2,.int .i64 L] [.int .i64 kd,.int .i64 (jx:Nat),.int .i64 Y,.int .i64 sg,.bool ov] [.int .i64 (oo1:Nat),.int .i64 (o1:Nat),.int .i64 (n1:Nat),.int .i64 (no1:Nat),.int .i64 (oo2:Nat),.int .i64 (o2:Nat),.int .i64 (n2:Nat),.int .i64 (no2:Nat),.int .i64 (oo3:Nat),.int .i64 (o3:Nat),.int .i64 (n3:Nat),.int .i64 (no3:Nat)] fF pF (.slice A1 S.length ca1) A S (slL M fF pF k) L wr))
         case atStart=>exact ⟨0,Nat.zero_le _,rfl,rfl,HSR⟩
         case round =>
          clear HSR
          obtain ⟨k,hk,rfl,rfl,HSR⟩:=hrel
          by_cases hlt:k<M.length
          · have z1:(k:Int)<(M.length:Int):=by omega
            have u0:wr.cell? ⟨gb,k,none⟩=some (.bool (pF k)):=by rw [HSR.out.1.out.cell,BL_get hlt]
            obtain ⟨pk,hpk⟩:∃ b,b=pF k:=⟨_,rfl⟩
            rw [<- hpk] at u0
            have HKL:=Lib.hid hlt
            have HZ1:=Lib.hid z1
            clear hlt
            cases pk
            · have HN:=Lib.hid (show SlR w g7 gt gb M.length B g M.length cm [.slice A0 S.length cs,.slice A2 M.length c2,.int .i64 L] [.int .i64 kd,.int .i64 (jx:Nat),.int .i64 Y,.int .i64 sg,.bool ov] [.int .i64 (oo1:Nat),.int .i64 (o1:Nat),.int .i64 (n1:Nat),.int .i64 (no1:Nat),.int .i64 (oo2:Nat),.int .i64 (o2:Nat),.int .i64 (n2:Nat),.int .i64 (no2:Nat),.int .i64 (oo3:Nat),.int .i64 (o3:Nat),.int .i64 (n3:Nat),.int .i64 (no3:Nat)] fF pF (.slice A1 S.length ca1) A S (slL M fF pF (k+1)) L wr by rw [slL,if_neg (by rw [<- hpk];decide)];exact HSR.out)
              clear HSR hpk
              go_wp2_with fail
              go_roundg (M.length-(k+1))
              case measure=>(have:=HKL.out;omega)
              case rel=>exact ⟨k+1,by have:=HKL.out;omega,rfl,by go_num,HN⟩
            · have HEQ:=Lib.hid (show slL M fF pF (k+1)=jnL (slL M fF pF k) (fF k) (fF (mt M k)) by rw [slL,if_pos hpk.symm])
              clear hpk
              obtain ⟨bm,om,hA2,_,_⟩:=ints_mt (GM.out wr HSR.out.1.box.2.2.2.2) HKL.out (HOK.out.pos k HKL.out)
              subst hA2
              obtain ⟨mk,hmk⟩:∃ z,z=mt M k:=⟨_,rfl⟩
              rw [<- hmk] at HEQ
              have HYC:=Lib.hid (fun W (hW:Below w.heap.size w W)=>show W.cell? ⟨bm,om+k,none⟩=some (.int .i64 (mk:Nat)) from by obtain ⟨b_,o_,e_,_,h_⟩:=ints_mt (GM.out W hW) HKL.out (HOK.out.pos k HKL.out);injection e_ with e_;injection e_ with e_ e2_;subst e_ e2_;rw [hmk];exact h_)
              have hml:mk<M.length:=by rw [hmk];exact HOK.out.lt k HKL.out
              obtain ⟨fk,hfk⟩:∃ z,z=fF k:=⟨_,rfl⟩
              obtain ⟨fm,hfm⟩:∃ z,z=fF mk:=⟨_,rfl⟩
              rw [<- hfk,<- hfm] at HEQ
              have HFB:=Lib.hid (show fk<M.length/\mk<M.length/\fm<M.length from ⟨by rw [hfk];exact HFL.out k HKL.out,hml,by rw [hfm];exact HFL.out mk hml⟩)
              have HFK:=Lib.hid (show fF k=fk/\fF mk=fm from ⟨hfk.symm,hfm.symm⟩)
              clear hmk hml hfk hfm
              go_upto_region 22 with fail
              clear u0 z1
              refine wp_region_efc 14 (by kernel_rfl) (by kernel_rfl) (by kernel_rfl) (by kernel_rfl) (by kernel_rfl) (by decide) (fun i=>([(.pointer (some ⟨g,1,none⟩)),(.slice A M.length cm),(.slice (some ⟨gt,0,none⟩) M.length M.length),(.int .i64 (k:Int)),(.pointer (some ⟨gt,k,none⟩)),(.int .i64 (fk:Nat)),(.slice (some ⟨gt,0,none⟩) M.length M.length),(.pointer (some ⟨w.heap.size,1,none⟩)),(.slice (some ⟨bm,om,none⟩) M.length c2),(.int .i64 (k:Int)),(.pointer (some ⟨bm,om+k,none⟩)),(.int .i64 (mk:Nat)),(.pointer (some ⟨gt,mk,none⟩)),(.int .i64 (fm:Nat)),(.tuple #[])]:List Value).getD i undef) (fun W=>SlR w g7 gt gb M.length B g M.length cm [.slice A0 S.length cs,.slice (some ⟨bm,om,none⟩) M.length c2,.int .i64 L] [.int .i64 kd,.int .i64 (jx:Nat),.int .i64 Y,.int .i64 sg,.bool ov] [.int .i64 (oo1:Nat),.int .i64 (o1:Nat),.int .i64 (n1:Nat),.int .i64 (no1:Nat),.int .i64 (oo2:Nat),.int .i64 (o2:Nat),.int .i64 (n2:Nat),.int .i64 (no2:Nat),.int .i64 (oo3:Nat),.int .i64 (o3:Nat),.int .i64 (n3:Nat),.int .i64 (no3:Nat)] fF pF (.slice A1 S.length ca1) A S (slL M fF pF k) L W) (fun W=>W.cell? ⟨g,1,none⟩=some (.slice A M.length cm)/\Arr W gt 3 (TL M.length fF)/\Arr W w.heap.size 24 [.slice A0 S.length cs,.slice (some ⟨bm,om,none⟩) M.length c2,.int .i64 L]/\Below w.heap.size w W) (fun W=>SlR w g7 gt gb M.length B g M.length cm [.slice A0 S.length cs,.slice (some ⟨bm,om,none⟩) M.length c2,.int .i64 L] [.int .i64 kd,.int .i64 (jx:Nat),.int .i64 Y,.int .i64 sg,.bool ov] [.int .i64 (oo1:Nat),.int .i64 (o1:Nat),.int .i64 (n1:Nat),.int .i64 (no1:Nat),.int .i64 (oo2:Nat),.int .i64 (o2:Nat),.int .i64 (n2:Nat),.int .i64 (no2:Nat),.int .i64 (oo3:Nat),.int .i64 (o3:Nat),.int .i64 (n3:Nat),.int .i64 (no3:Nat)] fF pF (.slice A1 S.length ca1) A S (jnL (slL M fF pF k) fk fm) L W) (HSR.out.drew) (fun W h=>⟨h.2.1.box.cell 1,h.1.tt,h.1.box.1,h.1.box.2.2.2.2⟩) (fun W h=>⟨h.2.1.box.cell 1,h.1.tt,h.1.box.1,h.1.box.2.2.2.2⟩) ⟨?_,?_,?_,?_,?_,?_,?_,?_,?_,?_,?_,?_,?_,?_,?_,trivial⟩ ?_
              · intro x w1 bA hb hdep
                refine ⟨fun _ hC=>?_,fun h=>absurd h (by decide)⟩
                have e14:bA.tmps[14]?.getD undef=.pointer (some ⟨g,0,none⟩):=hb 14
                refine efc_run (.pointer (some ⟨g,1,none⟩)) ?_
                clear hb hdep hC
                go_simp
              · intro x w1 bA hb hdep
                refine ⟨fun _ hC=>?_,fun h=>absurd h (by decide)⟩
                have e87:bA.tmps[87]?.getD undef=.pointer (some ⟨g,1,none⟩):=(hb 87).trans (hdep 0 (by decide))
                have u0:=hC.1
                refine efc_run (.slice A M.length cm) ?_
                clear hb hdep hC
                go_simp
              · intro x w1 bA hb hdep
                refine ⟨fun _ hC=>?_,fun h=>absurd h (by decide)⟩
                have e9:bA.tmps[9]?.getD undef=.slice (some ⟨gt,0,none⟩) M.length M.length:=hb 9
                refine efc_run (.slice (some ⟨gt,0,none⟩) M.length M.length) ?_
                clear hb hdep hC
                go_simp
              · intro x w1 bA hb hdep
                refine ⟨fun _ hC=>?_,fun h=>absurd h (by decide)⟩
                have e15:bA.tmps[15]?.getD undef=.int .i64 (k:Int):=hb 15
                refine efc_run (.int .i64 (k:Int)) ?_
                clear hb hdep hC
                go_simp
              · intro x w1 bA hb hdep
                refine ⟨fun _ hC=>?_,fun h=>absurd h (by decide)⟩
                have e89:bA.tmps[89]?.getD undef=.slice (some ⟨gt,0,none⟩) M.length M.length:=(hb 89).trans (hdep 2 (by decide))
                have e90:bA.tmps[90]?.getD undef=.int .i64 (k:Int):=(hb 90).trans (hdep 3 (by decide))
                have z1:=HZ1.out
                refine efc_run (.pointer (some ⟨gt,k,none⟩)) ?_
                clear hb hdep hC
                go_simp
              · intro x w1 bA hb hdep
                refine ⟨fun _ hC=>?_,fun h=>absurd h (by decide)⟩
                have e91:bA.tmps[91]?.getD undef=.pointer (some ⟨gt,k,none⟩):=(hb 91).trans (hdep 4 (by decide))
                have u0:w1.cell? ⟨gt,k,none⟩=some (.int .i64 (fk:Nat)):=by rw [hC.2.1.cell,TL_get HKL.out,HFK.out.1]
                refine efc_run (.int .i64 (fk:Nat)) ?_
                clear hb hdep hC
                go_simp
              · intro x w1 bA hb hdep
                refine ⟨fun _ hC=>?_,fun h=>absurd h (by decide)⟩
                have e9:bA.tmps[9]?.getD undef=.slice (some ⟨gt,0,none⟩) M.length M.length:=hb 9
                refine efc_run (.slice (some ⟨gt,0,none⟩) M.length M.length) ?_
                clear hb hdep hC
                go_simp
              · intro x w1 bA hb hdep
                refine ⟨fun _ hC=>?_,fun h=>absurd h (by decide)⟩
                have e2:bA.tmps[2]?.getD undef=.pointer (some ⟨w.heap.size,0,none⟩):=hb 2
                refine efc_run (.pointer (some ⟨w.heap.size,1,none⟩)) ?_
                clear hb hdep hC
                go_simp
              · intro x w1 bA hb hdep
                refine ⟨fun _ hC=>?_,fun h=>absurd h (by decide)⟩
                have e94:bA.tmps[94]?.getD undef=.pointer (some ⟨w.heap.size,1,none⟩):=(hb 94).trans (hdep 7 (by decide))
                have u0:=hC.2.2.1.cell 1
                refine efc_run (.slice (some ⟨bm,om,none⟩) M.length c2) ?_
                clear hb hdep hC
                go_simp
              · intro x w1 bA hb hdep
                refine ⟨fun _ hC=>?_,fun h=>absurd h (by decide)⟩
                have e15:bA.tmps[15]?.getD undef=.int .i64 (k:Int):=hb 15
                refine efc_run (.int .i64 (k:Int)) ?_
                clear hb hdep hC
                go_simp
              · intro x w1 bA hb hdep
                refine ⟨fun _ hC=>?_,fun h=>absurd h (by decide)⟩
                have e95:bA.tmps[95]?.getD undef=.slice (some ⟨bm,om,none⟩) M.length c2:=(hb 95).trans (hdep 8 (by decide))
                have e96:bA.tmps[96]?.getD undef=.int .i64 (k:Int):=(hb 96).trans (hdep 9 (by decide))
                have z1:=HZ1.out
                refine efc_run (.pointer (some ⟨bm,om+k,none⟩)) ?_
                clear hb hdep hC
                go_simp
              · intro x w1 bA hb hdep
                refine ⟨fun _ hC=>?_,fun h=>absurd h (by decide)⟩
                have e97:bA.tmps[97]?.getD undef=.pointer (some ⟨bm,om+k,none⟩):=(hb 97).trans (hdep 10 (by decide))
                have u0:=HYC.out w1 hC.2.2.2
                refine efc_run (.int .i64 (mk:Nat)) ?_
                clear hb hdep hC
                go_simp
              · intro x w1 bA hb hdep
                refine ⟨fun _ hC=>?_,fun h=>absurd h (by decide)⟩
                have e93:bA.tmps[93]?.getD undef=.slice (some ⟨gt,0,none⟩) M.length M.length:=(hb 93).trans (hdep 6 (by decide))
                have e98:bA.tmps[98]?.getD undef=.int .i64 (mk:Nat):=(hb 98).trans (hdep 11 (by decide))
                have z1:(mk:Int)<(M.length:Int):=by have:=HFB.out;omega
                refine efc_run (.pointer (some ⟨gt,mk,none⟩)) ?_
                clear hb hdep hC
                go_simp
              · intro x w1 bA hb hdep
                refine ⟨fun _ hC=>?_,fun h=>absurd h (by decide)⟩
                have e99:bA.tmps[99]?.getD undef=.pointer (some ⟨gt,mk,none⟩):=(hb 99).trans (hdep 12 (by decide))
                have u0:w1.cell? ⟨gt,mk,none⟩=some (.int .i64 (fm:Nat)):=by rw [hC.2.1.cell,TL_get HFB.out.2.1,HFK.out.2]
                refine efc_run (.int .i64 (fm:Nat)) ?_
                clear hb hdep hC
                go_simp
              · intro x w1 bA hb hdep
                refine ⟨fun h=>absurd rfl h,fun _ hAw=>?_⟩
                have e88:bA.tmps[88]?.getD undef=.slice A M.length cm:=(hb 88).trans (hdep 1 (by decide))
                have e92:bA.tmps[92]?.getD undef=.int .i64 (fk:Nat):=(hb 92).trans (hdep 5 (by decide))
                have e100:bA.tmps[100]?.getD undef=.int .i64 (fm:Nat):=(hb 100).trans (hdep 13 (by decide))
                refine eff_call ?_ ((hAw.joins fk fm (by have h1:=HFB.out;rw [slL_length];omega) (by have h1:=HFB.out;rw [slL_length];omega) (by have h1:=HLM.out;rw [slL_length];omega)))
                clear hb hdep hAw
                go_simp
              intro x w1 hR hall
              have x0e:x 0=.pointer (some ⟨g,1,none⟩):=hall 0 (by simp)
              have x1e:x 1=.slice A M.length cm:=hall 1 (by simp)
              have x2e:x 2=.slice (some ⟨gt,0,none⟩) M.length M.length:=hall 2 (by simp)
              have x3e:x 3=.int .i64 (k:Int):=hall 3 (by simp)
              have x4e:x 4=.pointer (some ⟨gt,k,none⟩):=hall 4 (by simp)
              have x5e:x 5=.int .i64 (fk:Nat):=hall 5 (by simp)
              have x6e:x 6=.slice (some ⟨gt,0,none⟩) M.length M.length:=hall 6 (by simp)
              have x7e:x 7=.pointer (some ⟨w.heap.size,1,none⟩):=hall 7 (by simp)
              have x8e:x 8=.slice (some ⟨bm,om,none⟩) M.length c2:=hall 8 (by simp)
              have x9e:x 9=.int .i64 (k:Int):=hall 9 (by simp)
              have x10e:x 10=.pointer (some ⟨bm,om+k,none⟩):=hall 10 (by simp)
              have x11e:x 11=.int .i64 (mk:Nat):=hall 11 (by simp)
              have x12e:x 12=.pointer (some ⟨gt,mk,none⟩):=hall 12 (by simp)
              have x13e:x 13=.int .i64 (fm:Nat):=hall 13 (by simp)
              have x14e:x 14=.tuple #[]:=hall 14 (by simp)
              simp only [putAll,dstOf,Act.put,List.map_cons,List.map_nil,List.setIfInBounds_toArray,List.set_cons_succ,List.set_cons_zero,Nat.reduceAdd,x0e,x1e,x2e,x3e,x4e,x5e,x6e,x7e,x8e,x9e,x10e,x11e,x12e,x13e,x14e]
              clear hall x0e x1e x2e x3e x4e x5e x6e x7e x8e x9e x10e x11e x12e x13e x14e
              have HN:=Lib.hid (show SlR w g7 gt gb M.length B g M.length cm [.slice A0 S.length cs,.slice (some ⟨bm,om,none⟩) M.length c2,.int .i64 L] [.int .i64 kd,.int .i64 (jx:Nat),.int .i64 Y,.int .i64 sg,.bool ov] [.int .i64 (oo1:Nat),.int .i64 (o1:Nat),.int .i64 (n1:Nat),.int .i64 (no1:Nat),.int .i64 (oo2:Nat),.int .i64 (o2:Nat),.int .i64 (n2:Nat),.int .i64 (no2:Nat),.int .i64 (oo3:Nat),.int .i64 (o3:Nat),.int .i64 (n3:Nat),.int .i64 (no3:Nat)] fF pF (.slice A1 S.length ca1) A S (slL M fF pF (k+1)) L w1 by rw [HEQ.out];exact hR)
              clear hR HSR
              go_wp2_with fail
              go_roundg (M.length-(k+1))
              case measure=>(have:=HKL.out;omega)
              case rel=>exact ⟨k+1,by have:=HKL.out;omega,rfl,by go_num,HN⟩
          · have z1:¬ (k:Int)<(M.length:Int):=by omega
            obtain rfl:k=M.length:=by omega
            clear hlt hk
            have t0:=HSR.out.1.tri.cell 0
            have t1:=HSR.out.1.tri.cell 1
            have t2:=HSR.out.1.tri.cell 2
            have t3:=HSR.out.1.tri.cell 3
            have t4:=HSR.out.1.tri.cell 4
            have t5:=HSR.out.1.tri.cell 5
            have t6:=HSR.out.1.tri.cell 6
            have t7:=HSR.out.1.tri.cell 7
            have t8:=HSR.out.1.tri.cell 8
            have t9:=HSR.out.1.tri.cell 9
            have t10:=HSR.out.1.tri.cell 10
            have t11:=HSR.out.1.tri.cell 11
            go_wp2_with fail
            clear t0 t1 t2 t3 t4 t5 t6 t7 t8 t9 t10 t11 z1
            go_loopg [104] 3 (fun gk s104 wr=>(gk=3/\s104=.int .i64 0/\Hid (SlR w g7 gt gb M.length B g M.length cm [.slice A0 S.length cs,.slice A2 M.length c2,.int .i64 L] [.int .i64 kd,.int .i64 (jx:Nat),.int .i64 Y,.int .i64 sg,.bool ov] [.int .i64 (oo1:Nat),.int .i64 (o1:Nat),.int .i64 (n1:Nat),.int .i64 (no1:Nat),.int .i64 (oo2:Nat),.int .i64 (o2:Nat),.int .i64 (n2:Nat),.int .i64 (no2:Nat),.int .i64 (oo3:Nat),.int .i64 (o3:Nat),.int .i64 (n3:Nat),.int .i64 (no3:Nat)] fF pF (.slice A1 S.length ca1) A S (slL M fF pF M.length) L wr))\/(gk=2/\s104=.int .i64 1/\Hid (SlR w g7 gt gb M.length B g M.length cm [.slice A0 S.length cs,.slice A2 M.length c2,.int .i64 L] [.int .i64 kd,.int .i64 (jx:Nat),.int .i64 Y,.int .i64 sg,.bool ov] [.int .i64 (oo1:Nat),.int .i64 (o1:Nat),.int .i64 (n1:Nat),.int .i64 (no1:Nat),.int .i64 (oo2:Nat),.int .i64 (o2:Nat),.int .i64 (n2:Nat),.int .i64 (no2:Nat),.int .i64 (oo3:Nat),.int .i64 (o3:Nat),.int .i64 (n3:Nat),.int .i64 (no3:Nat)] fF pF (.slice A1 S.length ca1) A S (jnL (slL M fF pF M.length) oo1 no1) L wr))\/(gk=1/\s104=.int .i64 2/\Hid (SlR w g7 gt gb M.length B g M.length cm [.slice A0 S.length cs,.slice A2 M.length c2,.int .i64 L] [.int .i64 kd,.int .i64 (jx:Nat),.int .i64 Y,.int .i64 sg,.bool ov] [.int .i64 (oo1:Nat),.int .i64 (o1:Nat),.int .i64 (n1:Nat),.int .i64 (no1:Nat),.int .i64 (oo2:Nat),.int .i64 (o2:Nat),.int .i64 (n2:Nat),.int .i64 (no2:Nat),.int .i64 (oo3:Nat),.int .i64 (o3:Nat),.int .i64 (n3:Nat),.int .i64 (no3:Nat)] fF pF (.slice A1 S.length ca1) A S (jnL (jnL (slL M fF pF M.length) oo1 no1) oo2 no2) L wr))\/(gk=0/\s104=.int .i64 3/\Hid (SlR w g7 gt gb M.length B g M.length cm [.slice A0 S.length cs,.slice A2 M.length c2,.int .i64 L] [.int .i64 kd,.int .i64 (jx:Nat),.int .i64 Y,.int .i64 sg,.bool ov] [.int .i64 (oo1:Nat),.int .i64 (o1:Nat),.int .i64 (n1:Nat),.int .i64 (no1:Nat),.int .i64 (oo2:Nat),.int .i64 (o2:Nat),.int .i64 (n2:Nat),.int .i64 (no2:Nat),.int .i64 (oo3:Nat),.int .i64 (o3:Nat),.int .i64 (n3:Nat),.int .i64 (no3:Nat)] fF pF (.slice A1 S.length ca1) A S (jnL (jnL (jnL (slL M fF pF M.length) oo1 no1) oo2 no2) oo3 no3) L wr)))
            case atStart=>exact .inl ⟨rfl,rfl,HSR⟩
            case round =>
             clear HSR
             rcases hrel with ⟨rfl,rfl,hr⟩|⟨rfl,rfl,hr⟩|⟨rfl,rfl,hr⟩|⟨rfl,rfl,hr⟩
             · have ix:∀ w,(Instr.index 76 (.agg #[.int .i64 (oo1:Nat),.int .i64 (o1:Nat),.int .i64 (n1:Nat),.int .i64 (no1:Nat),.int .i64 (oo2:Nat),.int .i64 (o2:Nat),.int .i64 (n2:Nat),.int .i64 (no2:Nat),.int .i64 (oo3:Nat),.int .i64 (o3:Nat),.int .i64 (n3:Nat),.int .i64 (no3:Nat)]) (.int .i64 0)).run Try.prog w=.ok (.agg #[.int .i64 (oo1:Nat),.int .i64 (o1:Nat),.int .i64 (n1:Nat),.int .i64 (no1:Nat)]) w:=fun _=>by kernel_rfl
               obtain ⟨wa,hwa⟩:∃ W,W=wr.alloc (.cells #[.int .i64 (oo1:Nat),.int .i64 (o1:Nat),.int .i64 (n1:Nat),.int .i64 (no1:Nat)] 75):=⟨_,rfl⟩
               have hba:Below wr.heap.size wr wa:=by rw [hwa];exact (Below.refl _ _).alloc (Nat.le_refl _) _
               have HPS:Hid (Arr wa wr.heap.size 75 [.int .i64 (oo1:Nat),.int .i64 (o1:Nat),.int .i64 (n1:Nat),.int .i64 (no1:Nat)]):=by rw [hwa];exact Lib.hid (Arr.new _ _ [_,_,_,_])
               go_upto_region 27 with fail
               rw [<- hwa]
               clear hwa ix
               have HST:=Lib.hid (hr.out.grow hba)
               clear hr hba
               generalize wr.heap.size=gp at *
               have p0:=HPS.out.cell 0
               have p3:=HPS.out.cell 3
               have y1:=HST.out.2.1.box.cell 1
               go_wp2_with (go_at_call 27;refine (HST.out.joins oo1 no1 (by have h:=HBB.out.1;simp only [jnL_length,slL_length];omega) (by have h:=HBB.out.1;simp only [jnL_length,slL_length];omega) (by have h:=HLM.out;simp only [jnL_length,slL_length];omega)).mono ?_;rintro e wj ⟨rfl,hj⟩)
               go_roundg 2
               case measure=>omega
               case rel=>exact .inr (.inl ⟨rfl,by go_num,Lib.hid hj⟩)
             · have ix:∀ w,(Instr.index 76 (.agg #[.int .i64 (oo1:Nat),.int .i64 (o1:Nat),.int .i64 (n1:Nat),.int .i64 (no1:Nat),.int .i64 (oo2:Nat),.int .i64 (o2:Nat),.int .i64 (n2:Nat),.int .i64 (no2:Nat),.int .i64 (oo3:Nat),.int .i64 (o3:Nat),.int .i64 (n3:Nat),.int .i64 (no3:Nat)]) (.int .i64 1)).run Try.prog w=.ok (.agg #[.int .i64 (oo2:Nat),.int .i64 (o2:Nat),.int .i64 (n2:Nat),.int .i64 (no2:Nat)]) w:=fun _=>by kernel_rfl
               obtain ⟨wa,hwa⟩:∃ W,W=wr.alloc (.cells #[.int .i64 (oo2:Nat),.int .i64 (o2:Nat),.int .i64 (n2:Nat),.int .i64 (no2:Nat)] 75):=⟨_,rfl⟩
               have hba:Below wr.heap.size wr wa:=by rw [hwa];exact (Below.refl _ _).alloc (Nat.le_refl _) _
               have HPS:Hid (Arr wa wr.heap.size 75 [.int .i64 (oo2:Nat),.int .i64 (o2:Nat),.int .i64 (n2:Nat),.int .i64 (no2:Nat)]):=by rw [hwa];exact Lib.hid (Arr.new _ _ [_,_,_,_])
               go_upto_region 27 with fail
               rw [<- hwa]
               clear hwa ix
               have HST:=Lib.hid (hr.out.grow hba)
               clear hr hba
               generalize wr.heap.size=gp at *
               have p0:=HPS.out.cell 0
               have p3:=HPS.out.cell 3
               have y1:=HST.out.2.1.box.cell 1
               go_wp2_with (go_at_call 27;refine (HST.out.joins oo2 no2 (by have h:=HBB.out.2.1;simp only [jnL_length,slL_length];omega) (by have h:=HBB.out.2.1;simp only [jnL_length,slL_length];omega) (by have h:=HLM.out;simp only [jnL_length,slL_length];omega)).mono ?_;rintro e wj ⟨rfl,hj⟩)
               go_roundg 1
               case measure=>omega
               case rel=>exact .inr (.inr (.inl ⟨rfl,by go_num,Lib.hid hj⟩))
             · have ix:∀ w,(Instr.index 76 (.agg #[.int .i64 (oo1:Nat),.int .i64 (o1:Nat),.int .i64 (n1:Nat),.int .i64 (no1:Nat),.int .i64 (oo2:Nat),.int .i64 (o2:Nat),.int .i64 (n2:Nat),.int .i64 (no2:Nat),.int .i64 (oo3:Nat),.int .i64 (o3:Nat),.int .i64 (n3:Nat),.int .i64 (no3:Nat)]) (.int .i64 2)).run Try.prog w=.ok (.agg #[.int .i64 (oo3:Nat),.int .i64 (o3:Nat),.int .i64 (n3:Nat),.int .i64 (no3:Nat)]) w:=fun _=>by kernel_rfl
               obtain ⟨wa,hwa⟩:∃ W,W=wr.alloc (.cells #[.int .i64 (oo3:Nat),.int .i64 (o3:Nat),.int .i64 (n3:Nat),.int .i64 (no3:Nat)] 75):=⟨_,rfl⟩
               have hba:Below wr.heap.size wr wa:=by rw [hwa];exact (Below.refl _ _).alloc (Nat.le_refl _) _
               have HPS:Hid (Arr wa wr.heap.size 75 [.int .i64 (oo3:Nat),.int .i64 (o3:Nat),.int .i64 (n3:Nat),.int .i64 (no3:Nat)]):=by rw [hwa];exact Lib.hid (Arr.new _ _ [_,_,_,_])
               go_upto_region 27 with fail
               rw [<- hwa]
               clear hwa ix
               have HST:=Lib.hid (hr.out.grow hba)
               clear hr hba
               generalize wr.heap.size=gp at *
               have p0:=HPS.out.cell 0
               have p3:=HPS.out.cell 3
               have y1:=HST.out.2.1.box.cell 1
               go_wp2_with (go_at_call 27;refine (HST.out.joins oo3 no3 (by have h:=HBB.out.2.2;simp only [jnL_length,slL_length];omega) (by have h:=HBB.out.2.2;simp only [jnL_length,slL_length];omega) (by have h:=HLM.out;simp only [jnL_length,slL_length];omega)).mono ?_;rintro e wj ⟨rfl,hj⟩)
               go_roundg 0
               case measure=>omega
               case rel=>exact .inr (.inr (.inr (⟨rfl,by go_num,Lib.hid hj⟩)))
             · obtain ⟨MF,hMF⟩:∃ l,l=jnL (jnL (jnL (slL M fF pF M.length) oo1 no1) oo2 no2) oo3 no3:=⟨_,rfl⟩
               have HSR:=hr
               clear hr
               rw [<- hMF] at HSR
               rw [<- HOO.out.1.1,<- HOO.out.1.2,<- HOO.out.2.1.1,<- HOO.out.2.1.2,<- HOO.out.2.2.1,<- HOO.out.2.2.2,<- hMF] at HLAW
               have HMF:=Lib.hid (show MF.length=M.length/\(∀ i (hi:i<MF.length),0<=MF[i])/\(∀ i (hi:i<MF.length),MF[i]<(M.length:Int)) by
                have lt0:∀ i (hi:i<M.length),M[i]<(M.length:Int):=fun i hi=>by
                 have h1:=mt_cast hi (HOK.out.pos i hi)
                 have h2:=HOK.out.lt i hi
                 omega
                have b:=HBB.out
                rw [hMF]
                refine ⟨by simp only [jnL_length,slL_length],jnL_pos (jnL_pos (jnL_pos (slL_pos HOK.out.pos M.length))),?_⟩
                exact jnL_lt (jnL_lt (jnL_lt (slL_lt lt0 HFL.out HOK.out.lt M.length (Nat.le_refl _)) (by omega) (by omega)) (by omega) (by omega)) (by omega) (by omega))
               clear hMF HOO HBB HBO HFL
               have HNX:=Lib.hid (fun W (hW:Ints W (.slice A M.length cm) MF) (u:Nat) (hu:u<M.length)=>show ∃ v:Nat,v<M.length/\Calls Try.prog 44 #[.slice A M.length cm,.int .i64 (u:Nat)] W (fun e w'=>e=.returned (.int .i64 (v:Nat))/\W=w') from by
                have hu2:u<MF.length:=by rw [HMF.out.1];exact hu
                have h1:=mt_cast hu2 (HMF.out.2.1 u hu2)
                have h2:=HMF.out.2.2 u hu2
                have h3:=HLM.out
                exact ⟨turnN (mt MF u) 3,by unfold turnN;omega,next_any (.slice A M.length cm) MF u W hW hu2 (HMF.out.2.1 u hu2) (by omega)⟩)
               obtain ⟨wB,hwB⟩:∃ W,W=wr.alloc (.cells #[.int .i64 5,.int .i64 0,.int .i64 0,.int .i64 0,.bool false] 26):=⟨_,rfl⟩
               have hbB:Below wr.heap.size wr wB:=by rw [hwB];exact (Below.refl _ _).alloc (Nat.le_refl _) _
               have HIV:Hid (Arr wB wr.heap.size 26 [.int .i64 5,.int .i64 0,.int .i64 0,.int .i64 0,.bool false]):=by rw [hwB];exact Lib.hid (Arr.new _ _ [_,_,_,_,_])
               go_upto_region 30 with fail
               rw [<- hwB]
               have HSB:=Lib.hid (HSR.out.grow hbB)
               have HG:=Lib.hid (show g≠wr.heap.size/\w.heap.size+4<=wr.heap.size/\B<=wr.heap.size from ⟨by have:=HSR.out.2.1.box.lt;omega,HSR.out.1.box.lt,by have h1:=HSR.out.2.1.box.lt;have h2:=HSR.out.2.2;omega⟩)
               clear hwB hbB HSR
               generalize wr.heap.size=g19 at *
               go_wp2_with fail
               go_loopg [20] M.length (fun gk s20 wr=>gk<=M.length/\(∃ z:Int,s20=.int .i64 z/\z=(gk:Int)-1)/\∃ xv:Int,Hid (SlR w g7 gt gb M.length B g M.length cm [.slice A0 S.length cs,.slice A2 M.length c2,.int .i64 L] [.int .i64 kd,.int .i64 (jx:Nat),.int .i64 Y,.int .i64 sg,.bool ov] [.int .i64 (oo1:Nat),.int .i64 (o1:Nat),.int .i64 (n1:Nat),.int .i64 (no1:Nat),.int .i64 (oo2:Nat),.int .i64 (o2:Nat),.int .i64 (n2:Nat),.int .i64 (no2:Nat),.int .i64 (oo3:Nat),.int .i64 (o3:Nat),.int .i64 (n3:Nat),.int .i64 (no3:Nat)] fF pF (.slice A1 S.length ca1) A S (MF) L wr/\Arr wr g19 26 [.int .i64 5,.int .i64 xv,.int .i64 0,.int .i64 0,.bool false]))
               case atStart=>exact ⟨Nat.le_refl _,⟨_,rfl,rfl⟩,0,Lib.hid ⟨HSB.out,HIV.out⟩⟩
               case round =>
                clear HSB HIV
                obtain ⟨hgk,⟨z,rfl,hz⟩,xv,HST⟩:=hrel
                by_cases hz0:0<=z
                · obtain ⟨u,rfl⟩:∃ u:Nat,z=(u:Int):=⟨z.toNat,by omega⟩
                  have hul:u<M.length:=by omega
                  have egk:gk=u+1:=by omega
                  have HUL:=Lib.hid hul
                  obtain ⟨vi,hvi,hci⟩:=HNX.out wr HST.out.1.2.1.own2.ints u hul
                  obtain ⟨vj,hvj,hcj⟩:=HNX.out wr HST.out.1.2.1.own2.ints vi hvi
                  obtain ⟨vk,hvk,hck⟩:=HNX.out wr HST.out.1.2.1.own2.ints vj hvj
                  have HCI:=Lib.hid hci
                  have HCJ:=Lib.hid hcj
                  have HCK:=Lib.hid hck
                  have y1:=HST.out.1.2.1.box.cell 1
                  have u0:wr.cell? ⟨gb,u,none⟩=some (.bool (pF u)):=by rw [HST.out.1.1.out.cell,BL_get hul]
                  have u1:wr.cell? ⟨gb,vi,none⟩=some (.bool (pF vi)):=by rw [HST.out.1.1.out.cell,BL_get hvi]
                  have u2:wr.cell? ⟨gb,vj,none⟩=some (.bool (pF vj)):=by rw [HST.out.1.1.out.cell,BL_get hvj]
                  generalize pF u=b0 at u0
                  generalize pF vi=b1 at u1
                  generalize pF vj=b2 at u2
                  have z1:(u:Int)<(M.length:Int):=by omega
                  have z2:(vi:Int)<(M.length:Int):=by omega
                  have z3:(vj:Int)<(M.length:Int):=by omega
                  have xc:=HST.out.2.cell 1
                  have xf:=HST.out.2.frozen 1
                  have HNS:=Lib.hid (show SlR w g7 gt gb M.length B g M.length cm [.slice A0 S.length cs,.slice A2 M.length c2,.int .i64 L] [.int .i64 kd,.int .i64 (jx:Nat),.int .i64 Y,.int .i64 sg,.bool ov] [.int .i64 (oo1:Nat),.int .i64 (o1:Nat),.int .i64 (n1:Nat),.int .i64 (no1:Nat),.int .i64 (oo2:Nat),.int .i64 (o2:Nat),.int .i64 (n2:Nat),.int .i64 (no2:Nat),.int .i64 (oo3:Nat),.int .i64 (o3:Nat),.int .i64 (n3:Nat),.int .i64 (no3:Nat)] fF pF (.slice A1 S.length ca1) A S (MF) L (wr.setCell ⟨g19,1,none⟩ (.int .i64 (u:Int)))/\Arr (wr.setCell ⟨g19,1,none⟩ (.int .i64 (u:Int))) g19 26 [.int .i64 5,.int .i64 (u:Int),.int .i64 0,.int .i64 0,.bool false] from ⟨⟨HST.out.1.1.below (B:=B) ((Below.refl _ _).setCell (p:=⟨g19,1,none⟩) HG.out.2.2 _) HST.out.1.2.2.1 HST.out.1.2.2.2.1 HST.out.1.2.2.2.2.1 HST.out.1.2.2.2.2.2.1,⟨HST.out.1.2.1.own1.far (HST.out.1.2.1.own1.apart HST.out.2 (by decide)) _,HST.out.1.2.1.own2.far (HST.out.1.2.1.own2.apart HST.out.2 (by decide)) _,HST.out.1.2.1.ap,HST.out.1.2.1.box.far (p:=⟨g19,1,none⟩) HG.out.1 _⟩,HST.out.1.2.2⟩,HST.out.2.set 1 _⟩)
                  clear hci hcj hck hvi hvj hvk hz hul
                  subst egk
                  go_upto_region 35 with (first|(go_at_call_of 44 (Value.int .i64 (u:Int));refine HCI.out.mono ?_;rintro e w5 ⟨rfl,rfl⟩)|(go_at_call_of 44 (Value.int .i64 (vi:Int));refine HCJ.out.mono ?_;rintro e w5 ⟨rfl,rfl⟩))
                  clear HCI HCJ
                  cases b0
                  · go_wp2_with fail
                    go_roundg u
                    case measure=>omega
                    case rel=>exact ⟨by have:=HUL.out;omega,⟨_,rfl,by go_num⟩,_,HST⟩
                  cases b1
                  · go_wp2_with fail
                    go_roundg u
                    case measure=>omega
                    case rel=>exact ⟨by have:=HUL.out;omega,⟨_,rfl,by go_num⟩,_,HST⟩
                  cases b2
                  · go_wp2_with fail
                    go_roundg u
                    case measure=>omega
                    case rel=>exact ⟨by have:=HUL.out;omega,⟨_,rfl,by go_num⟩,_,HST⟩
                  by_cases e1:vk=u
                  · have e2:(vk:Int)=(u:Int):=by omega
                    have e3:((vk:Int)==(u:Int))=true:=by simp;omega
                    clear e1
                    go_wp2_with (go_at_call 44;refine HCK.out.mono ?_;rintro e w5 ⟨rfl,rfl⟩)
                    go_roundg u
                    case measure=>omega
                    case rel=>exact ⟨by have:=HUL.out;omega,⟨_,rfl,by go_num⟩,_,Lib.hid HNS.out⟩
                  · have e2:¬ (vk:Int)=(u:Int):=by omega
                    have e3:((vk:Int)==(u:Int))=false:=by simp;omega
                    clear e1
                    go_wp2_with (go_at_call 44;refine HCK.out.mono ?_;rintro e w5 ⟨rfl,rfl⟩)
                    go_roundg u
                    case measure=>omega
                    case rel=>exact ⟨by have:=HUL.out;omega,⟨_,rfl,by go_num⟩,_,HST⟩
                · have z1:¬ (0:Int)<=z:=hz0
                  clear hz hgk
                  have x0:=HST.out.1.2.1.box.cell 0
                  have x1:=HST.out.1.2.1.box.cell 1
                  have x2:=HST.out.1.2.1.box.cell 2
                  have y0:=HST.out.2.cell 0
                  have y1:=HST.out.2.cell 1
                  have y2:=HST.out.2.cell 2
                  have y3:=HST.out.2.cell 3
                  have y4:=HST.out.2.cell 4
                  have c0:=HST.out.1.1.box.2.2.1.cell 0
                  have f0:=HST.out.1.1.box.2.2.1.frozen 0
                  have c1:=HST.out.1.1.box.2.2.1.cell 1
                  have f1:=HST.out.1.1.box.2.2.1.frozen 1
                  have c2:=HST.out.1.1.box.2.2.1.cell 2
                  have f2:=HST.out.1.1.box.2.2.1.frozen 2
                  have d0:=HST.out.1.1.box.2.2.2.1.cell 0
                  have g0:=HST.out.1.1.box.2.2.2.1.frozen 0
                  have d1:=HST.out.1.1.box.2.2.2.1.cell 1
                  have g1:=HST.out.1.1.box.2.2.2.1.frozen 1
                  have d2:=HST.out.1.1.box.2.2.2.1.cell 2
                  have g2:=HST.out.1.1.box.2.2.2.1.frozen 2
                  have d3:=HST.out.1.1.box.2.2.2.1.cell 3
                  have g3:=HST.out.1.1.box.2.2.2.1.frozen 3
                  have d4:=HST.out.1.1.box.2.2.2.1.cell 4
                  have g4:=HST.out.1.1.box.2.2.2.1.frozen 4
                  have ng:g≠w.heap.size+2/\g≠w.heap.size+3:=by have:=HST.out.1.2.2;omega
                  have ng2:g19≠w.heap.size+2/\g19≠w.heap.size+3:=by have:=HG.out;omega
                  obtain ⟨ng1,ng3⟩:=ng
                  obtain ⟨ng2,ng4⟩:=ng2
                  have HA:=Lib.hid (Arr.stored HST.out.1.1.box.2.2.1 HST.out.1.1.box.2.2.2.1 (by simp) (.slice A1 S.length ca1) (.slice A M.length cm) (.int .i64 L) (.int .i64 5) (.int .i64 xv) (.int .i64 0) (.int .i64 0) (.bool false))
                  have HB:=Lib.hid (below_stored HST.out.1.1.box.2.2.2.2 (r:=w.heap.size+2) (q:=w.heap.size+3) (by simp) (by simp) (.slice A1 S.length ca1) (.slice A M.length cm) (.int .i64 L) (.int .i64 5) (.int .i64 xv) (.int .i64 0) (.int .i64 0) (.bool false))
                  have H1:=Lib.hid (HST.out.1.2.1.own1.stored (r:=w.heap.size+2) (q:=w.heap.size+3) (by have:=HB4.out;omega) (by have:=HB4.out;omega) (.slice A1 S.length ca1) (.slice A M.length cm) (.int .i64 L) (.int .i64 5) (.int .i64 xv) (.int .i64 0) (.int .i64 0) (.bool false))
                  have H2:=Lib.hid (HST.out.1.2.1.own2.stored (r:=w.heap.size+2) (q:=w.heap.size+3) (by have:=HB4.out;omega) (by have:=HB4.out;omega) (.slice A1 S.length ca1) (.slice A M.length cm) (.int .i64 L) (.int .i64 5) (.int .i64 xv) (.int .i64 0) (.int .i64 0) (.bool false))
                  clear HST
                  go_upto_region 37 with fail
                  go_region
                  go_wp2_with fail
                  refine bodyPost_ret (v:=.tuple #[.agg #[.slice A1 S.length ca1,.slice A M.length cm,.int .i64 L],.agg #[.int .i64 5,.int .i64 xv,.int .i64 0,.int .i64 0,.bool false],.int .i64 0]) (results_cct Try.results18 _ _ (w.heap.size+2) (w.heap.size+3) 24 26 _ _ _ _ rfl HA.out.1.drew rfl HA.out.2.drew Try.underlying24 rfl info_diag Try.underlying26 rfl info_move) rfl ?_
                  exact ⟨⟨_,_,S,MF,_,_,0,rfl,⟨_,_,_,_,_,rfl⟩,(H1.out.base (Nat.zero_le _)).drew,(H2.out.base (Nat.zero_le _)).drew,fun _=>HLAW.out⟩,HB.out.drew⟩
def lensV (h up m g:Nat):List Value:=[.int .i64 (h:Int),.int .i64 (up:Int),.int .i64 (opp h:Nat),.int .i64 (opp up:Nat),.int .i64 (opp m:Nat),.int .i64 (g:Int),.int .i64 (m:Int),.int .i64 (opp g:Nat)]
def FindR (M:List Int) (x y:Nat) (e:Ending):Prop:=(e=.returned (.tuple #[.agg (rowOf [.int .i64 0,.int .i64 0,.int .i64 0,.int .i64 0,.int .i64 0,.int .i64 0,.int .i64 0,.int .i64 0]),.bool false]))\/∃ h,Lns M x y h/\e=.returned (.tuple #[.agg (rowOf (lensV h (mt M (turnN (mt M h) 3)) (mt M h) (turnN (mt M h) 3))),.bool true])
theorem info_lens:(Try.prog.info? 70).map (·.size)=some 8:=by kernel_rfl
set_option maxHeartbeats 8000000 in
set_option maxRecDepth 100000 in
theorem find_any (vs vm:Value) (S M:List Int) (L:Int) (x y:Nat) (w:World) (hS:Ints w vs S) (hM:Ints w vm M) (k:Ok S M L) (hx:x<S.length) (hy:y<S.length) (hn:S.length<=7) :
 Calls Try.prog 40 #[.agg #[vs,vm,.int .i64 L],.int .i64 (x:Nat),.int .i64 (y:Nat)] w fun e w'=>FindR M x y e/\Below w.heap.size w w':=by
 have hW:∀ W,W=(w.alloc (.cells #[vs,vm,.int .i64 L] 24)).alloc (.cells #[.int .i64 0,.int .i64 0,.int .i64 0,.int .i64 0,.int .i64 0,.int .i64 0,.int .i64 0,.int .i64 0] 70)->Arr W w.heap.size 24 [vs,vm,.int .i64 L]/\Arr W (w.heap.size+1) 70 [.int .i64 0,.int .i64 0,.int .i64 0,.int .i64 0,.int .i64 0,.int .i64 0,.int .i64 0,.int .i64 0]/\Below w.heap.size w W:=by
  intro W hW
  subst hW
  exact ⟨(Arr.new _ _ [_,_,_]).alloc _,Arr.newAt (w.alloc _) _ [.int .i64 0,.int .i64 0,.int .i64 0,.int .i64 0,.int .i64 0,.int .i64 0,.int .i64 0,.int .i64 0] _ (by simp),((Below.refl _ _).alloc (Nat.le_refl _) _).alloc (by simp) _⟩
 have GM:=Lib.hid (fun W (hb:Below w.heap.size w W)=>hM.below hb)
 have HOK:=Lib.hid k
 clear k
 obtain ⟨A,cs,rfl,hcs,hx'⟩:=hS
 obtain ⟨A2,c2,rfl,hc2,hx2⟩:=hM
 clear hx' hx2
 go_enter Try.func40,Try.ntmps40
 go_upto_region 1 with fail
 generalize ((w.alloc (.cells #[.slice A S.length cs,.slice A2 M.length c2,.int .i64 L] 24)).alloc (.cells #[.int .i64 0,.int .i64 0,.int .i64 0,.int .i64 0,.int .i64 0,.int .i64 0,.int .i64 0,.int .i64 0] 70))=w3 at hW ⊢
 have hW3:=hW w3 rfl
 clear hW
 have HW3:=Lib.hid hW3
 clear hW3
 go_wp2_with fail
 go_loopg [8,9,10,11,12,13,15] 8 (fun gk s8 s9 s10 s11 s12 s13 s15 wr=>∃ i:Nat,i<=8/\gk=8-i/\s15=.int .i64 (i:Int)/\Arr wr w.heap.size 24 [.slice A S.length cs,.slice A2 M.length c2,.int .i64 L]/\Arr wr (w.heap.size+1) 70 [.int .i64 0,.int .i64 0,.int .i64 0,.int .i64 0,.int .i64 0,.int .i64 0,.int .i64 0,.int .i64 0]/\Below w.heap.size w wr)
 case atStart=>exact ⟨0,Nat.zero_le _,rfl,rfl,HW3.out⟩
 case round =>
  clear HW3
  obtain ⟨wo,rfl⟩:∃ wo,wo=wr:=⟨_,rfl⟩
  obtain ⟨i,hi,rfl,rfl,qa,qr,hb⟩:=hrel
  by_cases hlt:i<8
  · have z1:(i:Int)<8:=by omega
    obtain ⟨h,hh⟩:∃ h,h=if i<4 then 4*x+i else 4*y+i-4:=⟨_,rfl⟩
    have hM4:=HOK.out.m
    have hhl:h<M.length:=by rw [hh];split <;> omega
    have hmt:=HOK.out.lt _ hhl
    obtain ⟨bm,om,hA2,hbm,ym⟩:=ints_mt (GM.out wo hb) hhl (HOK.out.pos _ hhl)
    subst hA2
    have HN1:=Lib.hid (next_any (.slice (some ⟨bm,om,none⟩) M.length c2) M h wo (GM.out wo hb) hhl (HOK.out.pos _ hhl) (by omega))
    obtain ⟨m,hm⟩:∃ m,m=mt M h:=⟨_,rfl⟩
    rw [<- hm] at HN1 ym hmt
    obtain ⟨g,hg⟩:∃ g,g=turnN m 3:=⟨_,rfl⟩
    have hgl:g<M.length:=by rw [hg];unfold turnN;omega
    have hmg:=HOK.out.lt _ hgl
    obtain ⟨bm',om',hA2,_,yg⟩:=ints_mt (GM.out wo hb) hgl (HOK.out.pos _ hgl)
    injection hA2 with hA2
    injection hA2 with hA2 hA3
    subst hA2 hA3
    have HN2:=Lib.hid (next_any (.slice (some ⟨bm,om,none⟩) M.length c2) M g wo (GM.out wo hb) hgl (HOK.out.pos _ hgl) (by omega))
    rw [<- hg] at HN1
    obtain ⟨up,hu⟩:∃ up,up=mt M g:=⟨_,rfl⟩
    rw [<- hu] at HN2 yg hmg
    have zh:(h:Int)<(M.length:Int):=by omega
    have zg:(g:Int)<(M.length:Int):=by omega
    have KO1:=Lib.hid (fun W=>opposite_any h W (by omega))
    have KO2:=Lib.hid (fun W=>opposite_any up W (by omega))
    have KO3:=Lib.hid (fun W=>opposite_any m W (by omega))
    have KO4:=Lib.hid (fun W=>opposite_any g W (by omega))
    have HHS:=Lib.hid hh
    have HM:=Lib.hid hm
    have HG:=Lib.hid hg
    have HU:=Lib.hid hu
    have QA:=Lib.hid qa
    have QR:=Lib.hid qr
    have HB:=Lib.hid hb
    have y1:=qa.cell 1
    have bx:x<7:=by omega
    have bg:g<100:=by omega
    have bY:y<7:=by omega
    clear hh hm hg hu qa qr hb hM4 hhl hgl hmt hmg hbm hx hy
    by_cases hi4:i<4
    · have HHS:=Lib.hid (show h=4*x+i by have:=HHS.out;rwa [if_pos hi4] at this)
      have eh:4*(x:Int)+(i:Int)=(h:Int):=by have:=HHS.out;omega
      have zi:¬ ((4:Int)<=(i:Int)):=by omega
      go_upto_region 9 with (first|(go_at_call 44;refine HN1.out.mono ?_;rintro e w5 ⟨rfl,rfl⟩))
      by_cases k1:g/4=y
      · by_cases k2:turnN up 3=h
        · by_cases k3:h%2=m%2
          · have z1':((g:Int)/4)=(y:Int):=by omega
            have z2':(turnN up 3:Int)=(h:Int):=by omega
            have z3':((h:Int)%2)=((m:Int)%2):=by omega
            have HK:=Lib.hid (show Lns M x y h from ⟨.inl ⟨by have:=HHS.out;omega,by rw [<- HM.out,<- HG.out];exact k1⟩,by rw [<- HM.out,<- HG.out,<- HU.out];exact k2,by rw [<- HM.out];exact k3⟩)
            clear k1 k2 k3
            go_upto_region 12 with (first|(go_at_call 44;refine HN2.out.mono ?_;rintro e w5 ⟨rfl,rfl⟩))
            obtain ⟨w6,hw6⟩:∃ W,W=wo.alloc (.cells #[.int .i64 0,.int .i64 0,.int .i64 0,.int .i64 0,.int .i64 0,.int .i64 0,.int .i64 0,.int .i64 0] 70):=⟨_,rfl⟩
            have ag:Arr w6 wo.heap.size 70 [.int .i64 0,.int .i64 0,.int .i64 0,.int .i64 0,.int .i64 0,.int .i64 0,.int .i64 0,.int .i64 0]:=by rw [hw6];exact Arr.new _ _ [.int .i64 0,.int .i64 0,.int .i64 0,.int .i64 0,.int .i64 0,.int .i64 0,.int .i64 0,.int .i64 0]
            have hb6:Below wo.heap.size wo w6:=by rw [hw6];exact (Below.refl _ _).alloc (Nat.le_refl _) _
            rw [<- hw6]
            clear hw6 y1 ym yg
            have qr6:=QR.out.below hb6 QR.out.lt
            have hbw6:=HB.out.trans (hb6.mono HB.out.size)
            have hne:w.heap.size+1≠wo.heap.size:=fun e=>by have:=QR.out.lt;omega
            have HGL:=Lib.hid HB.out.size
            generalize wo.heap.size=g14 at *
            obtain ⟨ho,hho⟩:∃ z,z=opp h:=⟨_,rfl⟩
            obtain ⟨uo,huo⟩:∃ z,z=opp up:=⟨_,rfl⟩
            obtain ⟨mo,hmo⟩:∃ z,z=opp m:=⟨_,rfl⟩
            obtain ⟨go,hgo⟩:∃ z,z=opp g:=⟨_,rfl⟩
            rw [<- hho] at KO1
            rw [<- huo] at KO2
            rw [<- hmo] at KO3
            rw [<- hgo] at KO4
            have HE:=Lib.hid (show ho=opp h/\uo=opp up/\mo=opp m/\go=opp g from ⟨hho,huo,hmo,hgo⟩)
            clear hho huo hmo hgo
            have c0:=ag.cell 0
            have f0:=ag.frozen 0
            have c1:=ag.cell 1
            have f1:=ag.frozen 1
            have c2:=ag.cell 2
            have f2:=ag.frozen 2
            have c3:=ag.cell 3
            have f3:=ag.frozen 3
            have c4:=ag.cell 4
            have f4:=ag.frozen 4
            have c5:=ag.cell 5
            have f5:=ag.frozen 5
            have c6:=ag.cell 6
            have f6:=ag.frozen 6
            have c7:=ag.cell 7
            have f7:=ag.frozen 7
            have AG:=Lib.hid ((((((((((((((((ag).set 0 (.int .i64 (h:Int)))).set 1 (.int .i64 (up:Int)))).set 2 (.int .i64 (ho:Int)))).set 3 (.int .i64 (uo:Int)))).set 4 (.int .i64 (mo:Int)))).set 5 (.int .i64 (g:Int)))).set 6 (.int .i64 (m:Int)))).set 7 (.int .i64 (go:Int)))
            have QR6:=Lib.hid ((((((((((((((((qr6).far (p:=⟨g14,0,none⟩) hne (.int .i64 (h:Int)))).far (p:=⟨g14,1,none⟩) hne (.int .i64 (up:Int)))).far (p:=⟨g14,2,none⟩) hne (.int .i64 (ho:Int)))).far (p:=⟨g14,3,none⟩) hne (.int .i64 (uo:Int)))).far (p:=⟨g14,4,none⟩) hne (.int .i64 (mo:Int)))).far (p:=⟨g14,5,none⟩) hne (.int .i64 (g:Int)))).far (p:=⟨g14,6,none⟩) hne (.int .i64 (m:Int)))).far (p:=⟨g14,7,none⟩) hne (.int .i64 (go:Int)))
            have BW6:=Lib.hid ((((((((((((((((hbw6).setCell (p:=⟨g14,0,none⟩) HGL.out (.int .i64 (h:Int)))).setCell (p:=⟨g14,1,none⟩) HGL.out (.int .i64 (up:Int)))).setCell (p:=⟨g14,2,none⟩) HGL.out (.int .i64 (ho:Int)))).setCell (p:=⟨g14,3,none⟩) HGL.out (.int .i64 (uo:Int)))).setCell (p:=⟨g14,4,none⟩) HGL.out (.int .i64 (mo:Int)))).setCell (p:=⟨g14,5,none⟩) HGL.out (.int .i64 (g:Int)))).setCell (p:=⟨g14,6,none⟩) HGL.out (.int .i64 (m:Int)))).setCell (p:=⟨g14,7,none⟩) HGL.out (.int .i64 (go:Int)))
            clear ag qr6 hbw6 hb6 QA QR HB hne
            go_upto_region 14 with (first|(go_at_call_of 55 (Value.int .i64 (h:Int));refine (KO1.out _).mono ?_;rintro e w7 ⟨rfl,rfl⟩)|(go_at_call_of 55 (Value.int .i64 (up:Int));refine (KO2.out _).mono ?_;rintro e w7 ⟨rfl,rfl⟩)|(go_at_call_of 55 (Value.int .i64 (m:Int));refine (KO3.out _).mono ?_;rintro e w7 ⟨rfl,rfl⟩)|(go_at_call_of 55 (Value.int .i64 (g:Int));refine (KO4.out _).mono ?_;rintro e w7 ⟨rfl,rfl⟩))
            clear c0 f0
            clear c1 f1
            clear c2 f2
            clear c3 f3
            clear c4 f4
            clear c5 f5
            clear c6 f6
            clear c7 f7
            generalize ((((((((((((((((w6).setCell ⟨g14,0,none⟩ (.int .i64 (h:Int)))).setCell ⟨g14,1,none⟩ (.int .i64 (up:Int)))).setCell ⟨g14,2,none⟩ (.int .i64 (ho:Int)))).setCell ⟨g14,3,none⟩ (.int .i64 (uo:Int)))).setCell ⟨g14,4,none⟩ (.int .i64 (mo:Int)))).setCell ⟨g14,5,none⟩ (.int .i64 (g:Int)))).setCell ⟨g14,6,none⟩ (.int .i64 (m:Int)))).setCell ⟨g14,7,none⟩ (.int .i64 (go:Int)))=w7 at *
            have c0:=AG.out.cell 0
            have x0:=QR6.out.cell 0
            have xf0:=QR6.out.frozen 0
            have c1:=AG.out.cell 1
            have x1:=QR6.out.cell 1
            have xf1:=QR6.out.frozen 1
            have c2:=AG.out.cell 2
            have x2:=QR6.out.cell 2
            have xf2:=QR6.out.frozen 2
            have c3:=AG.out.cell 3
            have x3:=QR6.out.cell 3
            have xf3:=QR6.out.frozen 3
            have c4:=AG.out.cell 4
            have x4:=QR6.out.cell 4
            have xf4:=QR6.out.frozen 4
            have c5:=AG.out.cell 5
            have x5:=QR6.out.cell 5
            have xf5:=QR6.out.frozen 5
            have c6:=AG.out.cell 6
            have x6:=QR6.out.cell 6
            have xf6:=QR6.out.frozen 6
            have c7:=AG.out.cell 7
            have x7:=QR6.out.cell 7
            have xf7:=QR6.out.frozen 7
            have HRES:=Lib.hid ((((((((((((((((QR6.out).set 0 (.int .i64 (h:Int)))).set 1 (.int .i64 (up:Int)))).set 2 (.int .i64 (ho:Int)))).set 3 (.int .i64 (uo:Int)))).set 4 (.int .i64 (mo:Int)))).set 5 (.int .i64 (g:Int)))).set 6 (.int .i64 (m:Int)))).set 7 (.int .i64 (go:Int)))
            have HBE:=Lib.hid ((((((((((((((((BW6.out).setCell (p:=⟨w.heap.size+1,0,none⟩) (by simp) (.int .i64 (h:Int)))).setCell (p:=⟨w.heap.size+1,1,none⟩) (by simp) (.int .i64 (up:Int)))).setCell (p:=⟨w.heap.size+1,2,none⟩) (by simp) (.int .i64 (ho:Int)))).setCell (p:=⟨w.heap.size+1,3,none⟩) (by simp) (.int .i64 (uo:Int)))).setCell (p:=⟨w.heap.size+1,4,none⟩) (by simp) (.int .i64 (mo:Int)))).setCell (p:=⟨w.heap.size+1,5,none⟩) (by simp) (.int .i64 (g:Int)))).setCell (p:=⟨w.heap.size+1,6,none⟩) (by simp) (.int .i64 (m:Int)))).setCell (p:=⟨w.heap.size+1,7,none⟩) (by simp) (.int .i64 (go:Int)))
            go_wp2_with fail
            refine bodyPost_ret (v:=.tuple #[.agg (rowOf [.int .i64 (h:Int),.int .i64 (up:Int),.int .i64 (ho:Int),.int .i64 (uo:Int),.int .i64 (mo:Int),.int .i64 (g:Int),.int .i64 (m:Int),.int .i64 (go:Int)]),.bool true]) (results_ct Try.results40 _ _ (w.heap.size+1) 70 _ _ rfl HRES.out Try.underlying70 rfl info_lens) rfl ?_
            obtain ⟨he1,he2,he3,he4⟩:=HE.out
            exact ⟨.inr ⟨h,HK.out,by rw [<- HM.out,<- HG.out,<- HU.out];unfold lensV;rw [he1,he2,he3,he4]⟩,HBE.out⟩
          · have z1':((g:Int)/4)=(y:Int):=by omega
            have z2':(turnN up 3:Int)=(h:Int):=by omega
            have z3':¬ (((h:Int)%2)=((m:Int)%2)):=by omega
            clear k1 k2 k3
            go_wp2_with (first|(go_at_call 44;refine HN2.out.mono ?_;rintro e w5 ⟨rfl,rfl⟩))
            go_roundg (8-(i+1))
            case measure=>omega
            case rel=>exact ⟨i+1,by omega,rfl,by go_num,QA.out,QR.out,HB.out⟩
        · have z1':((g:Int)/4)=(y:Int):=by omega
          have z2':¬ ((turnN up 3:Int)=(h:Int)):=by omega
          clear k1 k2
          go_wp2_with (first|(go_at_call 44;refine HN2.out.mono ?_;rintro e w5 ⟨rfl,rfl⟩))
          go_roundg (8-(i+1))
          case measure=>omega
          case rel=>exact ⟨i+1,by omega,rfl,by go_num,QA.out,QR.out,HB.out⟩
      · obtain ⟨gk,hgk⟩:∃ gk,gk=g/4:=⟨_,rfl⟩
        have e4g:(g:Int)/4=(gk:Int):=by omega
        have bgk:(gk:Int)<1000:=by omega
        have z1':¬ ((gk:Int)=(y:Int)):=by omega
        clear k1 hgk
        go_wp2_with fail
        go_roundg (8-(i+1))
        case measure=>omega
        case rel=>exact ⟨i+1,by omega,rfl,by go_num,QA.out,QR.out,HB.out⟩
    · have HHS:=Lib.hid (show h=4*y+i-4 by have:=HHS.out;rwa [if_neg hi4] at this)
      have eh:4*(y:Int)+(i:Int)-4=(h:Int):=by have:=HHS.out;omega
      have zi:((4:Int)<=(i:Int)):=by omega
      go_upto_region 9 with (first|(go_at_call 44;refine HN1.out.mono ?_;rintro e w5 ⟨rfl,rfl⟩))
      by_cases k1:g/4=x
      · by_cases k2:turnN up 3=h
        · by_cases k3:h%2=m%2
          · have z1':((g:Int)/4)=(x:Int):=by omega
            have z2':(turnN up 3:Int)=(h:Int):=by omega
            have z3':((h:Int)%2)=((m:Int)%2):=by omega
            have HK:=Lib.hid (show Lns M x y h from ⟨.inr ⟨by have:=HHS.out;omega,by rw [<- HM.out,<- HG.out];exact k1⟩,by rw [<- HM.out,<- HG.out,<- HU.out];exact k2,by rw [<- HM.out];exact k3⟩)
            clear k1 k2 k3
            go_upto_region 12 with (first|(go_at_call 44;refine HN2.out.mono ?_;rintro e w5 ⟨rfl,rfl⟩))
            obtain ⟨w6,hw6⟩:∃ W,W=wo.alloc (.cells #[.int .i64 0,.int .i64 0,.int .i64 0,.int .i64 0,.int .i64 0,.int .i64 0,.int .i64 0,.int .i64 0] 70):=⟨_,rfl⟩
            have ag:Arr w6 wo.heap.size 70 [.int .i64 0,.int .i64 0,.int .i64 0,.int .i64 0,.int .i64 0,.int .i64 0,.int .i64 0,.int .i64 0]:=by rw [hw6];exact Arr.new _ _ [.int .i64 0,.int .i64 0,.int .i64 0,.int .i64 0,.int .i64 0,.int .i64 0,.int .i64 0,.int .i64 0]
            have hb6:Below wo.heap.size wo w6:=by rw [hw6];exact (Below.refl _ _).alloc (Nat.le_refl _) _
            rw [<- hw6]
            clear hw6 y1 ym yg
            have qr6:=QR.out.below hb6 QR.out.lt
            have hbw6:=HB.out.trans (hb6.mono HB.out.size)
            have hne:w.heap.size+1≠wo.heap.size:=fun e=>by have:=QR.out.lt;omega
            have HGL:=Lib.hid HB.out.size
            generalize wo.heap.size=g14 at *
            obtain ⟨ho,hho⟩:∃ z,z=opp h:=⟨_,rfl⟩
            obtain ⟨uo,huo⟩:∃ z,z=opp up:=⟨_,rfl⟩
            obtain ⟨mo,hmo⟩:∃ z,z=opp m:=⟨_,rfl⟩
            obtain ⟨go,hgo⟩:∃ z,z=opp g:=⟨_,rfl⟩
            rw [<- hho] at KO1
            rw [<- huo] at KO2
            rw [<- hmo] at KO3
            rw [<- hgo] at KO4
            have HE:=Lib.hid (show ho=opp h/\uo=opp up/\mo=opp m/\go=opp g from ⟨hho,huo,hmo,hgo⟩)
            clear hho huo hmo hgo
            have c0:=ag.cell 0
            have f0:=ag.frozen 0
            have c1:=ag.cell 1
            have f1:=ag.frozen 1
            have c2:=ag.cell 2
            have f2:=ag.frozen 2
            have c3:=ag.cell 3
            have f3:=ag.frozen 3
            have c4:=ag.cell 4
            have f4:=ag.frozen 4
            have c5:=ag.cell 5
            have f5:=ag.frozen 5
            have c6:=ag.cell 6
            have f6:=ag.frozen 6
            have c7:=ag.cell 7
            have f7:=ag.frozen 7
            have AG:=Lib.hid ((((((((((((((((ag).set 0 (.int .i64 (h:Int)))).set 1 (.int .i64 (up:Int)))).set 2 (.int .i64 (ho:Int)))).set 3 (.int .i64 (uo:Int)))).set 4 (.int .i64 (mo:Int)))).set 5 (.int .i64 (g:Int)))).set 6 (.int .i64 (m:Int)))).set 7 (.int .i64 (go:Int)))
            have QR6:=Lib.hid ((((((((((((((((qr6).far (p:=⟨g14,0,none⟩) hne (.int .i64 (h:Int)))).far (p:=⟨g14,1,none⟩) hne (.int .i64 (up:Int)))).far (p:=⟨g14,2,none⟩) hne (.int .i64 (ho:Int)))).far (p:=⟨g14,3,none⟩) hne (.int .i64 (uo:Int)))).far (p:=⟨g14,4,none⟩) hne (.int .i64 (mo:Int)))).far (p:=⟨g14,5,none⟩) hne (.int .i64 (g:Int)))).far (p:=⟨g14,6,none⟩) hne (.int .i64 (m:Int)))).far (p:=⟨g14,7,none⟩) hne (.int .i64 (go:Int)))
            have BW6:=Lib.hid ((((((((((((((((hbw6).setCell (p:=⟨g14,0,none⟩) HGL.out (.int .i64 (h:Int)))).setCell (p:=⟨g14,1,none⟩) HGL.out (.int .i64 (up:Int)))).setCell (p:=⟨g14,2,none⟩) HGL.out (.int .i64 (ho:Int)))).setCell (p:=⟨g14,3,none⟩) HGL.out (.int .i64 (uo:Int)))).setCell (p:=⟨g14,4,none⟩) HGL.out (.int .i64 (mo:Int)))).setCell (p:=⟨g14,5,none⟩) HGL.out (.int .i64 (g:Int)))).setCell (p:=⟨g14,6,none⟩) HGL.out (.int .i64 (m:Int)))).setCell (p:=⟨g14,7,none⟩) HGL.out (.int .i64 (go:Int)))
            clear ag qr6 hbw6 hb6 QA QR HB hne
            go_upto_region 14 with (first|(go_at_call_of 55 (Value.int .i64 (h:Int));refine (KO1.out _).mono ?_;rintro e w7 ⟨rfl,rfl⟩)|(go_at_call_of 55 (Value.int .i64 (up:Int));refine (KO2.out _).mono ?_;rintro e w7 ⟨rfl,rfl⟩)|(go_at_call_of 55 (Value.int .i64 (m:Int));refine (KO3.out _).mono ?_;rintro e w7 ⟨rfl,rfl⟩)|(go_at_call_of 55 (Value.int .i64 (g:Int));refine (KO4.out _).mono ?_;rintro e w7 ⟨rfl,rfl⟩))
            clear c0 f0
            clear c1 f1
            clear c2 f2
            clear c3 f3
            clear c4 f4
            clear c5 f5
            clear c6 f6
            clear c7 f7
            generalize ((((((((((((((((w6).setCell ⟨g14,0,none⟩ (.int .i64 (h:Int)))).setCell ⟨g14,1,none⟩ (.int .i64 (up:Int)))).setCell ⟨g14,2,none⟩ (.int .i64 (ho:Int)))).setCell ⟨g14,3,none⟩ (.int .i64 (uo:Int)))).setCell ⟨g14,4,none⟩ (.int .i64 (mo:Int)))).setCell ⟨g14,5,none⟩ (.int .i64 (g:Int)))).setCell ⟨g14,6,none⟩ (.int .i64 (m:Int)))).setCell ⟨g14,7,none⟩ (.int .i64 (go:Int)))=w7 at *
            have c0:=AG.out.cell 0
            have x0:=QR6.out.cell 0
            have xf0:=QR6.out.frozen 0
            have c1:=AG.out.cell 1
            have x1:=QR6.out.cell 1
            have xf1:=QR6.out.frozen 1
            have c2:=AG.out.cell 2
            have x2:=QR6.out.cell 2
            have xf2:=QR6.out.frozen 2
            have c3:=AG.out.cell 3
            have x3:=QR6.out.cell 3
            have xf3:=QR6.out.frozen 3
            have c4:=AG.out.cell 4
            have x4:=QR6.out.cell 4
            have xf4:=QR6.out.frozen 4
            have c5:=AG.out.cell 5
            have x5:=QR6.out.cell 5
            have xf5:=QR6.out.frozen 5
            have c6:=AG.out.cell 6
            have x6:=QR6.out.cell 6
            have xf6:=QR6.out.frozen 6
            have c7:=AG.out.cell 7
            have x7:=QR6.out.cell 7
            have xf7:=QR6.out.frozen 7
            have HRES:=Lib.hid ((((((((((((((((QR6.out).set 0 (.int .i64 (h:Int)))).set 1 (.int .i64 (up:Int)))).set 2 (.int .i64 (ho:Int)))).set 3 (.int .i64 (uo:Int)))).set 4 (.int .i64 (mo:Int)))).set 5 (.int .i64 (g:Int)))).set 6 (.int .i64 (m:Int)))).set 7 (.int .i64 (go:Int)))
            have HBE:=Lib.hid ((((((((((((((((BW6.out).setCell (p:=⟨w.heap.size+1,0,none⟩) (by simp) (.int .i64 (h:Int)))).setCell (p:=⟨w.heap.size+1,1,none⟩) (by simp) (.int .i64 (up:Int)))).setCell (p:=⟨w.heap.size+1,2,none⟩) (by simp) (.int .i64 (ho:Int)))).setCell (p:=⟨w.heap.size+1,3,none⟩) (by simp) (.int .i64 (uo:Int)))).setCell (p:=⟨w.heap.size+1,4,none⟩) (by simp) (.int .i64 (mo:Int)))).setCell (p:=⟨w.heap.size+1,5,none⟩) (by simp) (.int .i64 (g:Int)))).setCell (p:=⟨w.heap.size+1,6,none⟩) (by simp) (.int .i64 (m:Int)))).setCell (p:=⟨w.heap.size+1,7,none⟩) (by simp) (.int .i64 (go:Int)))
            go_wp2_with fail
            refine bodyPost_ret (v:=.tuple #[.agg (rowOf [.int .i64 (h:Int),.int .i64 (up:Int),.int .i64 (ho:Int),.int .i64 (uo:Int),.int .i64 (mo:Int),.int .i64 (g:Int),.int .i64 (m:Int),.int .i64 (go:Int)]),.bool true]) (results_ct Try.results40 _ _ (w.heap.size+1) 70 _ _ rfl HRES.out Try.underlying70 rfl info_lens) rfl ?_
            obtain ⟨he1,he2,he3,he4⟩:=HE.out
            exact ⟨.inr ⟨h,HK.out,by rw [<- HM.out,<- HG.out,<- HU.out];unfold lensV;rw [he1,he2,he3,he4]⟩,HBE.out⟩
          · have z1':((g:Int)/4)=(x:Int):=by omega
            have z2':(turnN up 3:Int)=(h:Int):=by omega
            have z3':¬ (((h:Int)%2)=((m:Int)%2)):=by omega
            clear k1 k2 k3
            go_wp2_with (first|(go_at_call 44;refine HN2.out.mono ?_;rintro e w5 ⟨rfl,rfl⟩))
            go_roundg (8-(i+1))
            case measure=>omega
            case rel=>exact ⟨i+1,by omega,rfl,by go_num,QA.out,QR.out,HB.out⟩
        · have z1':((g:Int)/4)=(x:Int):=by omega
          have z2':¬ ((turnN up 3:Int)=(h:Int)):=by omega
          clear k1 k2
          go_wp2_with (first|(go_at_call 44;refine HN2.out.mono ?_;rintro e w5 ⟨rfl,rfl⟩))
          go_roundg (8-(i+1))
          case measure=>omega
          case rel=>exact ⟨i+1,by omega,rfl,by go_num,QA.out,QR.out,HB.out⟩
      · obtain ⟨gk,hgk⟩:∃ gk,gk=g/4:=⟨_,rfl⟩
        have e4g:(g:Int)/4=(gk:Int):=by omega
        have bgk:(gk:Int)<1000:=by omega
        have z1':¬ ((gk:Int)=(x:Int)):=by omega
        clear k1 hgk
        go_wp2_with fail
        go_roundg (8-(i+1))
        case measure=>omega
        case rel=>exact ⟨i+1,by omega,rfl,by go_num,QA.out,QR.out,HB.out⟩
  · obtain rfl:i=8:=by omega
    have x0:=qr.cell 0
    have xf0:=qr.frozen 0
    have x1:=qr.cell 1
    have xf1:=qr.frozen 1
    have x2:=qr.cell 2
    have xf2:=qr.frozen 2
    have x3:=qr.cell 3
    have xf3:=qr.frozen 3
    have x4:=qr.cell 4
    have xf4:=qr.frozen 4
    have x5:=qr.cell 5
    have xf5:=qr.frozen 5
    have x6:=qr.cell 6
    have xf6:=qr.frozen 6
    have x7:=qr.cell 7
    have xf7:=qr.frozen 7
    have HRES:=Lib.hid ((((((((((((((((qr).set 0 (.int .i64 0))).set 1 (.int .i64 0))).set 2 (.int .i64 0))).set 3 (.int .i64 0))).set 4 (.int .i64 0))).set 5 (.int .i64 0))).set 6 (.int .i64 0))).set 7 (.int .i64 0))
    have HBE:=Lib.hid ((((((((((((((((hb).setCell (p:=⟨w.heap.size+1,0,none⟩) (by simp) (.int .i64 0))).setCell (p:=⟨w.heap.size+1,1,none⟩) (by simp) (.int .i64 0))).setCell (p:=⟨w.heap.size+1,2,none⟩) (by simp) (.int .i64 0))).setCell (p:=⟨w.heap.size+1,3,none⟩) (by simp) (.int .i64 0))).setCell (p:=⟨w.heap.size+1,4,none⟩) (by simp) (.int .i64 0))).setCell (p:=⟨w.heap.size+1,5,none⟩) (by simp) (.int .i64 0))).setCell (p:=⟨w.heap.size+1,6,none⟩) (by simp) (.int .i64 0))).setCell (p:=⟨w.heap.size+1,7,none⟩) (by simp) (.int .i64 0))
    clear qa qr hb
    go_wp2_with fail
    refine bodyPost_ret (v:=.tuple #[.agg (rowOf [.int .i64 0,.int .i64 0,.int .i64 0,.int .i64 0,.int .i64 0,.int .i64 0,.int .i64 0,.int .i64 0]),.bool false]) (results_ct Try.results40 _ _ (w.heap.size+1) 70 _ _ rfl HRES.out Try.underlying70 rfl info_lens) rfl ?_
    exact ⟨.inl rfl,HBE.out⟩
end Go.Proofs.Ytfnmeigpfmeomaa
