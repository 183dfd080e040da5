/- fcolor.Matrix: the walk. -/
import Derived.Test.YtfnmeigpfmeomaaZfMtp
import Derived.StillTailTactics
namespace Go.Proofs.Ytfnmeigpfmeomaa
open Go.RowKit
set_option linter.unusedVariables false
theorem arc_lt {S M:List Int} {L:Int} (k:Ok S M L) {h:Nat} (hh:h<M.length):gn (arcL M) h<colN M L:=by
 unfold arcL colN
 rw [gn_numA hh,if_pos hh]
 have hl:=la_lt k hh (labA_conn k.rh M.length h hh)
 have hs:=la_self k hh
 have h1:rk (labA M M.length M.length) (gn (labA M M.length M.length) h+1)=rk (labA M M.length M.length) (gn (labA M M.length M.length) h)+1:=by rw [rk,if_pos hs]
 have h2:=rk_mono (labA M M.length M.length) (show gn (labA M M.length M.length) h+1<=M.length by omega)
 omega
theorem arcL_length (M:List Int):(arcL M).length=M.length:=numA_length _ _ _
theorem colN_le {S M:List Int} {L:Int} (k:Ok S M L):colN M L<=320:=by
 unfold colN
 have:=rk_le (labA M M.length M.length) M.length
 have:=k.m;have:=k.n;have:=k.l0;have:=k.l1
 omega
set_option maxHeartbeats 4000000 in
set_option maxRecDepth 100000 in
theorem Matrix_yes (vs vm:Value) (S M:List Int) (L:Int) (w:World) (hS:Ints w vs S) (hM:Ints w vm M) (hv:valB S M L=true) :
 Calls Try.prog 20 #[.agg #[vs,vm,.int .i64 L]] w fun e w'=>∃ v,e=.returned (.tuple #[v,.int .i64 0])/\Mat w' v (matM (arcL M) (colN M L) S.length)/\Below w.heap.size w w':=by
 obtain ⟨i0,hi0,hz0,hz1,hz2⟩:=info_parts info_int
 obtain ⟨i1,hi1,hy0,hy1,hy2⟩:=info_parts info_ints
 have hW:Arr (w.alloc (.cells #[vs,vm,.int .i64 L] 24)) w.heap.size 24 [vs,vm,.int .i64 L]/\Below w.heap.size w (w.alloc (.cells #[vs,vm,.int .i64 L] 24)):=⟨Arr.new w _ _,(Below.refl _ _).alloc (Nat.le_refl _) _⟩
 have HK:=Lib.hid (valB_ok hv)
 have HC:=Lib.hid (fun W (hb:Below w.heap.size w W)=>Arcs_yes vs vm S M L W (hS.below hb) (hM.below hb) hv)
 have hcn:=colN_le HK.out
 have hsn:=HK.out.n
 have HAL:=Lib.hid (fun h (hh:h<M.length)=>arc_lt HK.out hh)
 have hal:=arcL_length M
 have HAR:=Lib.hid hal
 have T2:=Lib.hid HK.out.m
 clear hv hal
 have hmk:=fun W=>run_make_one (P:=Try.prog) 22 3 i0 (.int .i64 0) Try.underlying22 hi0 hz0 hz1 rfl (by rw [hz2];decide) (colN M L) (by omega) W
 have hmk2:=fun W=>run_make_one (P:=Try.prog) 45 22 i1 (.slice none 0 0) Try.underlying45 hi1 hy0 hy1 rfl (by rw [hy2];decide) S.length (by omega) W
 have MK:=Lib.hid hmk
 have MK2:=Lib.hid hmk2
 clear hmk hmk2
 obtain ⟨A,c,rfl,hc,hx⟩:=hS
 obtain ⟨A2,c2,rfl,hc2,hx2⟩:=hM
 clear hx hx2
 generalize arcL M=arc at *
 generalize colN M L=cols at *
 go_enter Try.func20,Try.ntmps20
 go_upto_region 1 with fail
 generalize (w.alloc (.cells #[.slice A S.length c,.slice A2 M.length c2,.int .i64 L] 24))=w4 at hW ⊢
 obtain ⟨q0,hb4⟩:=hW
 have y0:=q0.cell 0
 have y1:=q0.cell 1
 have y2:=q0.cell 2
 go_upto_region 4 with (go_at_call 21;refine (HC.out _ hb4).mono ?_;rintro e w5 ⟨g,rfl,hg5,a5,hb5⟩)
 have hb6:=hb4.trans (hb5.mono hb4.size)
 have q1:=q0.below hb5 q0.lt
 clear y0 y1 y2
 have y0:=q1.cell 0
 have hmk2:=MK2.out
 go_upto_region 5 with fail
 have hW:∀ W,W=w5.alloc (.cells (rowOf (List.replicate S.length (Value.slice none 0 0))) 22)->Arr W w5.heap.size 22 ([] ++ List.replicate (S.length-0) (Value.slice none 0 0))/\Arr W g 3 (nc arc)/\Below w.heap.size w W:=by
  intro W hW
  subst hW
  exact ⟨Arr.new w5 _ _,a5.alloc _,hb6.alloc hb6.size _⟩
 have lg:=a5.lt
 generalize hB:w5.heap.size=R at *
 generalize w5.alloc (.cells (rowOf (List.replicate S.length (Value.slice none 0 0))) 22)=w6 at hW ⊢
 obtain ⟨r6,a6,hb7⟩:=hW w6 rfl
 have lwR:w.heap.size<=R:=by rw [<- hB];exact hb6.size
 have rr:RowsA 3 w6 R w6.heap.size [] (matM arc cols 0):=RowsA.nil _ _ _ _
 clear hB hW hmk2 MK2 q0 q1 hb4 hb5 hb6 a5 y0
 go_wp2_with fail
 go_loopg [8,23] S.length (fun gk s8 s23 wr=>∃ (x:Nat) (vs:List Value),x<=S.length/\gk=S.length-x/\s23=.int .i64 (x:Int)/\vs.length=x/\Arr wr R 22 (vs ++ List.replicate (S.length-x) (Value.slice none 0 0))/\Arr wr g 3 (nc arc)/\RowsA 3 wr R wr.heap.size vs (matM arc cols x)/\Below w.heap.size w wr)
 case atStart=>exact ⟨0,[],Nat.zero_le _,rfl,rfl,rfl,r6,a6,rr,hb7⟩
 case round =>
  clear r6 a6 rr hb7
  obtain ⟨x,vs,hx,rfl,rfl,hvl,r6,a6,rr,hb7⟩:=hrel
  by_cases hlt:x<S.length
  · have z1:(x:Int)<(S.length:Int):=by omega
    have hmk:=MK.out
    have lR:=r6.lt
    have zc:wr.cell? ⟨R,x,none⟩=some (Value.slice none 0 0):=by
     rw [r6.cell,List.getElem?_append_right (by omega),List.getElem?_replicate,if_pos (by omega)]
    have zf:=r6.frozen x
    have HVL:=Lib.hid hvl
    clear hvl
    go_upto_region 9 with fail
    have hse:(wr.setCell ⟨R,x,none⟩ (.slice (some ⟨wr.heap.size,0,none⟩) cols cols)).heap.size=wr.heap.size:=by simp
    have hW:∀ W,W=(wr.setCell ⟨R,x,none⟩ (.slice (some ⟨wr.heap.size,0,none⟩) cols cols)).alloc (.cells (rowOf (List.replicate cols (Value.int .i64 0))) 3)->Arr W wr.heap.size 3 (ic (List.replicate cols 0))/\Arr W R 22 ((vs ++ [.slice (some ⟨wr.heap.size,0,none⟩) cols cols]) ++ List.replicate (S.length-(x+1)) (Value.slice none 0 0))/\Arr W g 3 (nc arc)/\RowsA 3 W R wr.heap.size vs (matM arc cols x)/\Below w.heap.size w W:=by
     intro W hW
     subst hW
     refine ⟨?_,?_,(a6.far (p:=⟨R,x,none⟩) (Nat.ne_of_lt lg) _).alloc _,rr.keep ?_,(hb7.setCell (p:=⟨R,x,none⟩) lwR _).alloc (Nat.le_trans hb7.size (Nat.le_of_eq hse.symm)) _⟩
     · rw [show ic (List.replicate cols 0)=List.replicate cols (Value.int .i64 0) by simp [ic]]
       exact Arr.newAt _ _ _ _ hse.symm
     · have h1:=(r6.set x (.slice (some ⟨wr.heap.size,0,none⟩) cols cols)).alloc (.cells (rowOf (List.replicate cols (Value.int .i64 0))) 3)
       have h2:(vs ++ List.replicate (S.length-x) (Value.slice none 0 0)).set x (.slice (some ⟨wr.heap.size,0,none⟩) cols cols)=(vs ++ [.slice (some ⟨wr.heap.size,0,none⟩) cols cols]) ++ List.replicate (S.length-(x+1)) (Value.slice none 0 0):=by
        have h3:S.length-x=(S.length-(x+1))+1:=by omega
        rw [List.set_append_right (h:=by have:=HVL.out;omega),h3,List.replicate_succ,show x-vs.length=0 by have:=HVL.out;omega]
        simp
       rw [h2] at h1;exact h1
     · intro b hb1 hb2 _
       rw [Below.heap_alloc _ _ b (by rw [hse];exact hb2)]
       exact Below.heap_setCell _ ⟨R,x,none⟩ _ b (Nat.ne_of_gt hb1)
    generalize hB:wr.heap.size=B at *
    generalize (wr.setCell ⟨R,x,none⟩ (.slice (some ⟨B,0,none⟩) cols cols)).alloc (.cells (rowOf (List.replicate cols (Value.int .i64 0))) 3)=w7 at hW ⊢
    obtain ⟨b8,r8,a8,rr8,hb8⟩:=hW w7 rfl
    clear hB hW hmk r6 a6 rr hb7 zc zf hse
    have hx4:4*x+3<M.length:=by have:=T2.out;omega
    have lgB:g≠B:=by omega
    have lRB:R≠B:=by omega
    have lwB:w.heap.size<=B:=by omega
    have zr:w7.cell? ⟨R,x,none⟩=some (Value.slice (some ⟨B,0,none⟩) cols cols):=by
     have:=HVL.out
     rw [r8.cell,List.append_assoc,List.getElem?_append_right (by omega),show x-vs.length=0 by omega];rfl
    obtain ⟨p,hp⟩:∃ p,p=4*x:=⟨_,rfl⟩
    obtain ⟨u1,hu1⟩:∃ p,p=4*x+1:=⟨_,rfl⟩
    obtain ⟨u2,hu2⟩:∃ p,p=4*x+2:=⟨_,rfl⟩
    have l0:p<M.length:=by omega
    have l1:u1<M.length:=by omega
    have l2:u2<M.length:=by omega
    have m0:=HAL.out p l0
    have m1:=HAL.out u1 l1
    have m2:=HAL.out u2 l2
    have zg0:=(a8.cell p).trans (nc_get (by have:=HAR.out;omega))
    have zg1:=(a8.cell u1).trans (nc_get (by have:=HAR.out;omega))
    have zg2:=(a8.cell u2).trans (nc_get (by have:=HAR.out;omega))
    have HRM:=Lib.hid (show rowM arc cols x=addI (addI (addI (List.replicate cols 0) (gn arc u1) 2) (gn arc p) (-1)) (gn arc u2) (-1) by rw [hp,hu1,hu2];rfl)
    generalize gn arc p=e0 at *
    generalize gn arc u1=e1 at *
    generalize gn arc u2=e2 at *
    have k0:(p:Int)<(M.length:Int):=by omega
    have k1:(u1:Int)<(M.length:Int):=by omega
    have k2:(u2:Int)<(M.length:Int):=by omega
    have j0:(e0:Int)<(cols:Int):=by omega
    have j1:(e1:Int)<(cols:Int):=by omega
    have j2:(e2:Int)<(cols:Int):=by omega
    have wa:IntKind.i64.wrap (4*(x:Int))=(p:Int):=(IntWalk.i64_in _ (by omega)).trans (by omega)
    have wb:IntKind.i64.wrap ((p:Int)+1)=(u1:Int):=(IntWalk.i64_in _ (by omega)).trans (by omega)
    have wc:IntKind.i64.wrap ((p:Int)+2)=(u2:Int):=(IntWalk.i64_in _ (by omega)).trans (by omega)
    have WA:=Lib.hid wa
    have WB:=Lib.hid wb
    have WC:=Lib.hid wc
    clear wa wb wc hp hu1 hu2 hx4
    obtain ⟨r0,hr0⟩:∃ r,r=List.replicate cols (0:Int):=⟨_,rfl⟩
    have hl0:r0.length=cols:=by rw [hr0];simp
    have HB0:=Lib.hid (show ∀ j,-(0:Int)<=gi r0 j/\gi r0 j<=0 from fun j=>by rw [hr0,gi_zeros];omega)
    rw [<- hr0] at b8 HRM
    clear hr0
    have zb:=(b8.cell e1).trans (ic_get (by omega))
    have zf:=b8.frozen e1
    have hq:=HB0.out e1
    have wd:IntKind.i64.wrap (gi r0 e1+2)=gi r0 e1+2:=IntWalk.i64_in _ (by omega)
    have HB1:=Lib.hid (show ∀ j,-(2:Int)<=gi (addI r0 e1 2) j/\gi (addI r0 e1 2) j<=2 from addI_bd (b:=0) (e:=2) HB0.out (by omega) (by omega))
    have hl1:(addI r0 e1 2).length=cols:=by rw [addI_length];exact hl0
    have HS1:=Lib.hid (show (ic r0).set e1 (.int .i64 (gi r0 e1+2))=ic (addI r0 e1 2) by rw [ic_set];rfl)
    generalize gi r0 e1=y0 at *
    obtain ⟨r1,hr1⟩:∃ r,r=addI r0 e1 2:=⟨_,rfl⟩
    rw [<- hr1] at HB1 hl1 HS1 HRM
    clear hr1 hq
    have wa:=WA.out
    have wb:=WB.out
    go_still_tail 14,(by kernel_rfl)
    change wpList _ _ _ _ _ w7.drew
    replace zr:w7.drew.cell? ⟨R,x,none⟩=_:=zr
    replace zg0:w7.drew.cell? ⟨g,p,none⟩=_:=zg0
    replace zg1:w7.drew.cell? ⟨g,u1,none⟩=_:=zg1
    replace zg2:w7.drew.cell? ⟨g,u2,none⟩=_:=zg2
    replace zb:w7.drew.cell? ⟨B,e1,none⟩=_:=zb
    replace zf:w7.drew.frozen? ⟨B,e1,none⟩=_:=zf
    replace b8:Arr w7.drew B 3 (ic r0):=b8
    replace r8:Arr w7.drew R 22 ((vs ++ [.slice (some ⟨B,0,none⟩) cols cols]) ++ List.replicate (S.length-(x+1)) (Value.slice none 0 0)):=r8
    replace a8:Arr w7.drew g 3 (nc arc):=a8
    replace rr8:RowsA 3 w7.drew R B vs (matM arc cols x):=rr8.keep fun _ _ _ _=>rfl
    replace hb8:=hb8.drew
    generalize w7.drew=v0 at *
    go_upto_region 10 with fail
    have hW:∀ W,W=v0.setCell ⟨B,e1,none⟩ (.int .i64 (y0+2))->Arr W B 3 (ic r1)/\Arr W R 22 ((vs ++ [.slice (some ⟨B,0,none⟩) cols cols]) ++ List.replicate (S.length-(x+1)) (Value.slice none 0 0))/\Arr W g 3 (nc arc)/\RowsA 3 W R B vs (matM arc cols x)/\Below w.heap.size w W/\W.cell? ⟨R,x,none⟩=some (Value.slice (some ⟨B,0,none⟩) cols cols)/\W.cell? ⟨g,p,none⟩=some (.int .i64 (e0:Int))/\W.cell? ⟨g,u1,none⟩=some (.int .i64 (e1:Int))/\W.cell? ⟨g,u2,none⟩=some (.int .i64 (e2:Int)):=by
     intro W hW
     subst hW
     have hO:=(Onl.refl B v0).setCell e1 (.int .i64 (y0+2))
     exact ⟨by rw [<- HS1.out];exact b8.set e1 _,r8.onl hO lRB,a8.onl hO lgB,rr8.onl hO,hb8.setCell (p:=⟨B,e1,none⟩) lwB _,(hO.cell lRB).trans zr,(hO.cell lgB).trans zg0,(hO.cell lgB).trans zg1,(hO.cell lgB).trans zg2⟩
    generalize v0.setCell ⟨B,e1,none⟩ (.int .i64 (y0+2))=w10 at hW ⊢
    clear b8 r8 a8 rr8 hb8 zr zg0 zg1 zg2
    obtain ⟨b9,r9,a9,rr9,hb9,zr,zg0,zg1,zg2⟩:=hW w10 rfl
    clear wa wb wd hW zb zf
    have zb:=(b9.cell e0).trans (ic_get (by omega))
    have zf:=b9.frozen e0
    have hq:=HB1.out e0
    have wd:IntKind.i64.wrap (gi r1 e0-1)=gi r1 e0-1:=IntWalk.i64_in _ (by omega)
    have HB2:=Lib.hid (show ∀ j,-(3:Int)<=gi (addI r1 e0 (-1)) j/\gi (addI r1 e0 (-1)) j<=3 from addI_bd (b:=2) (e:=1) HB1.out (by omega) (by omega))
    have hl2:(addI r1 e0 (-1)).length=cols:=by rw [addI_length];exact hl1
    have HS2:=Lib.hid (show (ic r1).set e0 (.int .i64 (gi r1 e0-1))=ic (addI r1 e0 (-1)) by rw [ic_set];rfl)
    generalize gi r1 e0=y1 at *
    obtain ⟨r2,hr2⟩:∃ r,r=addI r1 e0 (-1):=⟨_,rfl⟩
    rw [<- hr2] at HB2 hl2 HS2 HRM
    clear hr2 hq
    have wa:=WA.out
    go_still_tail 13,(by kernel_rfl)
    change wpList _ _ _ _ _ w10.drew
    replace zr:w10.drew.cell? ⟨R,x,none⟩=_:=zr
    replace zg0:w10.drew.cell? ⟨g,p,none⟩=_:=zg0
    replace zg1:w10.drew.cell? ⟨g,u1,none⟩=_:=zg1
    replace zg2:w10.drew.cell? ⟨g,u2,none⟩=_:=zg2
    replace zb:w10.drew.cell? ⟨B,e0,none⟩=_:=zb
    replace zf:w10.drew.frozen? ⟨B,e0,none⟩=_:=zf
    replace b9:Arr w10.drew B 3 (ic r1):=b9
    replace r9:Arr w10.drew R 22 ((vs ++ [.slice (some ⟨B,0,none⟩) cols cols]) ++ List.replicate (S.length-(x+1)) (Value.slice none 0 0)):=r9
    replace a9:Arr w10.drew g 3 (nc arc):=a9
    replace rr9:RowsA 3 w10.drew R B vs (matM arc cols x):=rr9.keep fun _ _ _ _=>rfl
    replace hb9:=hb9.drew
    generalize w10.drew=v1 at *
    go_upto_region 11 with fail
    have hW:∀ W,W=v1.setCell ⟨B,e0,none⟩ (.int .i64 (y1-1))->Arr W B 3 (ic r2)/\Arr W R 22 ((vs ++ [.slice (some ⟨B,0,none⟩) cols cols]) ++ List.replicate (S.length-(x+1)) (Value.slice none 0 0))/\Arr W g 3 (nc arc)/\RowsA 3 W R B vs (matM arc cols x)/\Below w.heap.size w W/\W.cell? ⟨R,x,none⟩=some (Value.slice (some ⟨B,0,none⟩) cols cols)/\W.cell? ⟨g,p,none⟩=some (.int .i64 (e0:Int))/\W.cell? ⟨g,u1,none⟩=some (.int .i64 (e1:Int))/\W.cell? ⟨g,u2,none⟩=some (.int .i64 (e2:Int)):=by
     intro W hW
     subst hW
     have hO:=(Onl.refl B v1).setCell e0 (.int .i64 (y1-1))
     exact ⟨by rw [<- HS2.out];exact b9.set e0 _,r9.onl hO lRB,a9.onl hO lgB,rr9.onl hO,hb9.setCell (p:=⟨B,e0,none⟩) lwB _,(hO.cell lRB).trans zr,(hO.cell lgB).trans zg0,(hO.cell lgB).trans zg1,(hO.cell lgB).trans zg2⟩
    generalize v1.setCell ⟨B,e0,none⟩ (.int .i64 (y1-1))=w11 at hW ⊢
    clear b9 r9 a9 rr9 hb9 zr zg0 zg1 zg2
    obtain ⟨b10,r10,a10,rr10,hb10,zr,zg0,zg1,zg2⟩:=hW w11 rfl
    clear wa wd hW zb zf
    have zb:=(b10.cell e2).trans (ic_get (by omega))
    have zf:=b10.frozen e2
    have hq:=HB2.out e2
    have wd:IntKind.i64.wrap (gi r2 e2-1)=gi r2 e2-1:=IntWalk.i64_in _ (by omega)
    have HB3:=Lib.hid (show ∀ j,-(4:Int)<=gi (addI r2 e2 (-1)) j/\gi (addI r2 e2 (-1)) j<=4 from addI_bd (b:=3) (e:=1) HB2.out (by omega) (by omega))
    have hl3:(addI r2 e2 (-1)).length=cols:=by rw [addI_length];exact hl2
    have HS3:=Lib.hid (show (ic r2).set e2 (.int .i64 (gi r2 e2-1))=ic (addI r2 e2 (-1)) by rw [ic_set];rfl)
    generalize gi r2 e2=y2 at *
    obtain ⟨r3,hr3⟩:∃ r,r=addI r2 e2 (-1):=⟨_,rfl⟩
    rw [<- hr3] at HB3 hl3 HS3 HRM
    clear hr3 hq
    have wa:=WA.out
    have wc:=WC.out
    go_still_tail 14,(by kernel_rfl)
    change wpList _ _ _ _ _ w11.drew
    replace zr:w11.drew.cell? ⟨R,x,none⟩=_:=zr
    replace zg0:w11.drew.cell? ⟨g,p,none⟩=_:=zg0
    replace zg1:w11.drew.cell? ⟨g,u1,none⟩=_:=zg1
    replace zg2:w11.drew.cell? ⟨g,u2,none⟩=_:=zg2
    replace zb:w11.drew.cell? ⟨B,e2,none⟩=_:=zb
    replace zf:w11.drew.frozen? ⟨B,e2,none⟩=_:=zf
    replace b10:Arr w11.drew B 3 (ic r2):=b10
    replace r10:Arr w11.drew R 22 ((vs ++ [.slice (some ⟨B,0,none⟩) cols cols]) ++ List.replicate (S.length-(x+1)) (Value.slice none 0 0)):=r10
    replace a10:Arr w11.drew g 3 (nc arc):=a10
    replace rr10:RowsA 3 w11.drew R B vs (matM arc cols x):=rr10.keep fun _ _ _ _=>rfl
    replace hb10:=hb10.drew
    generalize w11.drew=v2 at *
    go_wp2_with fail
    have hW:∀ W,W=v2.setCell ⟨B,e2,none⟩ (.int .i64 (y2-1))->Arr W B 3 (ic r3)/\Arr W R 22 ((vs ++ [.slice (some ⟨B,0,none⟩) cols cols]) ++ List.replicate (S.length-(x+1)) (Value.slice none 0 0))/\Arr W g 3 (nc arc)/\RowsA 3 W R B vs (matM arc cols x)/\Below w.heap.size w W/\W.cell? ⟨R,x,none⟩=some (Value.slice (some ⟨B,0,none⟩) cols cols)/\W.cell? ⟨g,p,none⟩=some (.int .i64 (e0:Int))/\W.cell? ⟨g,u1,none⟩=some (.int .i64 (e1:Int))/\W.cell? ⟨g,u2,none⟩=some (.int .i64 (e2:Int)):=by
     intro W hW
     subst hW
     have hO:=(Onl.refl B v2).setCell e2 (.int .i64 (y2-1))
     exact ⟨by rw [<- HS3.out];exact b10.set e2 _,r10.onl hO lRB,a10.onl hO lgB,rr10.onl hO,hb10.setCell (p:=⟨B,e2,none⟩) lwB _,(hO.cell lRB).trans zr,(hO.cell lgB).trans zg0,(hO.cell lgB).trans zg1,(hO.cell lgB).trans zg2⟩
    generalize v2.setCell ⟨B,e2,none⟩ (.int .i64 (y2-1))=w12 at hW ⊢
    clear b10 r10 a10 rr10 hb10 zr zg0 zg1 zg2
    obtain ⟨b11,r11,a11,rr11,hb11,zr,zg0,zg1,zg2⟩:=hW w12 rfl
    clear wa wc wd hW zb zf
    have HRM2:=Lib.hid (show rowM arc cols x=r3 from HRM.out)
    have lB3:=b11.lt
    have rr12:=(rr11.snoc (b:=B) lR b11).mono (hi':=w12.heap.size) lB3
    rw [hl3,<- HRM2.out,<- matM_succ] at rr12
    go_roundg (S.length-(x+1))
    case measure=>omega
    case rel=>exact ⟨x+1,vs ++ [.slice (some ⟨B,0,none⟩) cols cols],by omega,rfl,by go_num,by have:=HVL.out;simp [this],r11,a11,rr12,hb11⟩
  · have z1:¬ ((x:Int)<(S.length:Int)):=by omega
    have hxn:x=S.length:=by omega
    have HM:=Lib.hid (show Mat wr (.slice (some ⟨R,0,none⟩) S.length S.length) (matM arc cols S.length) by
     rw [hxn,Nat.sub_self] at r6
     simp only [List.replicate_zero,List.append_nil] at r6
     rw [hxn] at rr
     have:=rr.mat r6
     rw [matM_length] at this;exact this)
    clear hxn
    go_wp2_with fail
    go_ret2
    exact ⟨_,rfl,HM.out,hb7⟩
theorem drewN_add (w:World) (a b:Nat):(w.drewN a).drewN b=w.drewN (a+b):=by simp [World.drewN,Nat.add_assoc]
end Go.Proofs.Ytfnmeigpfmeomaa
