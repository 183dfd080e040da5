/- moves.pushed and its closures. -/
import Derived.Test.YtfnmeigpfmeomaaZfFnn
import Derived.Test.YtfnmeigpfmeomaaZfPkb
import Derived.Test.YtfnmeigpfmeomaaZfTwo
import Derived.Test.YtfnmeigpfmeomaaZfUnk
namespace Go.Proofs.Ytfnmeigpfmeomaa
open Go.RowKit
set_option linter.unusedVariables false
set_option maxHeartbeats 2000000 in
theorem loop_any2 (gd:Nat) (vs vm:Value) (S M:List Int) (L:Int) (h:Nat) (w:World) (hS:Ints w vs S) (hM:Ints w vm M) (hd:Arr w gd 24 [vs,vm,.int .i64 L]) (hh:h<4*S.length) (hn:S.length<=7) :
 Calls Try.prog 62 #[.int .i64 (h:Nat),.pointer (some ⟨gd,0,none⟩)] w fun e w'=>SomeI e/\Below w.heap.size w w':=by
 have HO:=Lib.hid (moutgoing_any vs vm S M L h w hS hM hh (by omega))
 obtain ⟨A,cs,rfl,hcs,hx⟩:=hS
 obtain ⟨A2,c2,rfl,hc2,hx2⟩:=hM
 clear hx hx2
 have y0:=hd.cell 0
 have y1:=hd.cell 1
 have y2:=hd.cell 2
 clear hd
 go_enter Try.func62,Try.ntmps62
 go_wp2_with (go_at_call 53;refine HO.out.mono ?_;rintro e w5 ⟨⟨o,rfl⟩,hb5⟩;have HB:=Lib.hid hb5;clear hb5;cases o)
 all_goals
  go_ret
  exact ⟨⟨_,rfl⟩,HB.out⟩
set_option maxHeartbeats 4000000 in
set_option maxRecDepth 100000 in
theorem old_any (gd gm:Nat) (vs vm:Value) (S M:List Int) (L kd X Y sg:Int) (ov:Bool) (h:Nat) (w:World) (hM:Ints w vm M) (k:Ok S M L) (hd:Arr w gd 24 [vs,vm,.int .i64 L]) (hm:Arr w gm 26 [.int .i64 kd,.int .i64 X,.int .i64 Y,.int .i64 sg,.bool ov]) (hh:h<M.length) (hn:S.length<=7) :
 Calls Try.prog 63 #[.int .i64 (h:Nat),.pointer (some ⟨gd,0,none⟩),.pointer (some ⟨gm,0,none⟩)] w fun e w'=>SomeI e/\Below w.heap.size w w':=by
 have hmt:=k.lt h hh
 have hm4:=k.m
 have hq1:mt M h<1000:=by omega
 have h0:=k.pos h hh
 have hM0:=hM
 obtain ⟨A2,c2,rfl,hc2,hx2⟩:=hM
 clear hx2
 obtain ⟨bm,om,hA2,hbm,ym⟩:=ints_mt hM0 hh h0
 subst hA2
 obtain ⟨q,hq⟩:∃ q,q=mt M h:=⟨_,rfl⟩
 rw [<- hq] at ym hq1
 have HD:=Lib.hid hd
 have HMB:=Lib.hid hm
 have zh:(h:Int)<(M.length:Int):=by omega
 clear hmt hm4 h0 hM0 hq hd hm
 go_enter Try.func63,Try.ntmps63
 go_upto_region 1 with fail
 refine wp_region_phi (by kernel_rfl) (by kernel_rfl) (by kernel_rfl) (by kernel_rfl) (by kernel_rfl) (phiT (fun i=>([some (.pointer (some ⟨gd,1,none⟩)),some (.slice (some ⟨bm,om,none⟩) M.length c2),some (.int .i64 (h:Int)),some (.pointer (some ⟨bm,om+h,none⟩)),some (.int .i64 (q:Int)),some (.pointer (some ⟨gm,1,none⟩)),some (.int .i64 X),some (.pointer (some ⟨gm,2,none⟩)),some (.int .i64 Y),none,some (.int .i64 (shI [X,Y] (q:Int))),some (.int .i64 (shI [X,Y] (q:Int)))]:List (Option Value)).getD i none) (fun i v w=>(if i=9 then (fun v w=>∃ b,v=.slice (some ⟨b,0,none⟩) 2 2/\Arr w b 3 [.int .i64 X,.int .i64 Y]) v w else True))) (fun i v w w' h hb=>?_) ⟨?_,?_,?_,?_,?_,?_,?_,?_,?_,?_,?_,?_,trivial⟩ ?_
 · unfold phiT at h ⊢
   split
   · next u hu=>rw [hu] at h;exact h
   · next hu =>
     rw [hu] at h
     simp only at h ⊢
     by_cases q9:i=9
     · rw [if_pos q9] at h ⊢;exact by obtain ⟨b,h1,h2⟩:=h;exact ⟨b,h1,h2.below hb h2.lt⟩
     · rw [if_neg q9] at h ⊢
       trivial
 · intro x w1 bA hbel hdep hold hb
   have e1:bA.tmps[1]?.getD undef=.pointer (some ⟨gd,0,none⟩):=hb 1
   refine phi_run (.pointer (some ⟨gd,1,none⟩)) ?_ rfl
   clear hb hdep hold
   go_simp
 · intro x w1 bA hbel hdep hold hb
   have e5:bA.tmps[5]?.getD undef=.pointer (some ⟨gd,1,none⟩):=(hb 5).trans (hdep 0 (by decide))
   have u0:=(HD.out.below hbel HD.out.lt).cell 1
   refine phi_run (.slice (some ⟨bm,om,none⟩) M.length c2) ?_ rfl
   clear hb hdep hold
   go_simp
 · intro x w1 bA hbel hdep hold hb
   have e0:bA.tmps[0]?.getD undef=.int .i64 (h:Int):=hb 0
   refine phi_run (.int .i64 (h:Int)) ?_ rfl
   clear hb hdep hold
   go_simp
 · intro x w1 bA hbel hdep hold hb
   have e6:bA.tmps[6]?.getD undef=.slice (some ⟨bm,om,none⟩) M.length c2:=(hb 6).trans (hdep 1 (by decide))
   have e7:bA.tmps[7]?.getD undef=.int .i64 (h:Int):=(hb 7).trans (hdep 2 (by decide))
   refine phi_run (.pointer (some ⟨bm,om+h,none⟩)) ?_ rfl
   clear hb hdep hold
   go_simp
 · intro x w1 bA hbel hdep hold hb
   have e8:bA.tmps[8]?.getD undef=.pointer (some ⟨bm,om+h,none⟩):=(hb 8).trans (hdep 3 (by decide))
   have u0:=(hbel.cell (p:=⟨bm,om+h,none⟩) hbm).trans ym
   refine phi_run (.int .i64 (q:Int)) ?_ rfl
   clear hb hdep hold
   go_simp
 · intro x w1 bA hbel hdep hold hb
   have e2:bA.tmps[2]?.getD undef=.pointer (some ⟨gm,0,none⟩):=hb 2
   refine phi_run (.pointer (some ⟨gm,1,none⟩)) ?_ rfl
   clear hb hdep hold
   go_simp
 · intro x w1 bA hbel hdep hold hb
   have e10:bA.tmps[10]?.getD undef=.pointer (some ⟨gm,1,none⟩):=(hb 10).trans (hdep 5 (by decide))
   have u0:=(HMB.out.below hbel HMB.out.lt).cell 1
   refine phi_run (.int .i64 X) ?_ rfl
   clear hb hdep hold
   go_simp
 · intro x w1 bA hbel hdep hold hb
   have e2:bA.tmps[2]?.getD undef=.pointer (some ⟨gm,0,none⟩):=hb 2
   refine phi_run (.pointer (some ⟨gm,2,none⟩)) ?_ rfl
   clear hb hdep hold
   go_simp
 · intro x w1 bA hbel hdep hold hb
   have e12:bA.tmps[12]?.getD undef=.pointer (some ⟨gm,2,none⟩):=(hb 12).trans (hdep 7 (by decide))
   have u0:=(HMB.out.below hbel HMB.out.lt).cell 2
   refine phi_run (.int .i64 Y) ?_ rfl
   clear hb hdep hold
   go_simp
 · intro x w1 bA hbel hdep hold hb
   have e11:bA.tmps[11]?.getD undef=.int .i64 X:=(hb 11).trans (hdep 6 (by decide))
   have e13:bA.tmps[13]?.getD undef=.int .i64 Y:=(hb 13).trans (hdep 8 (by decide))
   refine phi_make (.slice (some ⟨w1.heap.size,0,none⟩) 2 2) (w1.alloc (.cells #[.int .i64 X,.int .i64 Y] 3)) ?_ ((Below.refl _ _).alloc (Nat.le_refl _) _) (⟨w1.heap.size,rfl,Arr.new w1 3 [_,_]⟩)
   clear hb hdep hold
   go_simp
 · intro x w1 bA hbel hdep hold hb
   have e9:bA.tmps[9]?.getD undef=.int .i64 (q:Int):=(hb 9).trans (hdep 4 (by decide))
   have p14:=hdep 9 (by decide)
   have e14:bA.tmps[14]?.getD undef=x 9:=hb 14
   generalize x 9=x14 at p14 e14
   have P14:=Lib.hid (show (fun v w=>∃ b,v=.slice (some ⟨b,0,none⟩) 2 2/\Arr w b 3 [.int .i64 X,.int .i64 Y]) x14 w1 from p14)
   clear p14
   obtain ⟨bl,rfl,hbl⟩:=P14.out
   refine phi_call ?_ ((shifted_any _ [X,Y] q w1 (Ints.of_arr (xs:=[X,Y]) hbl) hq1 (by simp)).mono fun e w' h=>⟨_,h.1,h.2 ▸ Below.refl _ _,rfl⟩)
   clear hb hdep hold
   go_simp
 · intro x w1 bA hbel hdep hold hb
   have e15:bA.tmps[15]?.getD undef=.int .i64 (shI [X,Y] (q:Int)):=(hb 15).trans (hdep 10 (by decide))
   refine phi_run (.int .i64 (shI [X,Y] (q:Int))) ?_ rfl
   clear hb hdep hold
   go_simp
 intro x w1 hbel hall
 have x0e:x 0=.pointer (some ⟨gd,1,none⟩):=hall 0 (by decide)
 have x1e:x 1=.slice (some ⟨bm,om,none⟩) M.length c2:=hall 1 (by decide)
 have x2e:x 2=.int .i64 (h:Int):=hall 2 (by decide)
 have x3e:x 3=.pointer (some ⟨bm,om+h,none⟩):=hall 3 (by decide)
 have x4e:x 4=.int .i64 (q:Int):=hall 4 (by decide)
 have x5e:x 5=.pointer (some ⟨gm,1,none⟩):=hall 5 (by decide)
 have x6e:x 6=.int .i64 X:=hall 6 (by decide)
 have x7e:x 7=.pointer (some ⟨gm,2,none⟩):=hall 7 (by decide)
 have x8e:x 8=.int .i64 Y:=hall 8 (by decide)
 have p14:=hall 9 (by decide)
 have x10e:x 10=.int .i64 (shI [X,Y] (q:Int)):=hall 10 (by decide)
 have x11e:x 11=.int .i64 (shI [X,Y] (q:Int)):=hall 11 (by decide)
 simp only [putAll,dstOf,Act.put,List.map_cons,List.map_nil,List.setIfInBounds_toArray,List.set_cons_succ,List.set_cons_zero,Nat.reduceAdd,x0e,x1e,x2e,x3e,x4e,x5e,x6e,x7e,x8e,x10e,x11e]
 clear x0e x1e x2e x3e x4e x5e x6e x7e x8e x10e x11e hall
 go_wp2_with fail
 go_ret
 exact ⟨⟨_,rfl⟩,hbel⟩
def PuS (w:World) (dd ll mm:List Value) (a b c:Int) (o:Bool) (W:World):Prop:=Arr W w.heap.size 24 dd/\Arr W (w.heap.size+1) 70 ll/\Arr W (w.heap.size+2) 26 mm/\Arr W (w.heap.size+3) 26 [.int .i64 0,.int .i64 0,.int .i64 0,.int .i64 0,.bool false]/\Arr W (w.heap.size+4) 26 [.int .i64 3,.int .i64 a,.int .i64 b,.int .i64 c,.bool o]/\Below w.heap.size w W
section
variable {w W W2:World} {dd ll mm:List Value} {a b c:Int} {o:Bool}
theorem PuS.below (h:PuS w dd ll mm a b c o W) (hb:Below W.heap.size W W2):PuS w dd ll mm a b c o W2 :=
 ⟨h.1.below hb h.1.lt,h.2.1.below hb h.2.1.lt,h.2.2.1.below hb h.2.2.1.lt,h.2.2.2.1.below hb h.2.2.2.1.lt,h.2.2.2.2.1.below hb h.2.2.2.2.1.lt,h.2.2.2.2.2.trans (hb.mono h.2.2.2.2.2.size)⟩
theorem PuS.drewN (h:PuS w dd ll mm a b c o W) (n:Nat):PuS w dd ll mm a b c o (W.drewN n):=⟨h.1,h.2.1,h.2.2.1,h.2.2.2.1,h.2.2.2.2.1,bdrewN h.2.2.2.2.2 n⟩
theorem PuS.set1 (h:PuS w dd ll mm a b c o W) (v:Int):PuS w dd ll mm v b c o (W.setCell ⟨w.heap.size+4,1,none⟩ (.int .i64 v)) :=
 ⟨h.1.far (p:=⟨w.heap.size+4,1,none⟩) (by simp) _,h.2.1.far (p:=⟨w.heap.size+4,1,none⟩) (by simp) _,h.2.2.1.far (p:=⟨w.heap.size+4,1,none⟩) (by simp) _,h.2.2.2.1.far (p:=⟨w.heap.size+4,1,none⟩) (by simp) _,h.2.2.2.2.1.set 1 _,h.2.2.2.2.2.setCell (p:=⟨w.heap.size+4,1,none⟩) (by simp) _⟩
theorem PuS.set2 (h:PuS w dd ll mm a b c o W) (v:Int):PuS w dd ll mm a v c o (W.setCell ⟨w.heap.size+4,2,none⟩ (.int .i64 v)) :=
 ⟨h.1.far (p:=⟨w.heap.size+4,2,none⟩) (by simp) _,h.2.1.far (p:=⟨w.heap.size+4,2,none⟩) (by simp) _,h.2.2.1.far (p:=⟨w.heap.size+4,2,none⟩) (by simp) _,h.2.2.2.1.far (p:=⟨w.heap.size+4,2,none⟩) (by simp) _,h.2.2.2.2.1.set 2 _,h.2.2.2.2.2.setCell (p:=⟨w.heap.size+4,2,none⟩) (by simp) _⟩
theorem PuS.set3 (h:PuS w dd ll mm a b c o W) (v:Int):PuS w dd ll mm a b v o (W.setCell ⟨w.heap.size+4,3,none⟩ (.int .i64 v)) :=
 ⟨h.1.far (p:=⟨w.heap.size+4,3,none⟩) (by simp) _,h.2.1.far (p:=⟨w.heap.size+4,3,none⟩) (by simp) _,h.2.2.1.far (p:=⟨w.heap.size+4,3,none⟩) (by simp) _,h.2.2.2.1.far (p:=⟨w.heap.size+4,3,none⟩) (by simp) _,h.2.2.2.2.1.set 3 _,h.2.2.2.2.2.setCell (p:=⟨w.heap.size+4,3,none⟩) (by simp) _⟩
end
def SomeM (e:Ending):Prop:=∃ mv,e=.returned mv/\MvV mv
set_option maxHeartbeats 8000000 in
set_option maxRecDepth 100000 in
theorem pushed_any (vs vm:Value) (S M:List Int) (L kd X Y sg:Int) (ov:Bool) (h up ho uo mo g m go:Nat) (w:World) (hS:Ints w vs S) (hM:Ints w vm M) (k:Ok S M L) (hn:S.length<=7) (l1:ho<M.length) (l2:uo<M.length) (l3:mo<M.length) (l4:go<M.length) (l5:g<M.length) :
 Calls Try.prog 41 #[.agg #[vs,vm,.int .i64 L],.agg #[.int .i64 (h:Int),.int .i64 (up:Int),.int .i64 (ho:Int),.int .i64 (uo:Int),.int .i64 (mo:Int),.int .i64 (g:Int),.int .i64 (m:Int),.int .i64 (go:Int)],.agg #[.int .i64 kd,.int .i64 X,.int .i64 Y,.int .i64 sg,.bool ov]] w fun e w'=>SomeM e/\Below w.heap.size w w':=by
 have KL:=Lib.hid (fun (z:Nat) (hz:z<M.length) W (hb:Below w.heap.size w W) (hd:Arr W w.heap.size 24 [vs,vm,.int .i64 L])=>loop_any2 w.heap.size vs vm S M L z W (hS.below hb) (hM.below hb) hd (by have:=k.m;omega) hn)
 have KO:=Lib.hid (fun (z:Nat) (hz:z<M.length) W (hb:Below w.heap.size w W) (hd:Arr W w.heap.size 24 [vs,vm,.int .i64 L]) (hm:Arr W (w.heap.size+2) 26 [.int .i64 kd,.int .i64 X,.int .i64 Y,.int .i64 sg,.bool ov])=>old_any w.heap.size (w.heap.size+2) vs vm S M L kd X Y sg ov z W (hM.below hb) k hd hm hz hn)
 have GM:=Lib.hid (fun W (hb:Below w.heap.size w W)=>hM.below hb)
 have HOK:=Lib.hid k
 have L1:=Lib.hid l1
 have L2:=Lib.hid l2
 have L3:=Lib.hid l3
 have L4:=Lib.hid l4
 have L5:=Lib.hid l5
 clear k
 obtain ⟨A,cs,rfl,hcs,hx'⟩:=hS
 obtain ⟨A2,c2,rfl,hc2,hx2⟩:=hM
 clear hx' hx2
 have z1:(ho:Int)<(M.length:Int):=by omega
 have z2:(uo:Int)<(M.length:Int):=by omega
 have z3:(mo:Int)<(M.length:Int):=by omega
 have z4:(go:Int)<(M.length:Int):=by omega
 clear l1 l2 l3 l4 l5
 have hW:∀ W,W=((((w.alloc (.cells #[.slice A S.length cs,.slice A2 M.length c2,.int .i64 L] 24)).alloc (.cells #[.int .i64 (h:Int),.int .i64 (up:Int),.int .i64 (ho:Int),.int .i64 (uo:Int),.int .i64 (mo:Int),.int .i64 (g:Int),.int .i64 (m:Int),.int .i64 (go:Int)] 70)).alloc (.cells #[.int .i64 kd,.int .i64 X,.int .i64 Y,.int .i64 sg,.bool ov] 26)).alloc (.cells #[.int .i64 0,.int .i64 0,.int .i64 0,.int .i64 0,.bool false] 26)) ->
  PuS w [.slice A S.length cs,.slice A2 M.length c2,.int .i64 L] [.int .i64 (h:Int),.int .i64 (up:Int),.int .i64 (ho:Int),.int .i64 (uo:Int),.int .i64 (mo:Int),.int .i64 (g:Int),.int .i64 (m:Int),.int .i64 (go:Int)] [.int .i64 kd,.int .i64 X,.int .i64 Y,.int .i64 sg,.bool ov] 0 0 0 ((g:Int)%2==1) (W.alloc (.cells #[.int .i64 3,.int .i64 0,.int .i64 0,.int .i64 0,.bool ((g:Int)%2==1)] 26))/\Arr W (w.heap.size+1) 70 [.int .i64 (h:Int),.int .i64 (up:Int),.int .i64 (ho:Int),.int .i64 (uo:Int),.int .i64 (mo:Int),.int .i64 (g:Int),.int .i64 (m:Int),.int .i64 (go:Int)]/\W.heap.size=w.heap.size+4:=by
  intro W hW
  subst hW
  exact ⟨⟨((((Arr.new _ _ [_,_,_]).alloc _).alloc _).alloc _).alloc _,(((Arr.newAt (w.alloc _) _ [.int .i64 (h:Int),.int .i64 (up:Int),.int .i64 (ho:Int),.int .i64 (uo:Int),.int .i64 (mo:Int),.int .i64 (g:Int),.int .i64 (m:Int),.int .i64 (go:Int)] _ (by simp)).alloc _).alloc _).alloc _,((Arr.newAt ((w.alloc _).alloc _) _ [_,_,_,_,_] _ (by simp)).alloc _).alloc _,(Arr.newAt (((w.alloc _).alloc _).alloc _) _ [_,_,_,_,_] _ (by simp)).alloc _,Arr.newAt ((((w.alloc _).alloc _).alloc _).alloc _) _ [_,_,_,_,_] _ (by simp),(((((Below.refl _ _).alloc (Nat.le_refl _) _).alloc (by simp) _).alloc (by simp <;> omega) _).alloc (by simp <;> omega) _).alloc (by simp <;> omega) _⟩,((Arr.newAt (w.alloc _) _ [.int .i64 (h:Int),.int .i64 (up:Int),.int .i64 (ho:Int),.int .i64 (uo:Int),.int .i64 (mo:Int),.int .i64 (g:Int),.int .i64 (m:Int),.int .i64 (go:Int)] _ (by simp)).alloc _).alloc _,by simp⟩
 go_enter Try.func41,Try.ntmps41
 go_upto_region 1 with fail
 have HW:=hW _ rfl
 clear hW
 generalize ((((w.alloc (.cells #[.slice A S.length cs,.slice A2 M.length c2,.int .i64 L] 24)).alloc (.cells #[.int .i64 (h:Int),.int .i64 (up:Int),.int .i64 (ho:Int),.int .i64 (uo:Int),.int .i64 (mo:Int),.int .i64 (g:Int),.int .i64 (m:Int),.int .i64 (go:Int)] 70)).alloc (.cells #[.int .i64 kd,.int .i64 X,.int .i64 Y,.int .i64 sg,.bool ov] 26)).alloc (.cells #[.int .i64 0,.int .i64 0,.int .i64 0,.int .i64 0,.bool false] 26))=w4 at HW ⊢
 have c5:=HW.2.1.cell 5
 have hs4:=HW.2.2
 have HPU:=Lib.hid HW.1
 clear HW
 go_upto_region 4 with fail
 clear c5 hs4
 obtain ⟨o,ho'⟩:∃ o:Bool,o=((g:Int)%2==1):=⟨_,rfl⟩
 rw [<- ho'] at HPU ⊢
 clear ho'
 generalize w4.alloc (.cells #[.int .i64 3,.int .i64 0,.int .i64 0,.int .i64 0,.bool o] 26)=w5 at HPU ⊢
 have y1:=HPU.out.1.cell 1
 have e0:=HPU.out.2.1.cell 0
 have e2:=HPU.out.2.1.cell 2
 have e3:=HPU.out.2.1.cell 3
 have e4:=HPU.out.2.1.cell 4
 have e7:=HPU.out.2.1.cell 7
 obtain ⟨bm,om,hA2,hbm,yg⟩:=ints_mt (GM.out w5 HPU.out.2.2.2.2.2) L4.out (HOK.out.pos _ L4.out)
 subst hA2
 obtain ⟨p1,hp1⟩:∃ p,p=mt M go:=⟨_,rfl⟩
 rw [<- hp1] at yg
 clear hp1 hbm
 go_quiet (fail)
 have HPb:=Lib.hid (HPU.out.drewN nq)
 clear yg y1 e0 e2 e3 e4 e7 HPU
 generalize w5.drewN nq=w5b at HPb ⊢
 have y1:=HPb.out.1.cell 1
 have e2:=HPb.out.2.1.cell 2
 have e3:=HPb.out.2.1.cell 3
 obtain ⟨bm',om',hA2,_,yh⟩:=ints_mt (GM.out w5b HPb.out.2.2.2.2.2) L1.out (HOK.out.pos _ L1.out)
 injection hA2 with hA2
 injection hA2 with hA2 hA3
 subst hA2 hA3
 obtain ⟨p2,hp2⟩:∃ p,p=mt M ho:=⟨_,rfl⟩
 rw [<- hp2] at yh
 clear hp2
 go_upto_region 5 with fail
 go_quiet (fail)
 have HPc:=Lib.hid (HPb.out.drewN nq)
 clear yh y1 e2 e3 HPb
 generalize w5b.drewN nq=w6 at HPc ⊢
 have e0:=HPc.out.2.1.cell 0
 have e2:=HPc.out.2.1.cell 2
 have e3:=HPc.out.2.1.cell 3
 have e4:=HPc.out.2.1.cell 4
 have e7:=HPc.out.2.1.cell 7
 have KL3:=Lib.hid (KL.out uo L2.out w6 HPc.out.2.2.2.2.2 HPc.out.1)
 have KO3:=Lib.hid (KO.out uo L2.out w6 HPc.out.2.2.2.2.2 HPc.out.1 HPc.out.2.2.1)
 have KO4:=Lib.hid (KO.out mo L3.out w6 HPc.out.2.2.2.2.2 HPc.out.1 HPc.out.2.2.1)
 by_cases k1:p1=mo
 · have zk1:((p1:Int)==(mo:Int))=true:=by simp;omega
   by_cases k2:p2=uo
   · have zk2:((p2:Int)==(uo:Int))=true:=by simp;omega
     clear k1 k2
     go_upto_region 13 with (go_at_call 62;refine KL3.out.mono ?_;rintro e w7 ⟨⟨r,rfl⟩,hb7⟩;have HP7:=Lib.hid (HPc.out.below hb7);have c1:=HP7.out.2.2.2.2.1.cell 1;have c3:=HP7.out.2.2.2.2.1.cell 3;have f1:=HP7.out.2.2.2.2.1.frozen 1;have f3:=HP7.out.2.2.2.2.1.frozen 3;clear hb7)
     have HP8:=Lib.hid ((HP7.out.set1 r).set3 (1))
     clear c1 c3 f1 f3 e0 e2 e3 e4 e7 HP7
     generalize ((w7.setCell ⟨w.heap.size+4,1,none⟩ (.int .i64 r)).setCell ⟨w.heap.size+4,3,none⟩ (.int .i64 (1)))=w8 at HP8 ⊢
     have c1:=HP8.out.2.2.2.2.1.cell 1
     have c2x:=HP8.out.2.2.2.2.1.cell 2
     have f2:=HP8.out.2.2.2.2.1.frozen 2
     go_upto_region 20 with fail
     have HP9:=Lib.hid (HP8.out.set2 r)
     clear c1 c2x f2 HP8
     generalize (w8.setCell ⟨w.heap.size+4,2,none⟩ (.int .i64 r))=w9 at HP9 ⊢
     have c0x:=HP9.out.2.2.2.2.1.cell 0
     have c1x:=HP9.out.2.2.2.2.1.cell 1
     have c2x:=HP9.out.2.2.2.2.1.cell 2
     have c3x:=HP9.out.2.2.2.2.1.cell 3
     have c4x:=HP9.out.2.2.2.2.1.cell 4
     have x0:=HP9.out.2.2.2.1.cell 0
     have f0:=HP9.out.2.2.2.1.frozen 0
     have x1:=HP9.out.2.2.2.1.cell 1
     have f1:=HP9.out.2.2.2.1.frozen 1
     have x2:=HP9.out.2.2.2.1.cell 2
     have f2:=HP9.out.2.2.2.1.frozen 2
     have x3:=HP9.out.2.2.2.1.cell 3
     have f3:=HP9.out.2.2.2.1.frozen 3
     have x4:=HP9.out.2.2.2.1.cell 4
     have f4:=HP9.out.2.2.2.1.frozen 4
     have HRES:=Lib.hid ((((((((((HP9.out.2.2.2.1).set 0 (.int .i64 3))).set 1 (.int .i64 (r)))).set 2 (.int .i64 (r)))).set 3 (.int .i64 (1)))).set 4 (.bool o))
     have HBE:=Lib.hid ((((((((((HP9.out.2.2.2.2.2).setCell (p:=⟨w.heap.size+3,0,none⟩) (by simp) (.int .i64 3))).setCell (p:=⟨w.heap.size+3,1,none⟩) (by simp) (.int .i64 (r)))).setCell (p:=⟨w.heap.size+3,2,none⟩) (by simp) (.int .i64 (r)))).setCell (p:=⟨w.heap.size+3,3,none⟩) (by simp) (.int .i64 (1)))).setCell (p:=⟨w.heap.size+3,4,none⟩) (by simp) (.bool o))
     clear HP9
     go_wp2_with fail
     refine bodyPost_ret (v:=.agg (rowOf [.int .i64 3,.int .i64 (r),.int .i64 (r),.int .i64 (1),.bool o])) (results_c Try.results41 _ _ (w.heap.size+3) 26 _ _ rfl HRES.out Try.underlying26 rfl info_move) rfl ?_
     exact ⟨⟨_,rfl,_,_,_,_,_,rfl⟩,HBE.out⟩
   · have zk2:((p2:Int)==(uo:Int))=false:=by simp;omega
     clear k1 k2
     go_upto_region 16 with (go_at_call 63;refine KO3.out.mono ?_;rintro e w7 ⟨⟨r,rfl⟩,hb7⟩;have HP7:=Lib.hid (HPc.out.below hb7);have c1:=HP7.out.2.2.2.2.1.cell 1;have c3:=HP7.out.2.2.2.2.1.cell 3;have f1:=HP7.out.2.2.2.2.1.frozen 1;have f3:=HP7.out.2.2.2.2.1.frozen 3;clear hb7)
     have HP8:=Lib.hid ((HP7.out.set1 r).set3 (1))
     clear c1 c3 f1 f3 e0 e2 e3 e4 e7 HP7
     generalize ((w7.setCell ⟨w.heap.size+4,1,none⟩ (.int .i64 r)).setCell ⟨w.heap.size+4,3,none⟩ (.int .i64 (1)))=w8 at HP8 ⊢
     have c1:=HP8.out.2.2.2.2.1.cell 1
     have c2x:=HP8.out.2.2.2.2.1.cell 2
     have f2:=HP8.out.2.2.2.2.1.frozen 2
     go_upto_region 20 with fail
     have HP9:=Lib.hid (HP8.out.set2 r)
     clear c1 c2x f2 HP8
     generalize (w8.setCell ⟨w.heap.size+4,2,none⟩ (.int .i64 r))=w9 at HP9 ⊢
     have c0x:=HP9.out.2.2.2.2.1.cell 0
     have c1x:=HP9.out.2.2.2.2.1.cell 1
     have c2x:=HP9.out.2.2.2.2.1.cell 2
     have c3x:=HP9.out.2.2.2.2.1.cell 3
     have c4x:=HP9.out.2.2.2.2.1.cell 4
     have x0:=HP9.out.2.2.2.1.cell 0
     have f0:=HP9.out.2.2.2.1.frozen 0
     have x1:=HP9.out.2.2.2.1.cell 1
     have f1:=HP9.out.2.2.2.1.frozen 1
     have x2:=HP9.out.2.2.2.1.cell 2
     have f2:=HP9.out.2.2.2.1.frozen 2
     have x3:=HP9.out.2.2.2.1.cell 3
     have f3:=HP9.out.2.2.2.1.frozen 3
     have x4:=HP9.out.2.2.2.1.cell 4
     have f4:=HP9.out.2.2.2.1.frozen 4
     have HRES:=Lib.hid ((((((((((HP9.out.2.2.2.1).set 0 (.int .i64 3))).set 1 (.int .i64 (r)))).set 2 (.int .i64 (r)))).set 3 (.int .i64 (1)))).set 4 (.bool o))
     have HBE:=Lib.hid ((((((((((HP9.out.2.2.2.2.2).setCell (p:=⟨w.heap.size+3,0,none⟩) (by simp) (.int .i64 3))).setCell (p:=⟨w.heap.size+3,1,none⟩) (by simp) (.int .i64 (r)))).setCell (p:=⟨w.heap.size+3,2,none⟩) (by simp) (.int .i64 (r)))).setCell (p:=⟨w.heap.size+3,3,none⟩) (by simp) (.int .i64 (1)))).setCell (p:=⟨w.heap.size+3,4,none⟩) (by simp) (.bool o))
     clear HP9
     go_wp2_with fail
     refine bodyPost_ret (v:=.agg (rowOf [.int .i64 3,.int .i64 (r),.int .i64 (r),.int .i64 (1),.bool o])) (results_c Try.results41 _ _ (w.heap.size+3) 26 _ _ rfl HRES.out Try.underlying26 rfl info_move) rfl ?_
     exact ⟨⟨_,rfl,_,_,_,_,_,rfl⟩,HBE.out⟩
 · have zk1:((p1:Int)==(mo:Int))=false:=by simp;omega
   by_cases k2:p2=uo
   · have zk2:((p2:Int)==(uo:Int))=true:=by simp;omega
     clear k1 k2
     go_upto_region 19 with (go_at_call 63;refine KO4.out.mono ?_;rintro e w7 ⟨⟨r,rfl⟩,hb7⟩;have HP7:=Lib.hid (HPc.out.below hb7);have c1:=HP7.out.2.2.2.2.1.cell 1;have c3:=HP7.out.2.2.2.2.1.cell 3;have f1:=HP7.out.2.2.2.2.1.frozen 1;have f3:=HP7.out.2.2.2.2.1.frozen 3;clear hb7)
     have HP8:=Lib.hid ((HP7.out.set1 r).set3 (-1))
     clear c1 c3 f1 f3 e0 e2 e3 e4 e7 HP7
     generalize ((w7.setCell ⟨w.heap.size+4,1,none⟩ (.int .i64 r)).setCell ⟨w.heap.size+4,3,none⟩ (.int .i64 (-1)))=w8 at HP8 ⊢
     have c1:=HP8.out.2.2.2.2.1.cell 1
     have c2x:=HP8.out.2.2.2.2.1.cell 2
     have f2:=HP8.out.2.2.2.2.1.frozen 2
     go_upto_region 20 with fail
     have HP9:=Lib.hid (HP8.out.set2 r)
     clear c1 c2x f2 HP8
     generalize (w8.setCell ⟨w.heap.size+4,2,none⟩ (.int .i64 r))=w9 at HP9 ⊢
     have c0x:=HP9.out.2.2.2.2.1.cell 0
     have c1x:=HP9.out.2.2.2.2.1.cell 1
     have c2x:=HP9.out.2.2.2.2.1.cell 2
     have c3x:=HP9.out.2.2.2.2.1.cell 3
     have c4x:=HP9.out.2.2.2.2.1.cell 4
     have x0:=HP9.out.2.2.2.1.cell 0
     have f0:=HP9.out.2.2.2.1.frozen 0
     have x1:=HP9.out.2.2.2.1.cell 1
     have f1:=HP9.out.2.2.2.1.frozen 1
     have x2:=HP9.out.2.2.2.1.cell 2
     have f2:=HP9.out.2.2.2.1.frozen 2
     have x3:=HP9.out.2.2.2.1.cell 3
     have f3:=HP9.out.2.2.2.1.frozen 3
     have x4:=HP9.out.2.2.2.1.cell 4
     have f4:=HP9.out.2.2.2.1.frozen 4
     have HRES:=Lib.hid ((((((((((HP9.out.2.2.2.1).set 0 (.int .i64 3))).set 1 (.int .i64 (r)))).set 2 (.int .i64 (r)))).set 3 (.int .i64 (-1)))).set 4 (.bool o))
     have HBE:=Lib.hid ((((((((((HP9.out.2.2.2.2.2).setCell (p:=⟨w.heap.size+3,0,none⟩) (by simp) (.int .i64 3))).setCell (p:=⟨w.heap.size+3,1,none⟩) (by simp) (.int .i64 (r)))).setCell (p:=⟨w.heap.size+3,2,none⟩) (by simp) (.int .i64 (r)))).setCell (p:=⟨w.heap.size+3,3,none⟩) (by simp) (.int .i64 (-1)))).setCell (p:=⟨w.heap.size+3,4,none⟩) (by simp) (.bool o))
     clear HP9
     go_wp2_with fail
     refine bodyPost_ret (v:=.agg (rowOf [.int .i64 3,.int .i64 (r),.int .i64 (r),.int .i64 (-1),.bool o])) (results_c Try.results41 _ _ (w.heap.size+3) 26 _ _ rfl HRES.out Try.underlying26 rfl info_move) rfl ?_
     exact ⟨⟨_,rfl,_,_,_,_,_,rfl⟩,HBE.out⟩
   · have zk2:((p2:Int)==(uo:Int))=false:=by simp;omega
     clear k1 k2
     go_upto_region 6 with fail
     clear e0 e2 e3 e4 e7 KL3 KO3 KO4
     refine wp_region_pae 11 13 (fun i=>decide (i=12)) (by kernel_rfl) (by kernel_rfl) (by kernel_rfl) (by kernel_rfl) (by kernel_rfl) rfl rfl (by decide) (by simp) (by kernel_rfl) (by kernel_rfl) (fun i=>([some (.func (.func 63) #[] #[.pointer (some ⟨w.heap.size,0,none⟩),.pointer (some ⟨w.heap.size+2,0,none⟩)]),some (.pointer (some ⟨w.heap.size+1,0,none⟩)),some (.pointer (some ⟨w.heap.size+1,3,none⟩)),some (.int .i64 (uo:Int)),none,some (.func (.func 63) #[] #[.pointer (some ⟨w.heap.size,0,none⟩),.pointer (some ⟨w.heap.size+2,0,none⟩)]),some (.pointer (some ⟨w.heap.size+1,4,none⟩)),some (.pointer (some ⟨w.heap.size+1,4,none⟩)),some (.int .i64 (mo:Int)),none,some (.pointer (some ⟨w.heap.size+4,1,none⟩)),none,some (.pointer (some ⟨w.heap.size+4,2,none⟩)),none]:List (Option Value)).getD i none) (phiT (fun i=>([some (.func (.func 63) #[] #[.pointer (some ⟨w.heap.size,0,none⟩),.pointer (some ⟨w.heap.size+2,0,none⟩)]),some (.pointer (some ⟨w.heap.size+1,0,none⟩)),some (.pointer (some ⟨w.heap.size+1,3,none⟩)),some (.int .i64 (uo:Int)),none,some (.func (.func 63) #[] #[.pointer (some ⟨w.heap.size,0,none⟩),.pointer (some ⟨w.heap.size+2,0,none⟩)]),some (.pointer (some ⟨w.heap.size+1,4,none⟩)),some (.pointer (some ⟨w.heap.size+1,4,none⟩)),some (.int .i64 (mo:Int)),none,some (.pointer (some ⟨w.heap.size+4,1,none⟩)),none,some (.pointer (some ⟨w.heap.size+4,2,none⟩)),none]:List (Option Value)).getD i none) (fun i v w=>(if i=4 then (fun v w=>∃ r:Int,v=.int .i64 r) v w else (if i=9 then (fun v w=>∃ r:Int,v=.int .i64 r) v w else True)))) (fun i v w w' h hb=>?_) (fun i u v w h he=>?_) (fun x W=>∃ r s:Int,x 9=.int .i64 s/\PuS w [.slice A S.length cs,.slice (some ⟨bm,om,none⟩) M.length c2,.int .i64 L] [.int .i64 (h:Int),.int .i64 (up:Int),.int .i64 (ho:Int),.int .i64 (uo:Int),.int .i64 (mo:Int),.int .i64 (g:Int),.int .i64 (m:Int),.int .i64 (go:Int)] [.int .i64 kd,.int .i64 X,.int .i64 Y,.int .i64 sg,.bool ov] r 0 0 o W) (fun _ W=>∃ r s:Int,PuS w [.slice A S.length cs,.slice (some ⟨bm,om,none⟩) M.length c2,.int .i64 L] [.int .i64 (h:Int),.int .i64 (up:Int),.int .i64 (ho:Int),.int .i64 (uo:Int),.int .i64 (mo:Int),.int .i64 (g:Int),.int .i64 (m:Int),.int .i64 (go:Int)] [.int .i64 kd,.int .i64 X,.int .i64 Y,.int .i64 sg,.bool ov] r s 0 o W) (fun x w i v hl h=>?_) (fun x w i v hl h=>?_) (fun _=>True) (fun _ _=>trivial) (fun _ _ _=>trivial) (fun _ _ _=>trivial) ⟨?_,?_,?_,?_,?_,?_,?_,?_,?_,?_,?_,?_,?_,?_,trivial⟩ ?_
     · unfold phiT at h ⊢
       split
       · next u hu=>rw [hu] at h;exact h
       · next hu =>
         rw [hu] at h
         simp only at h ⊢
         by_cases q4:i=4
         · rw [if_pos q4] at h ⊢;exact h
         · rw [if_neg q4] at h ⊢
           by_cases q9:i=9
           · rw [if_pos q9] at h ⊢;exact h
           · rw [if_neg q9] at h ⊢
             trivial
     · exact phiT_val h he
     · simp only [Bool.or_eq_true,decide_eq_true_eq,Bool.false_eq_true] at hl
       rcases hl with rfl
       · exact by simpa [upd] using h
     · simp only [Bool.or_eq_true,decide_eq_true_eq,Bool.false_eq_true] at hl
       rcases hl with rfl
       · exact h
     · intro x w1 bA hold hb
       refine ⟨fun _ _ _ hbel hdep=>?_,fun h=>absurd h (by decide),fun h=>absurd h (by decide),fun h=>absurd h (by decide)⟩
       have e9:bA.tmps[9]?.getD undef=.func (.func 63) #[] #[.pointer (some ⟨w.heap.size,0,none⟩),.pointer (some ⟨w.heap.size+2,0,none⟩)]:=hb 9
       refine phi_run (.func (.func 63) #[] #[.pointer (some ⟨w.heap.size,0,none⟩),.pointer (some ⟨w.heap.size+2,0,none⟩)]) ?_ rfl
       clear hb hdep hold
       go_simp
     · intro x w1 bA hold hb
       refine ⟨fun _ _ _ hbel hdep=>?_,fun h=>absurd h (by decide),fun h=>absurd h (by decide),fun h=>absurd h (by decide)⟩
       have e4:bA.tmps[4]?.getD undef=.pointer (some ⟨w.heap.size+1,0,none⟩):=hb 4
       refine phi_run (.pointer (some ⟨w.heap.size+1,0,none⟩)) ?_ rfl
       clear hb hdep hold
       go_simp
     · intro x w1 bA hold hb
       refine ⟨fun _ _ _ hbel hdep=>?_,fun h=>absurd h (by decide),fun h=>absurd h (by decide),fun h=>absurd h (by decide)⟩
       have e43:bA.tmps[43]?.getD undef=.pointer (some ⟨w.heap.size+1,0,none⟩):=(hb 43).trans (hdep 1 (by decide))
       refine phi_run (.pointer (some ⟨w.heap.size+1,3,none⟩)) ?_ rfl
       clear hb hdep hold
       go_simp
     · intro x w1 bA hold hb
       refine ⟨fun _ _ _ hbel hdep=>?_,fun h=>absurd h (by decide),fun h=>absurd h (by decide),fun h=>absurd h (by decide)⟩
       have e44:bA.tmps[44]?.getD undef=.pointer (some ⟨w.heap.size+1,3,none⟩):=(hb 44).trans (hdep 2 (by decide))
       have u0:=(HPc.out.below hbel).2.1.cell 3
       refine phi_run (.int .i64 (uo:Int)) ?_ rfl
       clear hb hdep hold
       go_simp
     · intro x w1 bA hold hb
       refine ⟨fun _ _ _ hbel hdep=>?_,fun h=>absurd h (by decide),fun h=>absurd h (by decide),fun h=>absurd h (by decide)⟩
       have e42:bA.tmps[42]?.getD undef=.func (.func 63) #[] #[.pointer (some ⟨w.heap.size,0,none⟩),.pointer (some ⟨w.heap.size+2,0,none⟩)]:=(hb 42).trans (hdep 0 (by decide))
       have e45:bA.tmps[45]?.getD undef=.int .i64 (uo:Int):=(hb 45).trans (hdep 3 (by decide))
       refine phi_call ?_ ((KO.out uo L2.out w1 (HPc.out.below hbel).2.2.2.2.2 (HPc.out.below hbel).1 (HPc.out.below hbel).2.2.1).mono fun e w' h=>(by obtain ⟨⟨r,he⟩,hb⟩:=h;exact ⟨_,he,hb,r,rfl⟩))
       clear hb hdep hold
       go_simp
     · intro x w1 bA hold hb
       refine ⟨fun _ _ _ hbel hdep=>?_,fun h=>absurd h (by decide),fun h=>absurd h (by decide),fun h=>absurd h (by decide)⟩
       have e9:bA.tmps[9]?.getD undef=.func (.func 63) #[] #[.pointer (some ⟨w.heap.size,0,none⟩),.pointer (some ⟨w.heap.size+2,0,none⟩)]:=hb 9
       refine phi_run (.func (.func 63) #[] #[.pointer (some ⟨w.heap.size,0,none⟩),.pointer (some ⟨w.heap.size+2,0,none⟩)]) ?_ rfl
       clear hb hdep hold
       go_simp
     · intro x w1 bA hold hb
       refine ⟨fun _ _ _ hbel hdep=>?_,fun h=>absurd h (by decide),fun h=>absurd h (by decide),fun h=>absurd h (by decide)⟩
       have e4:bA.tmps[4]?.getD undef=.pointer (some ⟨w.heap.size+1,0,none⟩):=hb 4
       refine phi_run (.pointer (some ⟨w.heap.size+1,4,none⟩)) ?_ rfl
       clear hb hdep hold
       go_simp
     · intro x w1 bA hold hb
       refine ⟨fun _ _ _ hbel hdep=>?_,fun h=>absurd h (by decide),fun h=>absurd h (by decide),fun h=>absurd h (by decide)⟩
       have e48:bA.tmps[48]?.getD undef=.pointer (some ⟨w.heap.size+1,4,none⟩):=(hb 48).trans (hdep 6 (by decide))
       refine phi_run (.pointer (some ⟨w.heap.size+1,4,none⟩)) ?_ rfl
       clear hb hdep hold
       go_simp
     · intro x w1 bA hold hb
       refine ⟨fun _ _ _ hbel hdep=>?_,fun h=>absurd h (by decide),fun h=>absurd h (by decide),fun h=>absurd h (by decide)⟩
       have e49:bA.tmps[49]?.getD undef=.pointer (some ⟨w.heap.size+1,4,none⟩):=(hb 49).trans (hdep 7 (by decide))
       have u0:=(HPc.out.below hbel).2.1.cell 4
       refine phi_run (.int .i64 (mo:Int)) ?_ rfl
       clear hb hdep hold
       go_simp
     · intro x w1 bA hold hb
       refine ⟨fun _ _ _ hbel hdep=>?_,fun h=>absurd h (by decide),fun h=>absurd h (by decide),fun h=>absurd h (by decide)⟩
       have e47:bA.tmps[47]?.getD undef=.func (.func 63) #[] #[.pointer (some ⟨w.heap.size,0,none⟩),.pointer (some ⟨w.heap.size+2,0,none⟩)]:=(hb 47).trans (hdep 5 (by decide))
       have e50:bA.tmps[50]?.getD undef=.int .i64 (mo:Int):=(hb 50).trans (hdep 8 (by decide))
       refine phi_call ?_ ((KO.out mo L3.out w1 (HPc.out.below hbel).2.2.2.2.2 (HPc.out.below hbel).1 (HPc.out.below hbel).2.2.1).mono fun e w' h=>(by obtain ⟨⟨r,he⟩,hb⟩:=h;exact ⟨_,he,hb,r,rfl⟩))
       clear hb hdep hold
       go_simp
     · intro x w1 bA hold hb
       refine ⟨fun _ _ _ hbel hdep=>?_,fun h=>absurd h (by decide),fun h=>absurd h (by decide),fun h=>absurd h (by decide)⟩
       have e7:bA.tmps[7]?.getD undef=.pointer (some ⟨w.heap.size+4,0,none⟩):=hb 7
       refine phi_run (.pointer (some ⟨w.heap.size+4,1,none⟩)) ?_ rfl
       clear hb hdep hold
       go_simp
     · intro x w1 bA hold hb
       refine ⟨fun _ _ h=>absurd rfl h,fun _ hbel hdep=>?_,fun h=>absurd h (by decide),fun h=>absurd h (by decide)⟩
       have p46:=hdep 4 (by decide)
       have e46:bA.tmps[46]?.getD undef=x 4:=hb 46
       obtain ⟨x46,hx46⟩:∃ v,v=x 4:=⟨_,rfl⟩
       rw [<- hx46] at p46 e46
       clear hx46
       have P46:=Lib.hid (show (fun v w=>∃ r:Int,v=.int .i64 r) x46 w1 from p46)
       clear p46
       have e52:bA.tmps[52]?.getD undef=.pointer (some ⟨w.heap.size+4,1,none⟩):=(hb 52).trans (hdep 10 (by decide))
       obtain ⟨s,hs51⟩:∃ s:Int,x 9=.int .i64 s:=hdep 9 (by decide)
       clear hb hdep hold
       obtain ⟨r,e46b⟩:=P46.out
       rw [e46b] at e46
       have HS51:=Lib.hid hs51
       have hpz:=HPc.out.below hbel
       have c1:=hpz.2.2.2.2.1.cell 1
       have f1:=hpz.2.2.2.2.1.frozen 1
       have HPZ:=Lib.hid hpz
       clear e46b P46 hs51 hpz
       refine phl_st (n:=11) (x:=x) (R:=fun x W=>∃ r s:Int,x 9=.int .i64 s/\PuS w [.slice A S.length cs,.slice (some ⟨bm,om,none⟩) M.length c2,.int .i64 L] [.int .i64 (h:Int),.int .i64 (up:Int),.int .i64 (ho:Int),.int .i64 (uo:Int),.int .i64 (mo:Int),.int .i64 (g:Int),.int .i64 (m:Int),.int .i64 (go:Int)] [.int .i64 kd,.int .i64 X,.int .i64 Y,.int .i64 sg,.bool ov] r 0 0 o W) (w1.setCell ⟨w.heap.size+4,1,none⟩ (.int .i64 r)) ?_ rfl (fun v=>⟨r,s,(by rw [upd_ne _ _ (by decide)];exact HS51.out),HPZ.out.set1 r⟩) rfl
       go_simp
     · intro x w1 bA hold hb
       refine ⟨fun h=>absurd h (by decide),fun h=>absurd h (by decide),fun h=>absurd h (by decide),fun _ hC hdep=>⟨.pointer (some ⟨w.heap.size+4,2,none⟩),rfl,?_,rfl⟩⟩
       have e7:bA.tmps[7]?.getD undef=.pointer (some ⟨w.heap.size+4,0,none⟩):=hb 7
       clear hb hdep hold hC
       go_simp
     · intro x w1 bA hold hb
       refine ⟨fun _ h=>absurd rfl h,fun h=>absurd h (by decide),fun _ h1 hdep=>?_,fun h=>absurd h (by decide)⟩
       have e51:bA.tmps[51]?.getD undef=x 9:=hb 51
       have e53:bA.tmps[53]?.getD undef=.pointer (some ⟨w.heap.size+4,2,none⟩):=(hb 53).trans (hdep 12 (by decide) _ rfl)
       clear hb hdep hold
       obtain ⟨r,s,hx9,hpz⟩:=h1
       rw [hx9] at e51
       have c2x:=hpz.2.2.2.2.1.cell 2
       have f2:=hpz.2.2.2.2.1.frozen 2
       have HPZ:=Lib.hid hpz
       clear hx9 hpz
       refine phl_st (n:=13) (x:=x) (R:=fun _ W=>∃ r s:Int,PuS w [.slice A S.length cs,.slice (some ⟨bm,om,none⟩) M.length c2,.int .i64 L] [.int .i64 (h:Int),.int .i64 (up:Int),.int .i64 (ho:Int),.int .i64 (uo:Int),.int .i64 (mo:Int),.int .i64 (g:Int),.int .i64 (m:Int),.int .i64 (go:Int)] [.int .i64 kd,.int .i64 X,.int .i64 Y,.int .i64 sg,.bool ov] r s 0 o W) (w1.setCell ⟨w.heap.size+4,2,none⟩ (.int .i64 s)) ?_ rfl (fun v=>⟨r,s,HPZ.out.set2 s⟩) rfl
       go_simp
     intro x w1 hR hall
     have x0e:x 0=.func (.func 63) #[] #[.pointer (some ⟨w.heap.size,0,none⟩),.pointer (some ⟨w.heap.size+2,0,none⟩)]:=hall 0 _ (by simp) rfl
     have x1e:x 1=.pointer (some ⟨w.heap.size+1,0,none⟩):=hall 1 _ (by simp) rfl
     have x2e:x 2=.pointer (some ⟨w.heap.size+1,3,none⟩):=hall 2 _ (by simp) rfl
     have x3e:x 3=.int .i64 (uo:Int):=hall 3 _ (by simp) rfl
     have x5e:x 5=.func (.func 63) #[] #[.pointer (some ⟨w.heap.size,0,none⟩),.pointer (some ⟨w.heap.size+2,0,none⟩)]:=hall 5 _ (by simp) rfl
     have x6e:x 6=.pointer (some ⟨w.heap.size+1,4,none⟩):=hall 6 _ (by simp) rfl
     have x7e:x 7=.pointer (some ⟨w.heap.size+1,4,none⟩):=hall 7 _ (by simp) rfl
     have x8e:x 8=.int .i64 (mo:Int):=hall 8 _ (by simp) rfl
     have x10e:x 10=.pointer (some ⟨w.heap.size+4,1,none⟩):=hall 10 _ (by simp) rfl
     have x12e:x 12=.pointer (some ⟨w.heap.size+4,2,none⟩):=hall 12 _ (by simp) rfl
     simp only [putAll,dstOf,Act.put,List.map_cons,List.map_nil,List.setIfInBounds_toArray,List.set_cons_succ,List.set_cons_zero,Nat.reduceAdd,x0e,x1e,x2e,x3e,x5e,x6e,x7e,x8e,x10e,x12e]
     clear hall x0e x1e x2e x3e x5e x6e x7e x8e x10e x12e
     obtain ⟨r,s,hp⟩:=hR
     have HP6:=Lib.hid hp
     clear hp HPc
     have y1:=HP6.out.1.cell 1
     have e3:=HP6.out.2.1.cell 3
     have e7:=HP6.out.2.1.cell 7
     obtain ⟨bm',om',hA2,_,yh⟩:=ints_mt (GM.out w1 HP6.out.2.2.2.2.2) L2.out (HOK.out.pos _ L2.out)
     injection hA2 with hA2
     injection hA2 with hA2 hA3
     subst hA2 hA3
     obtain ⟨p3,hp3⟩:∃ p,p=mt M uo:=⟨_,rfl⟩
     rw [<- hp3] at yh
     clear hp3
     go_upto_region 7 with fail
     by_cases k3:p3=go
     · have zk3:((p3:Int)==(go:Int))=true:=by simp;omega
       clear k3
       go_quiet (fail)
       have HPd:=Lib.hid (HP6.out.drewN nq)
       clear yh y1 e3 e7 HP6
       generalize w1.drewN nq=wd at HPd ⊢
       have e3:=HPd.out.2.1.cell 3
       have KL3:=Lib.hid (KL.out uo L2.out wd HPd.out.2.2.2.2.2 HPd.out.1)
       go_upto_region 9 with (go_at_call 62;refine KL3.out.mono ?_;rintro e w7 ⟨⟨r3,rfl⟩,hb7⟩;have HP7:=Lib.hid (HPd.out.below hb7);have c1:=HP7.out.2.2.2.2.1.cell 1;have f1:=HP7.out.2.2.2.2.1.frozen 1;clear hb7)
       have HP8:=Lib.hid (HP7.out.set1 r3)
       clear c1 f1 e3 HP7
       generalize (w7.setCell ⟨w.heap.size+4,1,none⟩ (.int .i64 r3))=w8 at HP8 ⊢
       have y1:=HP8.out.1.cell 1
       have e2:=HP8.out.2.1.cell 2
       have e4:=HP8.out.2.1.cell 4
       obtain ⟨bm',om',hA2,_,yh⟩:=ints_mt (GM.out w8 HP8.out.2.2.2.2.2) L3.out (HOK.out.pos _ L3.out)
       injection hA2 with hA2
       injection hA2 with hA2 hA3
       subst hA2 hA3
       obtain ⟨p4,hp4⟩:∃ p,p=mt M mo:=⟨_,rfl⟩
       rw [<- hp4] at yh
       clear hp4
       by_cases k4:p4=ho
       · have zk4:((p4:Int)==(ho:Int))=true:=by simp;omega
         clear k4
         go_quiet (fail)
         have HPe:=Lib.hid (HP8.out.drewN nq)
         clear yh y1 e2 e4 HP8
         generalize w8.drewN nq=we at HPe ⊢
         have e4:=HPe.out.2.1.cell 4
         have KL4:=Lib.hid (KL.out mo L3.out we HPe.out.2.2.2.2.2 HPe.out.1)
         go_upto_region 20 with (go_at_call 62;refine KL4.out.mono ?_;rintro e wf ⟨⟨r4,rfl⟩,hbf⟩;have HPf:=Lib.hid (HPe.out.below hbf);have c2x:=HPf.out.2.2.2.2.1.cell 2;have f2:=HPf.out.2.2.2.2.1.frozen 2;clear hbf)
         have HP9:=Lib.hid (HPf.out.set2 r4)
         clear c2x f2 e4 HPf
         generalize (wf.setCell ⟨w.heap.size+4,2,none⟩ (.int .i64 r4))=w9 at HP9 ⊢
         have c0x:=HP9.out.2.2.2.2.1.cell 0
         have c1x:=HP9.out.2.2.2.2.1.cell 1
         have c2x:=HP9.out.2.2.2.2.1.cell 2
         have c3x:=HP9.out.2.2.2.2.1.cell 3
         have c4x:=HP9.out.2.2.2.2.1.cell 4
         have x0:=HP9.out.2.2.2.1.cell 0
         have f0:=HP9.out.2.2.2.1.frozen 0
         have x1:=HP9.out.2.2.2.1.cell 1
         have f1:=HP9.out.2.2.2.1.frozen 1
         have x2:=HP9.out.2.2.2.1.cell 2
         have f2:=HP9.out.2.2.2.1.frozen 2
         have x3:=HP9.out.2.2.2.1.cell 3
         have f3:=HP9.out.2.2.2.1.frozen 3
         have x4:=HP9.out.2.2.2.1.cell 4
         have f4:=HP9.out.2.2.2.1.frozen 4
         have HRES:=Lib.hid ((((((((((HP9.out.2.2.2.1).set 0 (.int .i64 3))).set 1 (.int .i64 (r3)))).set 2 (.int .i64 (r4)))).set 3 (.int .i64 (0)))).set 4 (.bool o))
         have HBE:=Lib.hid ((((((((((HP9.out.2.2.2.2.2).setCell (p:=⟨w.heap.size+3,0,none⟩) (by simp) (.int .i64 3))).setCell (p:=⟨w.heap.size+3,1,none⟩) (by simp) (.int .i64 (r3)))).setCell (p:=⟨w.heap.size+3,2,none⟩) (by simp) (.int .i64 (r4)))).setCell (p:=⟨w.heap.size+3,3,none⟩) (by simp) (.int .i64 (0)))).setCell (p:=⟨w.heap.size+3,4,none⟩) (by simp) (.bool o))
         clear HP9
         go_wp2_with fail
         refine bodyPost_ret (v:=.agg (rowOf [.int .i64 3,.int .i64 (r3),.int .i64 (r4),.int .i64 (0),.bool o])) (results_c Try.results41 _ _ (w.heap.size+3) 26 _ _ rfl HRES.out Try.underlying26 rfl info_move) rfl ?_
         exact ⟨⟨_,rfl,_,_,_,_,_,rfl⟩,HBE.out⟩
       · have zk4:((p4:Int)==(ho:Int))=false:=by simp;omega
         clear k4
         go_quiet (fail)
         have HP9:=Lib.hid (HP8.out.drewN nq)
         clear yh y1 e2 e4 HP8
         generalize w8.drewN nq=w9 at HP9 ⊢
         go_upto_region 20 with fail
         have c0x:=HP9.out.2.2.2.2.1.cell 0
         have c1x:=HP9.out.2.2.2.2.1.cell 1
         have c2x:=HP9.out.2.2.2.2.1.cell 2
         have c3x:=HP9.out.2.2.2.2.1.cell 3
         have c4x:=HP9.out.2.2.2.2.1.cell 4
         have x0:=HP9.out.2.2.2.1.cell 0
         have f0:=HP9.out.2.2.2.1.frozen 0
         have x1:=HP9.out.2.2.2.1.cell 1
         have f1:=HP9.out.2.2.2.1.frozen 1
         have x2:=HP9.out.2.2.2.1.cell 2
         have f2:=HP9.out.2.2.2.1.frozen 2
         have x3:=HP9.out.2.2.2.1.cell 3
         have f3:=HP9.out.2.2.2.1.frozen 3
         have x4:=HP9.out.2.2.2.1.cell 4
         have f4:=HP9.out.2.2.2.1.frozen 4
         have HRES:=Lib.hid ((((((((((HP9.out.2.2.2.1).set 0 (.int .i64 3))).set 1 (.int .i64 (r3)))).set 2 (.int .i64 (s)))).set 3 (.int .i64 (0)))).set 4 (.bool o))
         have HBE:=Lib.hid ((((((((((HP9.out.2.2.2.2.2).setCell (p:=⟨w.heap.size+3,0,none⟩) (by simp) (.int .i64 3))).setCell (p:=⟨w.heap.size+3,1,none⟩) (by simp) (.int .i64 (r3)))).setCell (p:=⟨w.heap.size+3,2,none⟩) (by simp) (.int .i64 (s)))).setCell (p:=⟨w.heap.size+3,3,none⟩) (by simp) (.int .i64 (0)))).setCell (p:=⟨w.heap.size+3,4,none⟩) (by simp) (.bool o))
         clear HP9
         go_wp2_with fail
         refine bodyPost_ret (v:=.agg (rowOf [.int .i64 3,.int .i64 (r3),.int .i64 (s),.int .i64 (0),.bool o])) (results_c Try.results41 _ _ (w.heap.size+3) 26 _ _ rfl HRES.out Try.underlying26 rfl info_move) rfl ?_
         exact ⟨⟨_,rfl,_,_,_,_,_,rfl⟩,HBE.out⟩
     · have zk3:((p3:Int)==(go:Int))=false:=by simp;omega
       clear k3
       go_quiet (fail)
       have HPd:=Lib.hid (HP6.out.drewN nq)
       clear yh y1 e3 e7 HP6
       generalize w1.drewN nq=wd at HPd ⊢
       have y1:=HPd.out.1.cell 1
       have e2:=HPd.out.2.1.cell 2
       have e4:=HPd.out.2.1.cell 4
       obtain ⟨bm',om',hA2,_,yh⟩:=ints_mt (GM.out wd HPd.out.2.2.2.2.2) L3.out (HOK.out.pos _ L3.out)
       injection hA2 with hA2
       injection hA2 with hA2 hA3
       subst hA2 hA3
       obtain ⟨p4,hp4⟩:∃ p,p=mt M mo:=⟨_,rfl⟩
       rw [<- hp4] at yh
       clear hp4
       go_upto_region 9 with fail
       by_cases k4:p4=ho
       · have zk4:((p4:Int)==(ho:Int))=true:=by simp;omega
         clear k4
         go_quiet (fail)
         have HPe:=Lib.hid (HPd.out.drewN nq)
         clear yh y1 e2 e4 HPd
         generalize wd.drewN nq=we at HPe ⊢
         have e4:=HPe.out.2.1.cell 4
         have KL4:=Lib.hid (KL.out mo L3.out we HPe.out.2.2.2.2.2 HPe.out.1)
         go_upto_region 20 with (go_at_call 62;refine KL4.out.mono ?_;rintro e wf ⟨⟨r4,rfl⟩,hbf⟩;have HPf:=Lib.hid (HPe.out.below hbf);have c2x:=HPf.out.2.2.2.2.1.cell 2;have f2:=HPf.out.2.2.2.2.1.frozen 2;clear hbf)
         have HP9:=Lib.hid (HPf.out.set2 r4)
         clear c2x f2 e4 HPf
         generalize (wf.setCell ⟨w.heap.size+4,2,none⟩ (.int .i64 r4))=w9 at HP9 ⊢
         have c0x:=HP9.out.2.2.2.2.1.cell 0
         have c1x:=HP9.out.2.2.2.2.1.cell 1
         have c2x:=HP9.out.2.2.2.2.1.cell 2
         have c3x:=HP9.out.2.2.2.2.1.cell 3
         have c4x:=HP9.out.2.2.2.2.1.cell 4
         have x0:=HP9.out.2.2.2.1.cell 0
         have f0:=HP9.out.2.2.2.1.frozen 0
         have x1:=HP9.out.2.2.2.1.cell 1
         have f1:=HP9.out.2.2.2.1.frozen 1
         have x2:=HP9.out.2.2.2.1.cell 2
         have f2:=HP9.out.2.2.2.1.frozen 2
         have x3:=HP9.out.2.2.2.1.cell 3
         have f3:=HP9.out.2.2.2.1.frozen 3
         have x4:=HP9.out.2.2.2.1.cell 4
         have f4:=HP9.out.2.2.2.1.frozen 4
         have HRES:=Lib.hid ((((((((((HP9.out.2.2.2.1).set 0 (.int .i64 3))).set 1 (.int .i64 (r)))).set 2 (.int .i64 (r4)))).set 3 (.int .i64 (0)))).set 4 (.bool o))
         have HBE:=Lib.hid ((((((((((HP9.out.2.2.2.2.2).setCell (p:=⟨w.heap.size+3,0,none⟩) (by simp) (.int .i64 3))).setCell (p:=⟨w.heap.size+3,1,none⟩) (by simp) (.int .i64 (r)))).setCell (p:=⟨w.heap.size+3,2,none⟩) (by simp) (.int .i64 (r4)))).setCell (p:=⟨w.heap.size+3,3,none⟩) (by simp) (.int .i64 (0)))).setCell (p:=⟨w.heap.size+3,4,none⟩) (by simp) (.bool o))
         clear HP9
         go_wp2_with fail
         refine bodyPost_ret (v:=.agg (rowOf [.int .i64 3,.int .i64 (r),.int .i64 (r4),.int .i64 (0),.bool o])) (results_c Try.results41 _ _ (w.heap.size+3) 26 _ _ rfl HRES.out Try.underlying26 rfl info_move) rfl ?_
         exact ⟨⟨_,rfl,_,_,_,_,_,rfl⟩,HBE.out⟩
       · have zk4:((p4:Int)==(ho:Int))=false:=by simp;omega
         clear k4
         go_quiet (fail)
         have HP9:=Lib.hid (HPd.out.drewN nq)
         clear yh y1 e2 e4 HPd
         generalize wd.drewN nq=w9 at HP9 ⊢
         go_upto_region 20 with fail
         have c0x:=HP9.out.2.2.2.2.1.cell 0
         have c1x:=HP9.out.2.2.2.2.1.cell 1
         have c2x:=HP9.out.2.2.2.2.1.cell 2
         have c3x:=HP9.out.2.2.2.2.1.cell 3
         have c4x:=HP9.out.2.2.2.2.1.cell 4
         have x0:=HP9.out.2.2.2.1.cell 0
         have f0:=HP9.out.2.2.2.1.frozen 0
         have x1:=HP9.out.2.2.2.1.cell 1
         have f1:=HP9.out.2.2.2.1.frozen 1
         have x2:=HP9.out.2.2.2.1.cell 2
         have f2:=HP9.out.2.2.2.1.frozen 2
         have x3:=HP9.out.2.2.2.1.cell 3
         have f3:=HP9.out.2.2.2.1.frozen 3
         have x4:=HP9.out.2.2.2.1.cell 4
         have f4:=HP9.out.2.2.2.1.frozen 4
         have HRES:=Lib.hid ((((((((((HP9.out.2.2.2.1).set 0 (.int .i64 3))).set 1 (.int .i64 (r)))).set 2 (.int .i64 (s)))).set 3 (.int .i64 (0)))).set 4 (.bool o))
         have HBE:=Lib.hid ((((((((((HP9.out.2.2.2.2.2).setCell (p:=⟨w.heap.size+3,0,none⟩) (by simp) (.int .i64 3))).setCell (p:=⟨w.heap.size+3,1,none⟩) (by simp) (.int .i64 (r)))).setCell (p:=⟨w.heap.size+3,2,none⟩) (by simp) (.int .i64 (s)))).setCell (p:=⟨w.heap.size+3,3,none⟩) (by simp) (.int .i64 (0)))).setCell (p:=⟨w.heap.size+3,4,none⟩) (by simp) (.bool o))
         clear HP9
         go_wp2_with fail
         refine bodyPost_ret (v:=.agg (rowOf [.int .i64 3,.int .i64 (r),.int .i64 (s),.int .i64 (0),.bool o])) (results_c Try.results41 _ _ (w.heap.size+3) 26 _ _ rfl HRES.out Try.underlying26 rfl info_move) rfl ?_
         exact ⟨⟨_,rfl,_,_,_,_,_,rfl⟩,HBE.out⟩
end Go.Proofs.Ytfnmeigpfmeomaa
namespace Go.Proofs.Ytfnmeigpfmeomaa
set_option linter.unusedVariables false
section
variable {S M:List Int} {L:Int}
set_option maxHeartbeats 2000000 in
theorem unpoke_mv {x y h m g up:Nat} {M1 M2:List Int} (hxy:x<y) (hy:y<S.length) (l:Lns M x y h) (hm:m=mt M h) (hg:g=turnN m 3) (hu:up=mt M g) (h1:M1=clL M (opp h) (opp m)) (h2:M2=clL M1 (opp up) (opp g)) :
 MvQ S M L (shS [(x:Int),(y:Int)] S S.length) (shM [(x:Int),(y:Int)] M2 S.length) (L+(lp (mt M) (opp h) (opp m):Nat)+(lp (mt M1) (opp up) (opp g):Nat)):=by
 intro hv hv' e he
 have k:=valB_ok hv
 have k':=valB_ok hv'
 have i2:=ok_inv2 k
 have hml:=k.m
 have hl0:=k.l0
 obtain ⟨n',hn'⟩:∃ n',S.length=n'+2:=⟨S.length-2,by omega⟩
 have hat:=l.at_
 have hpar:=l.par
 have hback:=l.back
 rw [<- hm] at hat hpar hback
 rw [<- hg] at hat hback
 rw [<- hu] at hback
 have hhl:h<4*S.length:=by omega
 have hml2:m<4*S.length:=by rw [hm];exact i2.lt h hhl
 have hmg:m/4=g/4/\m%2≠g%2:=by rw [hg];unfold turnN;omega
 have hgl:g<4*S.length:=by omega
 have hul:up<4*S.length:=by rw [hu];exact i2.lt g hgl
 have hup:up/4=h/4/\up%2≠h%2:=by rw [<- hback];unfold turnN;omega
 have e1:mt M h=m:=hm.symm
 have e2:mt M up=g:=by rw [hu];exact i2.inv g hgl
 obtain ⟨P,hP⟩:∃ P,P=h/4:=⟨_,rfl⟩
 obtain ⟨Q,hQ⟩:∃ Q,Q=g/4:=⟨_,rfl⟩
 have hcc:(P=x/\Q=y)\/(P=y/\Q=x):=by rw [hP,hQ];exact hat
 have p1:h/4=P:=hP.symm
 have p2:up/4=P:=by rw [hup.1,hP]
 have p3:m/4=Q:=by rw [hmg.1,hQ]
 have p4:g/4=Q:=hQ.symm
 have hPQ:P≠Q:=by omega
 obtain ⟨a1,a2⟩:=opp_slots p1
 obtain ⟨b1,b2⟩:=opp_slots p2
 obtain ⟨c1,c2⟩:=opp_slots p3
 obtain ⟨d1,d2⟩:=opp_slots p4
 obtain ⟨ho,hho⟩:∃ z,z=opp h:=⟨_,rfl⟩
 obtain ⟨uo,huo⟩:∃ z,z=opp up:=⟨_,rfl⟩
 obtain ⟨mo,hmo⟩:∃ z,z=opp m:=⟨_,rfl⟩
 obtain ⟨go,hgo⟩:∃ z,z=opp g:=⟨_,rfl⟩
 rw [<- hho] at h1 a1 a2 k' ⊢
 rw [<- huo] at h2 b1 b2 k' ⊢
 rw [<- hmo] at h1 c1 c2 k' ⊢
 rw [<- hgo] at h2 d1 d2 k' ⊢
 have dP:h≠up/\ho≠h/\ho≠up/\uo≠h/\uo≠up/\ho≠uo/\∀ z,z/4=P->z=h\/z=up\/z=ho\/z=uo:=by
  have w:=hup.2
  clear c2 d2 hcc hat hPQ hpar hmg
  refine ⟨by omega,by omega,by omega,by omega,by omega,by omega,fun z hz=>by omega⟩
 have dQ:m≠g/\mo≠m/\mo≠g/\go≠m/\go≠g/\mo≠go/\∀ z,z/4=Q->z=m\/z=g\/z=mo\/z=go:=by
  have w:=hmg.2
  clear a2 b2 hcc hat hPQ hpar hup dP
  refine ⟨by omega,by omega,by omega,by omega,by omega,by omega,fun z hz=>by omega⟩
 have pq:∀ {z v:Nat},z/4=P->v/4=Q->z≠v:=fun hz hv e=>hPQ (by rw [<- hz,<- hv,e])
 have lP:∀ {z},z/4=P->z<4*S.length:=fun {z} hz=>by omega
 have lQ:∀ {z},z/4=Q->z<4*S.length:=fun {z} hz=>by omega
 obtain ⟨x1,x2,x3,x4,x5,x6,x7⟩:=dP
 obtain ⟨y1,y2,y3,y4,y5,y6,y7⟩:=dQ
 clear a2 b2 c2 d2
 have hM1:mt M1=clsF (mt M) ho mo:=by rw [h1];exact mt_clL (by rw [hml];exact i2.lt ho (lP a1)) (by rw [hml];exact i2.lt mo (lQ c1))
 have hM1l:M1.length=4*S.length:=by rw [h1,clL_length,hml]
 have k1:Mtc S.length (mt M) [h,m,up,g]:=by
  have t1:=(Mtc.of i2).die (lP p2) (by simp) e2
  exact t1.die hhl (by simp;exact ⟨x1,pq p1 p4⟩) e1
 have k2:=k1.close (lP a1) (lQ c1) (by simp;exact ⟨x2,pq a1 p3,x3,pq a1 p4⟩) (by simp;exact ⟨(pq p1 c1).symm,y2,(pq p2 c1).symm,y3⟩) (pq a1 c1)
 have huo2:uo ∉ [ho,mo,h,m,up,g]:=by simp;exact ⟨x6.symm,pq b1 c1,x4,pq b1 p3,x5,pq b1 p4⟩
 have hgo2:go ∉ [ho,mo,h,m,up,g]:=by simp;exact ⟨(pq a1 d1).symm,y6.symm,(pq p1 d1).symm,y4,(pq p2 d1).symm,y5⟩
 have k3:=k2.close (lP b1) (lQ d1) huo2 hgo2 (pq b1 d1)
 clear x1 x2 x3 x4 x5 x6 y1 y2 y3 y4 y5 y6
 have hM2:mt M2=clsF (clsF (mt M) ho mo) uo go:=by
  rw [h2,<- hM1]
  rw [<- hM1] at k2
  exact mt_clL (by rw [hM1l];exact (k2 uo (lP b1) huo2).1) (by rw [hM1l];exact (k2 go (lQ d1) hgo2).1)
 have hM2l:M2.length=4*S.length:=by rw [h2,clL_length,hM1l]
 have pos2:∀ i (hi:i<M2.length),0<=M2[i]:=by rw [h2];exact clL_pos (by rw [h1];exact clL_pos k.pos)
 obtain ⟨g1,g2⟩:=shM_get [(x:Int),(y:Int)] M2 S.length
 have hnb:nb [(x:Int),(y:Int)] S.length=n':=by rw [nb_two hxy,if_neg (by omega),if_neg (by omega)];omega
 have hSl:(shS [(x:Int),(y:Int)] S S.length).length=n':=by rw [shS_length,hnb]
 rw [hnb] at g1
 have xyPQ:∀ z:Nat,(z≠x/\z≠y) ↔ (z≠P/\z≠Q):=fun z=>by
  rcases hcc with ⟨rfl,rfl⟩|⟨rfl,rfl⟩
  · exact Iff.rfl
  · exact And.comm
 have hall:∀ z,z/4≠P->z/4≠Q->z ∉ [uo,go,ho,mo,h,m,up,g]:=fun z hz1 hz2 w=>by
  simp only [List.mem_cons,List.not_mem_nil,or_false] at w
  rcases w with e|e|e|e|e|e|e|e
  · exact hz1 (by rw [e];exact b1)
  · exact hz2 (by rw [e];exact d1)
  · exact hz1 (by rw [e];exact a1)
  · exact hz2 (by rw [e];exact c1)
  · exact hz1 (by rw [e];exact p1)
  · exact hz2 (by rw [e];exact p3)
  · exact hz1 (by rw [e];exact p2)
  · exact hz2 (by rw [e];exact p4)
 have hall2:∀ z,z ∉ [uo,go,ho,mo,h,m,up,g]->z/4≠P/\z/4≠Q:=fun z hz=>by
  simp only [List.mem_cons,List.not_mem_nil,or_false] at hz
  constructor
  · intro w
    rcases x7 z w with e|e|e|e <;> exact hz (by simp [e])
  · intro w
    rcases y7 z w with e|e|e|e <;> exact hz (by simp [e])
 have key:∀ j,j<4*n'->(shM [(x:Int),(y:Int)] M2 S.length)[j]?.getD 0=(us2 x y (mt M2 (sk2 x y j)):Nat)/\mt M2 (sk2 x y j)/4≠x/\mt M2 (sk2 x y j)/4≠y:=by
  intro j hj
  have hsk:sk2 x y j<4*S.length/\(sk2 x y j/4≠x/\sk2 x y j/4≠y)/\4*nb [(x:Int),(y:Int)] (sk2 x y j/4)+sk2 x y j%4=j:=by
   clear hall hall2 x7 y7 pq lP lQ
   rw [nb_two hxy]
   unfold sk2
   by_cases w:j<4*x
   · rw [if_pos w,if_pos (by omega)];omega
   · rw [if_neg w]
     by_cases w2:j+4<4*y
     · rw [if_pos w2,if_neg (by omega),if_pos (by omega)];omega
     · rw [if_neg w2,if_neg (by omega),if_neg (by omega)];omega
  obtain ⟨s1,s2,s3⟩:=hsk
  have t1:=g2 (sk2 x y j/4) (by omega) (by rw [con2];simpa using s2) (sk2 x y j%4) (by omega)
  rw [s3,show 4*(sk2 x y j/4)+sk2 x y j%4=sk2 x y j by omega] at t1
  have s4:=(xyPQ _).1 s2
  have t2:=(xyPQ _).2 (hall2 _ (k3 (sk2 x y j) s1 (hall _ s4.1 s4.2)).2.1)
  rw [<- hM2] at t2
  rw [cast_mt (by rw [hM2l];exact s1) (pos2 _ (by rw [hM2l];exact s1)),shI_two hxy t2.1 t2.2] at t1
  rw [t1]
  exact ⟨rfl,t2⟩
 have hmt:∀ j,j<4*n'->mt (shM [(x:Int),(y:Int)] M2 S.length) j=us2 x y (mt M2 (sk2 x y j)):=fun j hj=>by
  rw [show mt (shM [(x:Int),(y:Int)] M2 S.length) j=((shM [(x:Int),(y:Int)] M2 S.length)[j]?.getD 0).toNat from rfl,(key j hj).1]
  exact Int.toNat_natCast _
 have hlt:∀ z,z<4*n'->mt (shM [(x:Int),(y:Int)] M2 S.length) z<4*n':=fun z hz=>by
  have:=(ok_inv2 k').lt z (by rw [hSl];exact hz)
  rwa [hSl] at this
 have hα:∀ j,j<4*n'->clsF (clsF (mt M) ho mo) uo go (sk2 x y j)=sk2 x y (mt (shM [(x:Int),(y:Int)] M2 S.length) j):=fun j hj=>by
  rw [hmt j hj,<- hM2,sk2_us2 hxy (key j hj).2.1 (key j hj).2.2]
 rw [hSl,hn',hM1]
 rw [hn'] at i2 hα hlt
 have hfin:nFox (n'+2) (mt M) e=nFox n' (mt (shM [(x:Int),(y:Int)] M2 (n'+2))) e*e ^ (lp (mt M) ho mo+lp (clsF (mt M) ho mo) uo go):=by
  by_cases w:h%2=1
  · exact r2_count i2 hlt hxy (by omega) hcc (slt_of p1 p2 w (by omega)) (slt_of p3 p4 (by omega) (by omega)) e1 e2 (.inl ⟨hho,hmo,huo,hgo⟩) hα he
  · exact r2_count i2 hlt hxy (by omega) hcc (slt_of p2 p1 (by omega) (by omega)) (slt_of p4 p3 (by omega) (by omega)) e2 e1 (.inr (.inr (.inl ⟨hho,hmo,huo,hgo⟩))) hα he
 rw [hfin,Nat.mul_assoc,<- Nat.pow_add]
 congr 2
 omega
end
end Go.Proofs.Ytfnmeigpfmeomaa
namespace Go.Proofs.Ytfnmeigpfmeomaa
open Go.RowKit
set_option linter.unusedVariables false
theorem FindR.split {M:List Int} {x y:Nat} {e:Ending} (h:FindR M x y e):(e=.returned (.tuple #[.agg #[.int .i64 0,.int .i64 0,.int .i64 0,.int .i64 0,.int .i64 0,.int .i64 0,.int .i64 0,.int .i64 0],.bool false])) \/
 ∃ h up m g:Nat,Lns M x y h/\Hid (m=mt M h/\g=turnN m 3/\up=mt M g)/\e=.returned (.tuple #[.agg #[.int .i64 (h:Int),.int .i64 (up:Int),.int .i64 (opp h:Nat),.int .i64 (opp up:Nat),.int .i64 (opp m:Nat),.int .i64 (g:Int),.int .i64 (m:Int),.int .i64 (opp g:Nat)],.bool true]):=by
 rcases h with h|⟨h,hl,he⟩
 · exact .inl h
 · exact .inr ⟨h,_,_,_,hl,Lib.hid ⟨rfl,rfl,rfl⟩,he⟩
def EvR (r:Nat) (W W':World):Prop:=∀ k,k<W.heap.size->k≠r->k≠r+1->W'.heap[k]? = W.heap[k]?
theorem EvR.of {r:Nat} {W W':World} (h:Below W.heap.size W W'):EvR r W W':=fun k hk _ _=>h.block k hk
theorem OwnI.ev {r base:Nat} {W W':World} {v:Value} {xs:List Int} (h:OwnI 3 base W v xs) (he:EvR r W W') (hr:r+2<=base):OwnI 3 base W' v xs :=
 (h.toA.keepK fun k hk=>he k (h.ltB k hk) (fun e=>by have:=h.block k hk;omega) (fun e=>by have:=h.block k hk;omega)).toI
def R1K (r:Nat) (S2 M2:List Int) (L2:Int) (p:Bool) (W:World):Prop:=if p=true then ∃ v1 v2,Arr W r 24 [v1,v2,.int .i64 L2]/\OwnI 3 (r+2) W v1 S2/\OwnI 3 (r+2) W v2 M2 else Arr W r 24 [.slice none 0 0,.slice none 0 0,.int .i64 0]
def R2K (r:Nat) (q:Bool) (W:World):Prop:=if q=true then ∃ (a b c d:Int) (o:Bool),Arr W (r+1) 26 [.int .i64 a,.int .i64 b,.int .i64 c,.int .i64 d,.bool o] else Arr W (r+1) 26 [.int .i64 0,.int .i64 0,.int .i64 0,.int .i64 0,.bool false]
def UpK (w:World) (gl:Nat) (dd mm ll:List Value) (vm:Value) (M1 S2 M2:List Int) (L2:Int) (p q:Bool) (W:World):Prop :=
 Arr W w.heap.size 24 dd/\Arr W (w.heap.size+1) 26 mm/\Arr W gl 70 ll/\OwnI 3 (gl+1) W vm M1/\R1K (w.heap.size+2) S2 M2 L2 p W/\R2K (w.heap.size+2) q W/\Below w.heap.size w W
section
variable {w W W':World} {gl:Nat} {dd mm ll:List Value} {vm:Value} {M1 S2 M2:List Int} {L2:Int} {p q:Bool}
theorem R1K.grow {r:Nat} (h:R1K r S2 M2 L2 p W) (hb:Below W.heap.size W W'):R1K r S2 M2 L2 p W':=by
 cases p with
 | true =>
  obtain ⟨v1,v2,a,b,c⟩:=h
  exact ⟨v1,v2,a.below hb a.lt,b.below hb (Nat.le_refl _),c.below hb (Nat.le_refl _)⟩
 | false=>exact Arr.below (show Arr W r 24 _ from h) hb (show Arr W r 24 _ from h).lt
theorem R2K.grow {r:Nat} (h:R2K r q W) (hb:Below W.heap.size W W'):R2K r q W':=by
 cases q with
 | true =>
  obtain ⟨a,b,c,d,o,k⟩:=h
  exact ⟨a,b,c,d,o,k.below hb k.lt⟩
 | false=>exact Arr.below (show Arr W (r+1) 26 _ from h) hb (show Arr W (r+1) 26 _ from h).lt
theorem UpK.grow (h:UpK w gl dd mm ll vm M1 S2 M2 L2 p q W) (hb:Below W.heap.size W W'):UpK w gl dd mm ll vm M1 S2 M2 L2 p q W' :=
 ⟨h.1.below hb h.1.lt,h.2.1.below hb h.2.1.lt,h.2.2.1.below hb h.2.2.1.lt,h.2.2.2.1.below hb (Nat.le_refl _),h.2.2.2.2.1.grow hb,h.2.2.2.2.2.1.grow hb,h.2.2.2.2.2.2.trans (hb.mono h.2.2.2.2.2.2.size)⟩
theorem UpK.store1 (h:UpK w gl dd mm ll vm M1 S2 M2 L2 false q W) (hg:w.heap.size+4<=gl) {v1 v2:Value} (o1:OwnI 3 (w.heap.size+4) W v1 S2) (o2:OwnI 3 (w.heap.size+4) W v2 M2) :
 EvR (w.heap.size+2) W (((W.setCell ⟨w.heap.size+2,0,none⟩ v1).setCell ⟨w.heap.size+2,1,none⟩ v2).setCell ⟨w.heap.size+2,2,none⟩ (.int .i64 L2))/\UpK w gl dd mm ll vm M1 S2 M2 L2 true q (((W.setCell ⟨w.heap.size+2,0,none⟩ v1).setCell ⟨w.heap.size+2,1,none⟩ v2).setCell ⟨w.heap.size+2,2,none⟩ (.int .i64 L2)):=by
 have n1:v1.ownBlock≠some (w.heap.size+2):=fun e=>by have:=o1.block _ e;omega
 have n2:v2.ownBlock≠some (w.heap.size+2):=fun e=>by have:=o2.block _ e;omega
 have n3:vm.ownBlock≠some (w.heap.size+2):=fun e=>by have:=h.2.2.2.1.block _ e;omega
 have f3:∀ {b:Nat} {t:TypeId} {cs:List Value},Arr W b t cs->b≠w.heap.size+2->Arr (((W.setCell ⟨w.heap.size+2,0,none⟩ v1).setCell ⟨w.heap.size+2,1,none⟩ v2).setCell ⟨w.heap.size+2,2,none⟩ (.int .i64 L2)) b t cs:=fun k hb =>
  ((k.far (p:=⟨w.heap.size+2,0,none⟩) hb _).far (p:=⟨w.heap.size+2,1,none⟩) hb _).far (p:=⟨w.heap.size+2,2,none⟩) hb _
 have hr:Arr W (w.heap.size+2) 24 [.slice none 0 0,.slice none 0 0,.int .i64 0]:=h.2.2.2.2.1
 refine ⟨fun k hk h1 h2=>?_,f3 h.1 (by omega),f3 h.2.1 (by omega),f3 h.2.2.1 (by omega),((h.2.2.2.1.far n3 _).far n3 _).far n3 _,⟨v1,v2,((hr.set 0 _).set 1 _).set 2 _,((o1.far n1 _).far n1 _).far n1 _,((o2.far n2 _).far n2 _).far n2 _⟩,?_,((h.2.2.2.2.2.2.setCell (p:=⟨w.heap.size+2,0,none⟩) (by simp) _).setCell (p:=⟨w.heap.size+2,1,none⟩) (by simp) _).setCell (p:=⟨w.heap.size+2,2,none⟩) (by simp) _⟩
 · rw [Below.heap_setCell _ ⟨w.heap.size+2,2,none⟩ _ k h1,Below.heap_setCell _ ⟨w.heap.size+2,1,none⟩ _ k h1,Below.heap_setCell _ ⟨w.heap.size+2,0,none⟩ _ k h1]
 · have h6:=h.2.2.2.2.2.1
   cases q with
   | true =>
    obtain ⟨a,b,c,d,o,k⟩:=h6
    exact ⟨a,b,c,d,o,f3 k (by omega)⟩
   | false=>exact f3 (show Arr W (w.heap.size+2+1) 26 _ from h6) (by omega)
theorem UpK.store2 (h:UpK w gl dd mm ll vm M1 S2 M2 L2 p false W) (hg:w.heap.size+4<=gl) (a b c d:Int) (o:Bool) :
 EvR (w.heap.size+2) W (((((W.setCell ⟨w.heap.size+3,0,none⟩ (.int .i64 a)).setCell ⟨w.heap.size+3,1,none⟩ (.int .i64 b)).setCell ⟨w.heap.size+3,2,none⟩ (.int .i64 c)).setCell ⟨w.heap.size+3,3,none⟩ (.int .i64 d)).setCell ⟨w.heap.size+3,4,none⟩ (.bool o))/\UpK w gl dd mm ll vm M1 S2 M2 L2 p true (((((W.setCell ⟨w.heap.size+3,0,none⟩ (.int .i64 a)).setCell ⟨w.heap.size+3,1,none⟩ (.int .i64 b)).setCell ⟨w.heap.size+3,2,none⟩ (.int .i64 c)).setCell ⟨w.heap.size+3,3,none⟩ (.int .i64 d)).setCell ⟨w.heap.size+3,4,none⟩ (.bool o)):=by
 have n3:vm.ownBlock≠some (w.heap.size+3):=fun e=>by have:=h.2.2.2.1.block _ e;omega
 have f3:∀ {bl:Nat} {t:TypeId} {cs:List Value},Arr W bl t cs->bl≠w.heap.size+3->Arr (((((W.setCell ⟨w.heap.size+3,0,none⟩ (.int .i64 a)).setCell ⟨w.heap.size+3,1,none⟩ (.int .i64 b)).setCell ⟨w.heap.size+3,2,none⟩ (.int .i64 c)).setCell ⟨w.heap.size+3,3,none⟩ (.int .i64 d)).setCell ⟨w.heap.size+3,4,none⟩ (.bool o)) bl t cs:=fun k hb =>
  ((((k.far (p:=⟨w.heap.size+3,0,none⟩) hb _).far (p:=⟨w.heap.size+3,1,none⟩) hb _).far (p:=⟨w.heap.size+3,2,none⟩) hb _).far (p:=⟨w.heap.size+3,3,none⟩) hb _).far (p:=⟨w.heap.size+3,4,none⟩) hb _
 have g3:∀ {v:Value} {xs:List Int} {base:Nat},OwnI 3 base W v xs->v.ownBlock≠some (w.heap.size+3)->OwnI 3 base (((((W.setCell ⟨w.heap.size+3,0,none⟩ (.int .i64 a)).setCell ⟨w.heap.size+3,1,none⟩ (.int .i64 b)).setCell ⟨w.heap.size+3,2,none⟩ (.int .i64 c)).setCell ⟨w.heap.size+3,3,none⟩ (.int .i64 d)).setCell ⟨w.heap.size+3,4,none⟩ (.bool o)) v xs:=fun k hb=>((((k.far hb _).far hb _).far hb _).far hb _).far hb _
 have hr:Arr W (w.heap.size+3) 26 [.int .i64 0,.int .i64 0,.int .i64 0,.int .i64 0,.bool false]:=h.2.2.2.2.2.1
 refine ⟨fun k hk h1 h2=>?_,f3 h.1 (by omega),f3 h.2.1 (by omega),f3 h.2.2.1 (by omega),g3 h.2.2.2.1 n3,?_,⟨a,b,c,d,o,((((hr.set 0 _).set 1 _).set 2 _).set 3 _).set 4 _⟩,((((h.2.2.2.2.2.2.setCell (p:=⟨w.heap.size+3,0,none⟩) (by simp) _).setCell (p:=⟨w.heap.size+3,1,none⟩) (by simp) _).setCell (p:=⟨w.heap.size+3,2,none⟩) (by simp) _).setCell (p:=⟨w.heap.size+3,3,none⟩) (by simp) _).setCell (p:=⟨w.heap.size+3,4,none⟩) (by simp) _⟩
 · have h2':k≠w.heap.size+3:=h2
   rw [Below.heap_setCell _ ⟨w.heap.size+3,4,none⟩ _ k h2',Below.heap_setCell _ ⟨w.heap.size+3,3,none⟩ _ k h2',Below.heap_setCell _ ⟨w.heap.size+3,2,none⟩ _ k h2',Below.heap_setCell _ ⟨w.heap.size+3,1,none⟩ _ k h2',Below.heap_setCell _ ⟨w.heap.size+3,0,none⟩ _ k h2']
 · have h5:=h.2.2.2.2.1
   cases p with
   | true =>
    obtain ⟨v1,v2,k,o1,o2⟩:=h5
    exact ⟨v1,v2,f3 k (by omega),g3 o1 (fun e=>by have:=o1.block _ e;omega),g3 o2 (fun e=>by have:=o2.block _ e;omega)⟩
   | false=>exact f3 (show Arr W (w.heap.size+2) 24 _ from h5) (by omega)
end
end Go.Proofs.Ytfnmeigpfmeomaa
namespace Go.Proofs.Ytfnmeigpfmeomaa
set_option linter.unusedVariables false
def pkE (n f0 f1:Nat) (i:Fin 8):Nat:=if i.val<4 then 4*n+(i.val+4-f0)%4 else 4*(n+1)+(i.val-f1)%4
section
variable {n f0 f1:Nat}
theorem pkE_at (i:Fin 8):pkE n f0 f1 i/4=if i.val<4 then n else n+1:=by
 unfold pkE
 split <;> omega
theorem pkE_inj (h0:f0<4) (h1:f1<4) (i j:Fin 8):(pkE n f0 f1 i=pkE n f0 f1 j)=(i=j):=by
 apply propext
 constructor
 · intro e
   apply Fin.ext
   have hi:=i.isLt
   have hj:=j.isLt
   unfold pkE at e
   split at e <;> split at e <;> omega
 · rintro rfl;rfl
theorem pkE_ge (i:Fin 8):4*n<=pkE n f0 f1 i:=by unfold pkE;split <;> omega
theorem pkE_slt0 (h0:f0<4) (h1:f1<4) (hp:f0%2=f1%2) (ho:f0%2=1):Slt n (pkE n f0 f1 0) (pkE n f0 f1 2) (pkE n f0 f1 1) (pkE n f0 f1 3)/\Slt (n+1) (pkE n f0 f1 6) (pkE n f0 f1 4) (pkE n f0 f1 5) (pkE n f0 f1 7):=by
 have q0:pkE n f0 f1 0=4*n+(0+4-f0)%4:=rfl
 have q1:pkE n f0 f1 1=4*n+(1+4-f0)%4:=rfl
 have q2:pkE n f0 f1 2=4*n+(2+4-f0)%4:=rfl
 have q3:pkE n f0 f1 3=4*n+(3+4-f0)%4:=rfl
 have q4:pkE n f0 f1 4=4*(n+1)+(4-f1)%4:=rfl
 have q5:pkE n f0 f1 5=4*(n+1)+(5-f1)%4:=rfl
 have q6:pkE n f0 f1 6=4*(n+1)+(6-f1)%4:=rfl
 have q7:pkE n f0 f1 7=4*(n+1)+(7-f1)%4:=rfl
 rw [q0,q1,q2,q3,q4,q5,q6,q7]
 unfold Slt
 omega
theorem pkE_slt1 (h0:f0<4) (h1:f1<4) (hp:f0%2=f1%2) (ho:f0%2=0):Slt n (pkE n f0 f1 1) (pkE n f0 f1 3) (pkE n f0 f1 0) (pkE n f0 f1 2)/\Slt (n+1) (pkE n f0 f1 5) (pkE n f0 f1 7) (pkE n f0 f1 6) (pkE n f0 f1 4):=by
 have q0:pkE n f0 f1 0=4*n+(0+4-f0)%4:=rfl
 have q1:pkE n f0 f1 1=4*n+(1+4-f0)%4:=rfl
 have q2:pkE n f0 f1 2=4*n+(2+4-f0)%4:=rfl
 have q3:pkE n f0 f1 3=4*n+(3+4-f0)%4:=rfl
 have q4:pkE n f0 f1 4=4*(n+1)+(4-f1)%4:=rfl
 have q5:pkE n f0 f1 5=4*(n+1)+(5-f1)%4:=rfl
 have q6:pkE n f0 f1 6=4*(n+1)+(6-f1)%4:=rfl
 have q7:pkE n f0 f1 7=4*(n+1)+(7-f1)%4:=rfl
 rw [q0,q1,q2,q3,q4,q5,q6,q7]
 unfold Slt
 omega
end
section
variable {S M:List Int} {L:Int}
theorem poke_core {s0 s1 L':Int} {M':List Int} {f0 f1:Nat} (h0:f0<4) (h1:f1<4) (hp:f0%2=f1%2)
 (hβ:Ok S M L->Inv2 (4*(S.length+2)) (mt M')->mt M' (pkE S.length f0 f1 1)=pkE S.length f0 f1 5/\mt M' (pkE S.length f0 f1 0)=pkE S.length f0 f1 6 /\
  (∀ j,j<4*S.length->clsF (clsF (mt M') (pkE S.length f0 f1 3) (pkE S.length f0 f1 7)) (pkE S.length f0 f1 2) (pkE S.length f0 f1 4) j=mt M j) /\
  L=L'+(lp (mt M') (pkE S.length f0 f1 3) (pkE S.length f0 f1 7):Nat)+(lp (clsF (mt M') (pkE S.length f0 f1 3) (pkE S.length f0 f1 7)) (pkE S.length f0 f1 2) (pkE S.length f0 f1 4):Nat)) :
 MvQ S M L (S ++ [s0,s1]) M' L':=by
 intro hv hv' m hm
 have k:=valB_ok hv
 have k0:=(valB_ok hv').l0
 have k':=ok_inv2 (valB_ok hv')
 have hlen:(S ++ [s0,s1]).length=S.length+2:=by simp
 rw [hlen] at k' ⊢
 obtain ⟨b1,b2,b3,b4⟩:=hβ k k'
 have hlt:∀ h,h<4*S.length->mt M h<4*S.length:=fun h hh=>(ok_inv2 k).lt h hh
 have hα:∀ j,j<4*S.length->clsF (clsF (mt M') (pkE S.length f0 f1 3) (pkE S.length f0 f1 7)) (pkE S.length f0 f1 2) (pkE S.length f0 f1 4) (sk2 S.length (S.length+1) j)=sk2 S.length (S.length+1) (mt M j):=fun j hj=>by
  rw [sk2_low hj,sk2_low (hlt j hj)];exact b3 j hj
 have hfin:nFox (S.length+2) (mt M') m=nFox S.length (mt M) m*m ^ (lp (mt M') (pkE S.length f0 f1 3) (pkE S.length f0 f1 7)+lp (clsF (mt M') (pkE S.length f0 f1 3) (pkE S.length f0 f1 7)) (pkE S.length f0 f1 2) (pkE S.length f0 f1 4)):=by
  by_cases w:f0%2=1
  · obtain ⟨t1,t2⟩:=pkE_slt0 (n:=S.length) h0 h1 hp w
    exact r2_count k' hlt (Nat.lt_succ_self _) (by omega) (.inl ⟨rfl,rfl⟩) t1 t2 b2 b1 (.inr (.inr (.inl ⟨rfl,rfl,rfl,rfl⟩))) hα hm
  · obtain ⟨t1,t2⟩:=pkE_slt1 (n:=S.length) h0 h1 hp (by omega)
    exact r2_count k' hlt (Nat.lt_succ_self _) (by omega) (.inl ⟨rfl,rfl⟩) t1 t2 b1 b2 (.inl ⟨rfl,rfl,rfl,rfl⟩) hα hm
 rw [hfin,Nat.mul_assoc,<- Nat.pow_add]
 congr 2
 omega
end
section
variable {S M:List Int} {L:Int}
set_option maxHeartbeats 4000000 in
theorem poke_selfLoop {s0 s1:Int} {f0 f1:Nat} (h0:f0<4) (h1:f1<4) (hp:f0%2=f1%2) :
 MvQ S M L (S ++ [s0,s1]) (jnL (jnL (jnL (jnL (M ++ List.replicate 8 (0:Int)) (pkE S.length f0 f1 1) (pkE S.length f0 f1 5)) (pkE S.length f0 f1 6) (pkE S.length f0 f1 0)) (pkE S.length f0 f1 7) (pkE S.length f0 f1 4)) (pkE S.length f0 f1 2) (pkE S.length f0 f1 3)) (L-1):=by
 refine poke_core h0 h1 hp (fun k k'=>?_)
 have hml:=k.m
 have hge:=fun i=>pkE_ge (n:=S.length) (f0:=f0) (f1:=f1) i
 have hlt:∀ i,pkE S.length f0 f1 i<4*S.length+8:=fun i=>by have:=pkE_at (n:=S.length) (f0:=f0) (f1:=f1) i;split at this <;> omega
 have E:=fun i j=>pkE_inj (n:=S.length) h0 h1 i j
 have hl:(M ++ List.replicate 8 (0:Int)).length=4*S.length+8:=by simp;omega
 have hz:∀ j,j<4*S.length->mt (M ++ List.replicate 8 (0:Int)) j=mt M j:=fun j hj=>mt_app (by omega)
 have hb:mt (jnL (jnL (jnL (jnL (M ++ List.replicate 8 (0:Int)) (pkE S.length f0 f1 1) (pkE S.length f0 f1 5)) (pkE S.length f0 f1 6) (pkE S.length f0 f1 0)) (pkE S.length f0 f1 7) (pkE S.length f0 f1 4)) (pkE S.length f0 f1 2) (pkE S.length f0 f1 3))=jnF (jnF (jnF (jnF (mt (M ++ List.replicate 8 (0:Int))) (pkE S.length f0 f1 1) (pkE S.length f0 f1 5)) (pkE S.length f0 f1 6) (pkE S.length f0 f1 0)) (pkE S.length f0 f1 7) (pkE S.length f0 f1 4)) (pkE S.length f0 f1 2) (pkE S.length f0 f1 3):=by
  rw [mt_jnL (by simp only [jnL_length];rw [hl];first|exact hlt _|omega) (by simp only [jnL_length];rw [hl];first|exact hlt _|omega),mt_jnL (by simp only [jnL_length];rw [hl];first|exact hlt _|omega) (by simp only [jnL_length];rw [hl];first|exact hlt _|omega),mt_jnL (by simp only [jnL_length];rw [hl];first|exact hlt _|omega) (by simp only [jnL_length];rw [hl];first|exact hlt _|omega),mt_jnL (by rw [hl];exact hlt _) (by rw [hl];exact hlt _)]
 rw [hb] at k' ⊢
 clear hb
 generalize hα0:mt (M ++ List.replicate 8 (0:Int))=α0 at *
 generalize pkE S.length f0 f1=e at *
 have key:∀ j,j<4*S.length->∀ i,(j=e i)=False:=fun j hj i=>eq_false (fun w=>by have:=hge i;omega)
 refine ⟨by simp [jnF,E],by simp [jnF,E],fun j hj=>?_,by simp [lp,clsF,jnF,E];try omega⟩
 have kj:=key j hj
 simp [clsF,jnF,E,kj]
 exact hz j hj
set_option maxHeartbeats 4000000 in
theorem poke_selfOver {s0 s1:Int} {f0 f1:Nat} (h0:f0<4) (h1:f1<4) (hp:f0%2=f1%2) {x:Nat} (hx:x<M.length) :
 MvQ S M L (S ++ [s0,s1]) (jnL (jnL (jnL (jnL (jnL (M ++ List.replicate 8 (0:Int)) (pkE S.length f0 f1 1) (pkE S.length f0 f1 5)) (pkE S.length f0 f1 6) (pkE S.length f0 f1 0)) x (pkE S.length f0 f1 3)) (pkE S.length f0 f1 7) (pkE S.length f0 f1 4)) (pkE S.length f0 f1 2) (mt M x)) L:=by
 refine poke_core h0 h1 hp (fun k k'=>?_)
 have hml:=k.m
 have hge:=fun i=>pkE_ge (n:=S.length) (f0:=f0) (f1:=f1) i
 have hlt:∀ i,pkE S.length f0 f1 i<4*S.length+8:=fun i=>by have:=pkE_at (n:=S.length) (f0:=f0) (f1:=f1) i;split at this <;> omega
 have E:=fun i j=>pkE_inj (n:=S.length) h0 h1 i j
 have hl:(M ++ List.replicate 8 (0:Int)).length=4*S.length+8:=by simp;omega
 have hz:∀ j,j<4*S.length->mt (M ++ List.replicate 8 (0:Int)) j=mt M j:=fun j hj=>mt_app (by omega)
 have hxl:x<4*S.length:=by omega
 have hX:=k.lt x hx
 have hXn:=k.ne x hx
 have hXi:=k.inv x hx
 obtain ⟨mx,hmx⟩:∃ z,z=mt M x:=⟨_,rfl⟩
 rw [<- hmx] at hX hXn hXi k' ⊢
 have hmxl:mx<4*S.length:=by omega
 have hb:mt (jnL (jnL (jnL (jnL (jnL (M ++ List.replicate 8 (0:Int)) (pkE S.length f0 f1 1) (pkE S.length f0 f1 5)) (pkE S.length f0 f1 6) (pkE S.length f0 f1 0)) x (pkE S.length f0 f1 3)) (pkE S.length f0 f1 7) (pkE S.length f0 f1 4)) (pkE S.length f0 f1 2) mx)=jnF (jnF (jnF (jnF (jnF (mt (M ++ List.replicate 8 (0:Int))) (pkE S.length f0 f1 1) (pkE S.length f0 f1 5)) (pkE S.length f0 f1 6) (pkE S.length f0 f1 0)) x (pkE S.length f0 f1 3)) (pkE S.length f0 f1 7) (pkE S.length f0 f1 4)) (pkE S.length f0 f1 2) mx:=by
  rw [mt_jnL (by simp only [jnL_length];rw [hl];first|exact hlt _|omega) (by simp only [jnL_length];rw [hl];first|exact hlt _|omega),mt_jnL (by simp only [jnL_length];rw [hl];first|exact hlt _|omega) (by simp only [jnL_length];rw [hl];first|exact hlt _|omega),mt_jnL (by simp only [jnL_length];rw [hl];first|exact hlt _|omega) (by simp only [jnL_length];rw [hl];first|exact hlt _|omega),mt_jnL (by simp only [jnL_length];rw [hl];first|exact hlt _|omega) (by simp only [jnL_length];rw [hl];first|exact hlt _|omega),mt_jnL (by rw [hl];exact hlt _) (by rw [hl];exact hlt _)]
 rw [hb] at k' ⊢
 clear hb
 generalize hα0:mt (M ++ List.replicate 8 (0:Int))=α0 at *
 generalize pkE S.length f0 f1=e at *
 have nx:∀ i,(e i=x)=False:=fun i=>eq_false (fun w=>by have:=hge i;omega)
 have nx':∀ i,(x=e i)=False:=fun i=>eq_false (fun w=>by have:=hge i;omega)
 have nmx:∀ i,(e i=mx)=False:=fun i=>eq_false (fun w=>by have:=hge i;omega)
 have nmx':∀ i,(mx=e i)=False:=fun i=>eq_false (fun w=>by have:=hge i;omega)
 have dx1:(x=mx)=False:=eq_false (fun w=>hXn w.symm)
 have dx2:(mx=x)=False:=eq_false hXn
 have key:∀ j,j<4*S.length->∀ i,(j=e i)=False:=fun j hj i=>eq_false (fun w=>by have:=hge i;omega)
 refine ⟨by simp [jnF,E,nx,nx',nmx,nmx',dx1,dx2],by simp [jnF,E,nx,nx',nmx,nmx',dx1,dx2],fun j hj=>?_,by simp [lp,clsF,jnF,E,nx,nx',nmx,nmx',dx1,dx2];try omega⟩
 have kj:=key j hj
 by_cases wx:j=x
 · rw [wx];simp [clsF,jnF,E,nx,nx',nmx,nmx',dx1,dx2];first|exact hmx|exact hmx.symm|(rw [hmx])
 by_cases wmx:j=mx
 · rw [wmx];simp [clsF,jnF,E,nx,nx',nmx,nmx',dx1,dx2];first|exact hXi|exact hXi.symm|(rw [hXi])
 simp [clsF,jnF,E,nx,nx',nmx,nmx',dx1,dx2,kj,wx,wmx]
 exact hz j hj
set_option maxHeartbeats 4000000 in
theorem poke_selfUnder {s0 s1:Int} {f0 f1:Nat} (h0:f0<4) (h1:f1<4) (hp:f0%2=f1%2) {x:Nat} (hx:x<M.length) :
 MvQ S M L (S ++ [s0,s1]) (jnL (jnL (jnL (jnL (jnL (M ++ List.replicate 8 (0:Int)) (pkE S.length f0 f1 1) (pkE S.length f0 f1 5)) (pkE S.length f0 f1 6) (pkE S.length f0 f1 0)) x (pkE S.length f0 f1 4)) (pkE S.length f0 f1 2) (pkE S.length f0 f1 3)) (pkE S.length f0 f1 7) (mt M x)) L:=by
 refine poke_core h0 h1 hp (fun k k'=>?_)
 have hml:=k.m
 have hge:=fun i=>pkE_ge (n:=S.length) (f0:=f0) (f1:=f1) i
 have hlt:∀ i,pkE S.length f0 f1 i<4*S.length+8:=fun i=>by have:=pkE_at (n:=S.length) (f0:=f0) (f1:=f1) i;split at this <;> omega
 have E:=fun i j=>pkE_inj (n:=S.length) h0 h1 i j
 have hl:(M ++ List.replicate 8 (0:Int)).length=4*S.length+8:=by simp;omega
 have hz:∀ j,j<4*S.length->mt (M ++ List.replicate 8 (0:Int)) j=mt M j:=fun j hj=>mt_app (by omega)
 have hxl:x<4*S.length:=by omega
 have hX:=k.lt x hx
 have hXn:=k.ne x hx
 have hXi:=k.inv x hx
 obtain ⟨mx,hmx⟩:∃ z,z=mt M x:=⟨_,rfl⟩
 rw [<- hmx] at hX hXn hXi k' ⊢
 have hmxl:mx<4*S.length:=by omega
 have hb:mt (jnL (jnL (jnL (jnL (jnL (M ++ List.replicate 8 (0:Int)) (pkE S.length f0 f1 1) (pkE S.length f0 f1 5)) (pkE S.length f0 f1 6) (pkE S.length f0 f1 0)) x (pkE S.length f0 f1 4)) (pkE S.length f0 f1 2) (pkE S.length f0 f1 3)) (pkE S.length f0 f1 7) mx)=jnF (jnF (jnF (jnF (jnF (mt (M ++ List.replicate 8 (0:Int))) (pkE S.length f0 f1 1) (pkE S.length f0 f1 5)) (pkE S.length f0 f1 6) (pkE S.length f0 f1 0)) x (pkE S.length f0 f1 4)) (pkE S.length f0 f1 2) (pkE S.length f0 f1 3)) (pkE S.length f0 f1 7) mx:=by
  rw [mt_jnL (by simp only [jnL_length];rw [hl];first|exact hlt _|omega) (by simp only [jnL_length];rw [hl];first|exact hlt _|omega),mt_jnL (by simp only [jnL_length];rw [hl];first|exact hlt _|omega) (by simp only [jnL_length];rw [hl];first|exact hlt _|omega),mt_jnL (by simp only [jnL_length];rw [hl];first|exact hlt _|omega) (by simp only [jnL_length];rw [hl];first|exact hlt _|omega),mt_jnL (by simp only [jnL_length];rw [hl];first|exact hlt _|omega) (by simp only [jnL_length];rw [hl];first|exact hlt _|omega),mt_jnL (by rw [hl];exact hlt _) (by rw [hl];exact hlt _)]
 rw [hb] at k' ⊢
 clear hb
 generalize hα0:mt (M ++ List.replicate 8 (0:Int))=α0 at *
 generalize pkE S.length f0 f1=e at *
 have nx:∀ i,(e i=x)=False:=fun i=>eq_false (fun w=>by have:=hge i;omega)
 have nx':∀ i,(x=e i)=False:=fun i=>eq_false (fun w=>by have:=hge i;omega)
 have nmx:∀ i,(e i=mx)=False:=fun i=>eq_false (fun w=>by have:=hge i;omega)
 have nmx':∀ i,(mx=e i)=False:=fun i=>eq_false (fun w=>by have:=hge i;omega)
 have dx1:(x=mx)=False:=eq_false (fun w=>hXn w.symm)
 have dx2:(mx=x)=False:=eq_false hXn
 have key:∀ j,j<4*S.length->∀ i,(j=e i)=False:=fun j hj i=>eq_false (fun w=>by have:=hge i;omega)
 refine ⟨by simp [jnF,E,nx,nx',nmx,nmx',dx1,dx2],by simp [jnF,E,nx,nx',nmx,nmx',dx1,dx2],fun j hj=>?_,by simp [lp,clsF,jnF,E,nx,nx',nmx,nmx',dx1,dx2];try omega⟩
 have kj:=key j hj
 by_cases wx:j=x
 · rw [wx];simp [clsF,jnF,E,nx,nx',nmx,nmx',dx1,dx2];first|exact hmx|exact hmx.symm|(rw [hmx])
 by_cases wmx:j=mx
 · rw [wmx];simp [clsF,jnF,E,nx,nx',nmx,nmx',dx1,dx2];first|exact hXi|exact hXi.symm|(rw [hXi])
 simp [clsF,jnF,E,nx,nx',nmx,nmx',dx1,dx2,kj,wx,wmx]
 exact hz j hj
set_option maxHeartbeats 4000000 in
theorem poke_edgeEdge {s0 s1:Int} {f0 f1:Nat} (h0:f0<4) (h1:f1<4) (hp:f0%2=f1%2) {x:Nat} (hx:x<M.length) {y:Nat} (hy:y<M.length) (hxy:x≠y) :
 MvQ S M L (S ++ [s0,s1]) (jnL (jnL (jnL (jnL (jnL (jnL (M ++ List.replicate 8 (0:Int)) (pkE S.length f0 f1 1) (pkE S.length f0 f1 5)) (pkE S.length f0 f1 6) (pkE S.length f0 f1 0)) y (pkE S.length f0 f1 4)) (pkE S.length f0 f1 2) (mt M y)) x (pkE S.length f0 f1 3)) (pkE S.length f0 f1 7) (mt M x)) L:=by
 refine poke_core h0 h1 hp (fun k k'=>?_)
 have hml:=k.m
 have hge:=fun i=>pkE_ge (n:=S.length) (f0:=f0) (f1:=f1) i
 have hlt:∀ i,pkE S.length f0 f1 i<4*S.length+8:=fun i=>by have:=pkE_at (n:=S.length) (f0:=f0) (f1:=f1) i;split at this <;> omega
 have E:=fun i j=>pkE_inj (n:=S.length) h0 h1 i j
 have hl:(M ++ List.replicate 8 (0:Int)).length=4*S.length+8:=by simp;omega
 have hz:∀ j,j<4*S.length->mt (M ++ List.replicate 8 (0:Int)) j=mt M j:=fun j hj=>mt_app (by omega)
 have hxl:x<4*S.length:=by omega
 have hX:=k.lt x hx
 have hXn:=k.ne x hx
 have hXi:=k.inv x hx
 have hyl:y<4*S.length:=by omega
 have hY:=k.lt y hy
 have hYn:=k.ne y hy
 have hYi:=k.inv y hy
 obtain ⟨mx,hmx⟩:∃ z,z=mt M x:=⟨_,rfl⟩
 rw [<- hmx] at hX hXn hXi k' ⊢
 have hmxl:mx<4*S.length:=by omega
 obtain ⟨my,hmy⟩:∃ z,z=mt M y:=⟨_,rfl⟩
 rw [<- hmy] at hY hYn hYi k' ⊢
 have hmyl:my<4*S.length:=by omega
 have hb:mt (jnL (jnL (jnL (jnL (jnL (jnL (M ++ List.replicate 8 (0:Int)) (pkE S.length f0 f1 1) (pkE S.length f0 f1 5)) (pkE S.length f0 f1 6) (pkE S.length f0 f1 0)) y (pkE S.length f0 f1 4)) (pkE S.length f0 f1 2) my) x (pkE S.length f0 f1 3)) (pkE S.length f0 f1 7) mx)=jnF (jnF (jnF (jnF (jnF (jnF (mt (M ++ List.replicate 8 (0:Int))) (pkE S.length f0 f1 1) (pkE S.length f0 f1 5)) (pkE S.length f0 f1 6) (pkE S.length f0 f1 0)) y (pkE S.length f0 f1 4)) (pkE S.length f0 f1 2) my) x (pkE S.length f0 f1 3)) (pkE S.length f0 f1 7) mx:=by
  rw [mt_jnL (by simp only [jnL_length];rw [hl];first|exact hlt _|omega) (by simp only [jnL_length];rw [hl];first|exact hlt _|omega),mt_jnL (by simp only [jnL_length];rw [hl];first|exact hlt _|omega) (by simp only [jnL_length];rw [hl];first|exact hlt _|omega),mt_jnL (by simp only [jnL_length];rw [hl];first|exact hlt _|omega) (by simp only [jnL_length];rw [hl];first|exact hlt _|omega),mt_jnL (by simp only [jnL_length];rw [hl];first|exact hlt _|omega) (by simp only [jnL_length];rw [hl];first|exact hlt _|omega),mt_jnL (by simp only [jnL_length];rw [hl];first|exact hlt _|omega) (by simp only [jnL_length];rw [hl];first|exact hlt _|omega),mt_jnL (by rw [hl];exact hlt _) (by rw [hl];exact hlt _)]
 rw [hb] at k' ⊢
 clear hb
 generalize hα0:mt (M ++ List.replicate 8 (0:Int))=α0 at *
 generalize pkE S.length f0 f1=e at *
 have nx:∀ i,(e i=x)=False:=fun i=>eq_false (fun w=>by have:=hge i;omega)
 have nx':∀ i,(x=e i)=False:=fun i=>eq_false (fun w=>by have:=hge i;omega)
 have nmx:∀ i,(e i=mx)=False:=fun i=>eq_false (fun w=>by have:=hge i;omega)
 have nmx':∀ i,(mx=e i)=False:=fun i=>eq_false (fun w=>by have:=hge i;omega)
 have ny:∀ i,(e i=y)=False:=fun i=>eq_false (fun w=>by have:=hge i;omega)
 have ny':∀ i,(y=e i)=False:=fun i=>eq_false (fun w=>by have:=hge i;omega)
 have nmy:∀ i,(e i=my)=False:=fun i=>eq_false (fun w=>by have:=hge i;omega)
 have nmy':∀ i,(my=e i)=False:=fun i=>eq_false (fun w=>by have:=hge i;omega)
 have dx1:(x=mx)=False:=eq_false (fun w=>hXn w.symm)
 have dx2:(mx=x)=False:=eq_false hXn
 have dy1:(y=my)=False:=eq_false (fun w=>hYn w.symm)
 have dy2:(my=y)=False:=eq_false hYn
 have hmxy:mx≠y:=fun w=>by
  have h7:=k'.inv (e 4) (by have:=hlt 4;omega)
  subst w
  simp [jnF,E,nx,nx',nmx,nmx',ny,ny',nmy,nmy',dx1,dx2,dy1,dy2] at h7
 have hxmy:x≠my:=fun w=>hmxy (by rw [hmx,w,hYi])
 have hmm:mx≠my:=fun w=>hxy (by rw [<- hXi,w,hYi])
 have d1:(x=y)=False:=eq_false hxy
 have d2:(y=x)=False:=eq_false (fun w=>hxy w.symm)
 have d3:(mx=y)=False:=eq_false hmxy
 have d4:(y=mx)=False:=eq_false (fun w=>hmxy w.symm)
 have d5:(x=my)=False:=eq_false hxmy
 have d6:(my=x)=False:=eq_false (fun w=>hxmy w.symm)
 have d7:(mx=my)=False:=eq_false hmm
 have d8:(my=mx)=False:=eq_false (fun w=>hmm w.symm)
 have key:∀ j,j<4*S.length->∀ i,(j=e i)=False:=fun j hj i=>eq_false (fun w=>by have:=hge i;omega)
 refine ⟨by simp [jnF,E,nx,nx',nmx,nmx',ny,ny',nmy,nmy',dx1,dx2,dy1,dy2,d1,d2,d3,d4,d5,d6,d7,d8],by simp [jnF,E,nx,nx',nmx,nmx',ny,ny',nmy,nmy',dx1,dx2,dy1,dy2,d1,d2,d3,d4,d5,d6,d7,d8],fun j hj=>?_,by simp [lp,clsF,jnF,E,nx,nx',nmx,nmx',ny,ny',nmy,nmy',dx1,dx2,dy1,dy2,d1,d2,d3,d4,d5,d6,d7,d8];try omega⟩
 have kj:=key j hj
 by_cases wx:j=x
 · rw [wx];simp [clsF,jnF,E,nx,nx',nmx,nmx',ny,ny',nmy,nmy',dx1,dx2,dy1,dy2,d1,d2,d3,d4,d5,d6,d7,d8];first|exact hmx|exact hmx.symm|(rw [hmx])
 by_cases wmx:j=mx
 · rw [wmx];simp [clsF,jnF,E,nx,nx',nmx,nmx',ny,ny',nmy,nmy',dx1,dx2,dy1,dy2,d1,d2,d3,d4,d5,d6,d7,d8];first|exact hXi|exact hXi.symm|(rw [hXi])
 by_cases wy:j=y
 · rw [wy];simp [clsF,jnF,E,nx,nx',nmx,nmx',ny,ny',nmy,nmy',dx1,dx2,dy1,dy2,d1,d2,d3,d4,d5,d6,d7,d8];first|exact hmy|exact hmy.symm|(rw [hmy])
 by_cases wmy:j=my
 · rw [wmy];simp [clsF,jnF,E,nx,nx',nmx,nmx',ny,ny',nmy,nmy',dx1,dx2,dy1,dy2,d1,d2,d3,d4,d5,d6,d7,d8];first|exact hYi|exact hYi.symm|(rw [hYi])
 simp [clsF,jnF,E,nx,nx',nmx,nmx',ny,ny',nmy,nmy',dx1,dx2,dy1,dy2,d1,d2,d3,d4,d5,d6,d7,d8,kj,wx,wmx,wy,wmy]
 exact hz j hj
set_option maxHeartbeats 4000000 in
theorem poke_edgeLoop {s0 s1:Int} {f0 f1:Nat} (h0:f0<4) (h1:f1<4) (hp:f0%2=f1%2) {x:Nat} (hx:x<M.length) :
 MvQ S M L (S ++ [s0,s1]) (jnL (jnL (jnL (jnL (jnL (M ++ List.replicate 8 (0:Int)) (pkE S.length f0 f1 1) (pkE S.length f0 f1 5)) (pkE S.length f0 f1 6) (pkE S.length f0 f1 0)) (pkE S.length f0 f1 4) (pkE S.length f0 f1 2)) x (pkE S.length f0 f1 3)) (pkE S.length f0 f1 7) (mt M x)) (L-1):=by
 refine poke_core h0 h1 hp (fun k k'=>?_)
 have hml:=k.m
 have hge:=fun i=>pkE_ge (n:=S.length) (f0:=f0) (f1:=f1) i
 have hlt:∀ i,pkE S.length f0 f1 i<4*S.length+8:=fun i=>by have:=pkE_at (n:=S.length) (f0:=f0) (f1:=f1) i;split at this <;> omega
 have E:=fun i j=>pkE_inj (n:=S.length) h0 h1 i j
 have hl:(M ++ List.replicate 8 (0:Int)).length=4*S.length+8:=by simp;omega
 have hz:∀ j,j<4*S.length->mt (M ++ List.replicate 8 (0:Int)) j=mt M j:=fun j hj=>mt_app (by omega)
 have hxl:x<4*S.length:=by omega
 have hX:=k.lt x hx
 have hXn:=k.ne x hx
 have hXi:=k.inv x hx
 obtain ⟨mx,hmx⟩:∃ z,z=mt M x:=⟨_,rfl⟩
 rw [<- hmx] at hX hXn hXi k' ⊢
 have hmxl:mx<4*S.length:=by omega
 have hb:mt (jnL (jnL (jnL (jnL (jnL (M ++ List.replicate 8 (0:Int)) (pkE S.length f0 f1 1) (pkE S.length f0 f1 5)) (pkE S.length f0 f1 6) (pkE S.length f0 f1 0)) (pkE S.length f0 f1 4) (pkE S.length f0 f1 2)) x (pkE S.length f0 f1 3)) (pkE S.length f0 f1 7) mx)=jnF (jnF (jnF (jnF (jnF (mt (M ++ List.replicate 8 (0:Int))) (pkE S.length f0 f1 1) (pkE S.length f0 f1 5)) (pkE S.length f0 f1 6) (pkE S.length f0 f1 0)) (pkE S.length f0 f1 4) (pkE S.length f0 f1 2)) x (pkE S.length f0 f1 3)) (pkE S.length f0 f1 7) mx:=by
  rw [mt_jnL (by simp only [jnL_length];rw [hl];first|exact hlt _|omega) (by simp only [jnL_length];rw [hl];first|exact hlt _|omega),mt_jnL (by simp only [jnL_length];rw [hl];first|exact hlt _|omega) (by simp only [jnL_length];rw [hl];first|exact hlt _|omega),mt_jnL (by simp only [jnL_length];rw [hl];first|exact hlt _|omega) (by simp only [jnL_length];rw [hl];first|exact hlt _|omega),mt_jnL (by simp only [jnL_length];rw [hl];first|exact hlt _|omega) (by simp only [jnL_length];rw [hl];first|exact hlt _|omega),mt_jnL (by rw [hl];exact hlt _) (by rw [hl];exact hlt _)]
 rw [hb] at k' ⊢
 clear hb
 generalize hα0:mt (M ++ List.replicate 8 (0:Int))=α0 at *
 generalize pkE S.length f0 f1=e at *
 have nx:∀ i,(e i=x)=False:=fun i=>eq_false (fun w=>by have:=hge i;omega)
 have nx':∀ i,(x=e i)=False:=fun i=>eq_false (fun w=>by have:=hge i;omega)
 have nmx:∀ i,(e i=mx)=False:=fun i=>eq_false (fun w=>by have:=hge i;omega)
 have nmx':∀ i,(mx=e i)=False:=fun i=>eq_false (fun w=>by have:=hge i;omega)
 have dx1:(x=mx)=False:=eq_false (fun w=>hXn w.symm)
 have dx2:(mx=x)=False:=eq_false hXn
 have key:∀ j,j<4*S.length->∀ i,(j=e i)=False:=fun j hj i=>eq_false (fun w=>by have:=hge i;omega)
 refine ⟨by simp [jnF,E,nx,nx',nmx,nmx',dx1,dx2],by simp [jnF,E,nx,nx',nmx,nmx',dx1,dx2],fun j hj=>?_,by simp [lp,clsF,jnF,E,nx,nx',nmx,nmx',dx1,dx2];try omega⟩
 have kj:=key j hj
 by_cases wx:j=x
 · rw [wx];simp [clsF,jnF,E,nx,nx',nmx,nmx',dx1,dx2];first|exact hmx|exact hmx.symm|(rw [hmx])
 by_cases wmx:j=mx
 · rw [wmx];simp [clsF,jnF,E,nx,nx',nmx,nmx',dx1,dx2];first|exact hXi|exact hXi.symm|(rw [hXi])
 simp [clsF,jnF,E,nx,nx',nmx,nmx',dx1,dx2,kj,wx,wmx]
 exact hz j hj
set_option maxHeartbeats 4000000 in
theorem poke_loopEdge {s0 s1:Int} {f0 f1:Nat} (h0:f0<4) (h1:f1<4) (hp:f0%2=f1%2) {y:Nat} (hy:y<M.length) :
 MvQ S M L (S ++ [s0,s1]) (jnL (jnL (jnL (jnL (jnL (M ++ List.replicate 8 (0:Int)) (pkE S.length f0 f1 1) (pkE S.length f0 f1 5)) (pkE S.length f0 f1 6) (pkE S.length f0 f1 0)) y (pkE S.length f0 f1 4)) (pkE S.length f0 f1 2) (mt M y)) (pkE S.length f0 f1 3) (pkE S.length f0 f1 7)) (L-1):=by
 refine poke_core h0 h1 hp (fun k k'=>?_)
 have hml:=k.m
 have hge:=fun i=>pkE_ge (n:=S.length) (f0:=f0) (f1:=f1) i
 have hlt:∀ i,pkE S.length f0 f1 i<4*S.length+8:=fun i=>by have:=pkE_at (n:=S.length) (f0:=f0) (f1:=f1) i;split at this <;> omega
 have E:=fun i j=>pkE_inj (n:=S.length) h0 h1 i j
 have hl:(M ++ List.replicate 8 (0:Int)).length=4*S.length+8:=by simp;omega
 have hz:∀ j,j<4*S.length->mt (M ++ List.replicate 8 (0:Int)) j=mt M j:=fun j hj=>mt_app (by omega)
 have hyl:y<4*S.length:=by omega
 have hY:=k.lt y hy
 have hYn:=k.ne y hy
 have hYi:=k.inv y hy
 obtain ⟨my,hmy⟩:∃ z,z=mt M y:=⟨_,rfl⟩
 rw [<- hmy] at hY hYn hYi k' ⊢
 have hmyl:my<4*S.length:=by omega
 have hb:mt (jnL (jnL (jnL (jnL (jnL (M ++ List.replicate 8 (0:Int)) (pkE S.length f0 f1 1) (pkE S.length f0 f1 5)) (pkE S.length f0 f1 6) (pkE S.length f0 f1 0)) y (pkE S.length f0 f1 4)) (pkE S.length f0 f1 2) my) (pkE S.length f0 f1 3) (pkE S.length f0 f1 7))=jnF (jnF (jnF (jnF (jnF (mt (M ++ List.replicate 8 (0:Int))) (pkE S.length f0 f1 1) (pkE S.length f0 f1 5)) (pkE S.length f0 f1 6) (pkE S.length f0 f1 0)) y (pkE S.length f0 f1 4)) (pkE S.length f0 f1 2) my) (pkE S.length f0 f1 3) (pkE S.length f0 f1 7):=by
  rw [mt_jnL (by simp only [jnL_length];rw [hl];first|exact hlt _|omega) (by simp only [jnL_length];rw [hl];first|exact hlt _|omega),mt_jnL (by simp only [jnL_length];rw [hl];first|exact hlt _|omega) (by simp only [jnL_length];rw [hl];first|exact hlt _|omega),mt_jnL (by simp only [jnL_length];rw [hl];first|exact hlt _|omega) (by simp only [jnL_length];rw [hl];first|exact hlt _|omega),mt_jnL (by simp only [jnL_length];rw [hl];first|exact hlt _|omega) (by simp only [jnL_length];rw [hl];first|exact hlt _|omega),mt_jnL (by rw [hl];exact hlt _) (by rw [hl];exact hlt _)]
 rw [hb] at k' ⊢
 clear hb
 generalize hα0:mt (M ++ List.replicate 8 (0:Int))=α0 at *
 generalize pkE S.length f0 f1=e at *
 have ny:∀ i,(e i=y)=False:=fun i=>eq_false (fun w=>by have:=hge i;omega)
 have ny':∀ i,(y=e i)=False:=fun i=>eq_false (fun w=>by have:=hge i;omega)
 have nmy:∀ i,(e i=my)=False:=fun i=>eq_false (fun w=>by have:=hge i;omega)
 have nmy':∀ i,(my=e i)=False:=fun i=>eq_false (fun w=>by have:=hge i;omega)
 have dy1:(y=my)=False:=eq_false (fun w=>hYn w.symm)
 have dy2:(my=y)=False:=eq_false hYn
 have key:∀ j,j<4*S.length->∀ i,(j=e i)=False:=fun j hj i=>eq_false (fun w=>by have:=hge i;omega)
 refine ⟨by simp [jnF,E,ny,ny',nmy,nmy',dy1,dy2],by simp [jnF,E,ny,ny',nmy,nmy',dy1,dy2],fun j hj=>?_,by simp [lp,clsF,jnF,E,ny,ny',nmy,nmy',dy1,dy2];try omega⟩
 have kj:=key j hj
 by_cases wy:j=y
 · rw [wy];simp [clsF,jnF,E,ny,ny',nmy,nmy',dy1,dy2];first|exact hmy|exact hmy.symm|(rw [hmy])
 by_cases wmy:j=my
 · rw [wmy];simp [clsF,jnF,E,ny,ny',nmy,nmy',dy1,dy2];first|exact hYi|exact hYi.symm|(rw [hYi])
 simp [clsF,jnF,E,ny,ny',nmy,nmy',dy1,dy2,kj,wy,wmy]
 exact hz j hj
set_option maxHeartbeats 4000000 in
theorem poke_loopLoop {s0 s1:Int} {f0 f1:Nat} (h0:f0<4) (h1:f1<4) (hp:f0%2=f1%2) :
 MvQ S M L (S ++ [s0,s1]) (jnL (jnL (jnL (jnL (M ++ List.replicate 8 (0:Int)) (pkE S.length f0 f1 1) (pkE S.length f0 f1 5)) (pkE S.length f0 f1 6) (pkE S.length f0 f1 0)) (pkE S.length f0 f1 4) (pkE S.length f0 f1 2)) (pkE S.length f0 f1 3) (pkE S.length f0 f1 7)) (L-1-1):=by
 refine poke_core h0 h1 hp (fun k k'=>?_)
 have hml:=k.m
 have hge:=fun i=>pkE_ge (n:=S.length) (f0:=f0) (f1:=f1) i
 have hlt:∀ i,pkE S.length f0 f1 i<4*S.length+8:=fun i=>by have:=pkE_at (n:=S.length) (f0:=f0) (f1:=f1) i;split at this <;> omega
 have E:=fun i j=>pkE_inj (n:=S.length) h0 h1 i j
 have hl:(M ++ List.replicate 8 (0:Int)).length=4*S.length+8:=by simp;omega
 have hz:∀ j,j<4*S.length->mt (M ++ List.replicate 8 (0:Int)) j=mt M j:=fun j hj=>mt_app (by omega)
 have hb:mt (jnL (jnL (jnL (jnL (M ++ List.replicate 8 (0:Int)) (pkE S.length f0 f1 1) (pkE S.length f0 f1 5)) (pkE S.length f0 f1 6) (pkE S.length f0 f1 0)) (pkE S.length f0 f1 4) (pkE S.length f0 f1 2)) (pkE S.length f0 f1 3) (pkE S.length f0 f1 7))=jnF (jnF (jnF (jnF (mt (M ++ List.replicate 8 (0:Int))) (pkE S.length f0 f1 1) (pkE S.length f0 f1 5)) (pkE S.length f0 f1 6) (pkE S.length f0 f1 0)) (pkE S.length f0 f1 4) (pkE S.length f0 f1 2)) (pkE S.length f0 f1 3) (pkE S.length f0 f1 7):=by
  rw [mt_jnL (by simp only [jnL_length];rw [hl];first|exact hlt _|omega) (by simp only [jnL_length];rw [hl];first|exact hlt _|omega),mt_jnL (by simp only [jnL_length];rw [hl];first|exact hlt _|omega) (by simp only [jnL_length];rw [hl];first|exact hlt _|omega),mt_jnL (by simp only [jnL_length];rw [hl];first|exact hlt _|omega) (by simp only [jnL_length];rw [hl];first|exact hlt _|omega),mt_jnL (by rw [hl];exact hlt _) (by rw [hl];exact hlt _)]
 rw [hb] at k' ⊢
 clear hb
 generalize hα0:mt (M ++ List.replicate 8 (0:Int))=α0 at *
 generalize pkE S.length f0 f1=e at *
 have key:∀ j,j<4*S.length->∀ i,(j=e i)=False:=fun j hj i=>eq_false (fun w=>by have:=hge i;omega)
 refine ⟨by simp [jnF,E],by simp [jnF,E],fun j hj=>?_,by simp [lp,clsF,jnF,E];try omega⟩
 have kj:=key j hj
 simp [clsF,jnF,E,kj]
 exact hz j hj
end
end Go.Proofs.Ytfnmeigpfmeomaa
