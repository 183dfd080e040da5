/- moves.raised. -/
import Derived.Test.YtfnmeigpfmeomaaZfKmi
import Derived.BigRegion
import Derived.Deep.DeepCutAuto
import Derived.StillTailTactics
import Derived.Test.YtfnmeigpfmeomaaZfUpk
import Derived.Test.YtfnmeigpfmeomaaZfPkb
namespace Go.Proofs.Ytfnmeigpfmeomaa
open Go.RowKit
set_option linter.unusedVariables false
def Rb4 (w W:World) (d m:List Value):Prop:=Arr W w.heap.size 24 d/\Arr W (w.heap.size+1) 26 m/\Arr W (w.heap.size+2) 24 [.slice none 0 0,.slice none 0 0,.int .i64 0]/\Arr W (w.heap.size+3) 61 [.int .i64 0,.int .i64 0]/\Below w.heap.size w W
section
variable {w W W2:World} {d m:List Value}
theorem Rb4.start (W:World) (vs vm:Value) (L kd X Y sg:Int) (ov:Bool) (w:World) (hW:W=((((w.alloc (.cells #[vs,vm,.int .i64 L] 24)).alloc (.cells #[.int .i64 kd,.int .i64 X,.int .i64 Y,.int .i64 sg,.bool ov] 26)).alloc (.cells #[.slice none 0 0,.slice none 0 0,.int .i64 0] 24)).alloc (.cells #[.int .i64 0,.int .i64 0] 61))) :
 Rb4 w W [vs,vm,.int .i64 L] [.int .i64 kd,.int .i64 X,.int .i64 Y,.int .i64 sg,.bool ov]:=by
 subst hW
 exact ⟨(((Arr.new _ _ [_,_,_]).alloc _).alloc _).alloc _,((Arr.newAt (w.alloc _) _ [_,_,_,_,_] _ (by simp)).alloc _).alloc _,(Arr.newAt ((w.alloc _).alloc _) _ [_,_,_] _ (by simp)).alloc _,Arr.newAt (((w.alloc _).alloc _).alloc _) _ [_,_] _ (by simp),((((Below.refl _ _).alloc (Nat.le_refl _) _).alloc (by simp) _).alloc (by simp <;> omega) _).alloc (by simp <;> omega) _⟩
theorem Rb4.lt (h:Rb4 w W d m):w.heap.size+4<=W.heap.size:=by
 have:=h.2.2.2.1.lt;omega
theorem Rb4.below {B:Nat} (h:Rb4 w W d m) (hb:Below B W W2) (hB:w.heap.size+4<=B):Rb4 w W2 d m :=
 ⟨h.1.below hb (by omega),h.2.1.below hb (by omega),h.2.2.1.below hb (by omega),h.2.2.2.1.below hb (by omega),h.2.2.2.2.trans (hb.mono (by omega))⟩
theorem Rb4.drew (h:Rb4 w W d m):Rb4 w W.drew d m:=⟨h.1,h.2.1,h.2.2.1,h.2.2.2.1,h.2.2.2.2.drew⟩
theorem Rb4.drewN (h:Rb4 w W d m) (n:Nat):Rb4 w (W.drewN n) d m:=⟨h.1,h.2.1,h.2.2.1,h.2.2.2.1,bdrewN h.2.2.2.2 n⟩
theorem Rb4.set (h:Rb4 w W d m) {g i:Nat} {v:Value} (hg:w.heap.size+4<=g):Rb4 w (W.setCell ⟨g,i,none⟩ v) d m :=
 ⟨h.1.far (p:=⟨g,i,none⟩) (by simp;omega) v,h.2.1.far (p:=⟨g,i,none⟩) (by simp;omega) v,h.2.2.1.far (p:=⟨g,i,none⟩) (by simp;omega) v,h.2.2.2.1.far (p:=⟨g,i,none⟩) (by simp;omega) v,h.2.2.2.2.setCell (p:=⟨g,i,none⟩) (by simp;omega) v⟩
end
theorem results_cc {P:Program} {fn:Func} {p q:Tmp} {ty ty2:TypeId} (h:fn.results=#[.cell p ty,.cell q ty2]) (tmps:Array Value) (w:World) (g g2:Nat) (t t2:TypeId) (cs cs2:List Value) (d d2:TypeDesc)
 (hp:tmps.getD p undef=.pointer (some ⟨g,0,none⟩)) (hg:Arr w g t cs) (hq:tmps.getD q undef=.pointer (some ⟨g2,0,none⟩)) (hg2:Arr w g2 t2 cs2)
 (hu:P.underlying ty=some d) (hd:(match d with | .struct _ | .array _ _=>true|_=>false)=true) (hi:(P.info? ty).map (·.size)=some (rowOf cs).size)
 (hu2:P.underlying ty2=some d2) (hd2:(match d2 with | .struct _ | .array _ _=>true|_=>false)=true) (hi2:(P.info? ty2).map (·.size)=some (rowOf cs2).size) :
 (results fn tmps).run P w=.ok (.tuple #[.agg (rowOf cs),.agg (rowOf cs2)]) w:=by
 have hp':tmps[p]?.getD undef=.pointer (some ⟨g,0,none⟩):=by simpa using hp
 have hq':tmps[q]?.getD undef=.pointer (some ⟨g2,0,none⟩):=by simpa using hq
 simp only [results,h]
 simp [hp',hq',Result.andThen,asAddr,run_loadVar_row w g t ty (rowOf cs) (0,0) d hg hu hd hi,run_loadVar_row w g2 t2 ty2 (rowOf cs2) (0,0) d2 hg2 hu2 hd2 hi2]
theorem info_two:(Try.prog.info? 61).map (·.size)=some 2:=by kernel_rfl
def R1A (r:Nat) (S2 M2:List Int) (L2:Int) (p:Bool) (W:World):Prop:=if p=true then ∃ v1 v2,Arr W r 24 [v1,v2,.int .i64 L2]/\OwnI 3 (r+2) W v1 S2/\OwnI 3 (r+2) W v2 M2/\(∀ k,v1.ownBlock=some k->v2.ownBlock≠some k) else Arr W r 24 [.slice none 0 0,.slice none 0 0,.int .i64 0]
def R2A (r:Nat) (f0 f1:Nat) (q:Bool) (W:World):Prop:=if q=true then Arr W (r+1) 61 [.int .i64 (f0:Nat),.int .i64 (f1:Nat)] else Arr W (r+1) 61 [.int .i64 0,.int .i64 0]
def RaK (w:World) (g10 g8:Nat) (dd:List Value) (t0 t1:Int) (f0 f1:Nat) (S2 M2:List Int) (L2:Int) (p q:Bool) (W:World):Prop :=
 Arr W w.heap.size 24 dd/\Arr W g10 61 [.int .i64 t0,.int .i64 t1]/\Arr W g8 61 [.int .i64 (f0:Nat),.int .i64 (f1:Nat)]/\R1A (w.heap.size+2) S2 M2 L2 p W/\R2A (w.heap.size+2) f0 f1 q W/\Below w.heap.size w W
section
variable {w W W':World} {g10 g8:Nat} {dd:List Value} {t0 t1:Int} {f0 f1:Nat} {S2 M2:List Int} {L2:Int} {p q:Bool}
theorem R1A.grow {r:Nat} (h:R1A r S2 M2 L2 p W) (hb:Below W.heap.size W W'):R1A r S2 M2 L2 p W':=by
 cases p with
 | true =>
  obtain ⟨v1,v2,a,b,c,d⟩:=h
  exact ⟨v1,v2,a.below hb a.lt,b.below hb (Nat.le_refl _),c.below hb (Nat.le_refl _),d⟩
 | false=>exact Arr.below (show Arr W r 24 _ from h) hb (show Arr W r 24 _ from h).lt
theorem R2A.grow {r:Nat} (h:R2A r f0 f1 q W) (hb:Below W.heap.size W W'):R2A r f0 f1 q W':=by
 cases q with
 | true=>exact Arr.below (show Arr W (r+1) 61 _ from h) hb (show Arr W (r+1) 61 _ from h).lt
 | false=>exact Arr.below (show Arr W (r+1) 61 _ from h) hb (show Arr W (r+1) 61 _ from h).lt
theorem RaK.grow (h:RaK w g10 g8 dd t0 t1 f0 f1 S2 M2 L2 p q W) (hb:Below W.heap.size W W'):RaK w g10 g8 dd t0 t1 f0 f1 S2 M2 L2 p q W' :=
 ⟨h.1.below hb h.1.lt,h.2.1.below hb h.2.1.lt,h.2.2.1.below hb h.2.2.1.lt,h.2.2.2.1.grow hb,h.2.2.2.2.1.grow hb,h.2.2.2.2.2.trans (hb.mono h.2.2.2.2.2.size)⟩
theorem RaK.store1 (h:RaK w g10 g8 dd t0 t1 f0 f1 S2 M2 L2 false q W) (hg:w.heap.size+4<=g10) (hg8:w.heap.size+4<=g8) {v1 v2:Value} (o1:OwnI 3 (w.heap.size+4) W v1 S2) (o2:OwnI 3 (w.heap.size+4) W v2 M2) (o3:∀ k,v1.ownBlock=some k->v2.ownBlock≠some k) :
 EvR (w.heap.size+2) W (((W.setCell ⟨w.heap.size+2,0,none⟩ v1).setCell ⟨w.heap.size+2,1,none⟩ v2).setCell ⟨w.heap.size+2,2,none⟩ (.int .i64 L2))/\RaK w g10 g8 dd t0 t1 f0 f1 S2 M2 L2 true q (((W.setCell ⟨w.heap.size+2,0,none⟩ v1).setCell ⟨w.heap.size+2,1,none⟩ v2).setCell ⟨w.heap.size+2,2,none⟩ (.int .i64 L2)):=by
 have n1:v1.ownBlock≠some (w.heap.size+2):=fun e=>by have:=o1.block _ e;omega
 have n2:v2.ownBlock≠some (w.heap.size+2):=fun e=>by have:=o2.block _ e;omega
 have f3:∀ {b:Nat} {t:TypeId} {cs:List Value},Arr W b t cs->b≠w.heap.size+2->Arr (((W.setCell ⟨w.heap.size+2,0,none⟩ v1).setCell ⟨w.heap.size+2,1,none⟩ v2).setCell ⟨w.heap.size+2,2,none⟩ (.int .i64 L2)) b t cs:=fun k hb =>
  ((k.far (p:=⟨w.heap.size+2,0,none⟩) hb _).far (p:=⟨w.heap.size+2,1,none⟩) hb _).far (p:=⟨w.heap.size+2,2,none⟩) hb _
 have hr:Arr W (w.heap.size+2) 24 [.slice none 0 0,.slice none 0 0,.int .i64 0]:=h.2.2.2.1
 refine ⟨fun k hk h1 h2=>?_,f3 h.1 (by omega),f3 h.2.1 (by omega),f3 h.2.2.1 (by omega),⟨v1,v2,((hr.set 0 _).set 1 _).set 2 _,((o1.far n1 _).far n1 _).far n1 _,((o2.far n2 _).far n2 _).far n2 _,o3⟩,?_,((h.2.2.2.2.2.setCell (p:=⟨w.heap.size+2,0,none⟩) (by simp) _).setCell (p:=⟨w.heap.size+2,1,none⟩) (by simp) _).setCell (p:=⟨w.heap.size+2,2,none⟩) (by simp) _⟩
 · rw [Below.heap_setCell _ ⟨w.heap.size+2,2,none⟩ _ k h1,Below.heap_setCell _ ⟨w.heap.size+2,1,none⟩ _ k h1,Below.heap_setCell _ ⟨w.heap.size+2,0,none⟩ _ k h1]
 · have h6:=h.2.2.2.2.1
   cases q with
   | true=>exact f3 (show Arr W (w.heap.size+2+1) 61 _ from h6) (by omega)
   | false=>exact f3 (show Arr W (w.heap.size+2+1) 61 _ from h6) (by omega)
theorem RaK.store2 (h:RaK w g10 g8 dd t0 t1 f0 f1 S2 M2 L2 p false W) (hg:w.heap.size+4<=g10) (hg8:w.heap.size+4<=g8) :
 EvR (w.heap.size+2) W ((W.setCell ⟨w.heap.size+3,0,none⟩ (.int .i64 (f0:Nat))).setCell ⟨w.heap.size+3,1,none⟩ (.int .i64 (f1:Nat)))/\RaK w g10 g8 dd t0 t1 f0 f1 S2 M2 L2 p true ((W.setCell ⟨w.heap.size+3,0,none⟩ (.int .i64 (f0:Nat))).setCell ⟨w.heap.size+3,1,none⟩ (.int .i64 (f1:Nat))):=by
 have f3:∀ {bl:Nat} {t:TypeId} {cs:List Value},Arr W bl t cs->bl≠w.heap.size+3->Arr ((W.setCell ⟨w.heap.size+3,0,none⟩ (.int .i64 (f0:Nat))).setCell ⟨w.heap.size+3,1,none⟩ (.int .i64 (f1:Nat))) bl t cs:=fun k hb =>
  (k.far (p:=⟨w.heap.size+3,0,none⟩) hb _).far (p:=⟨w.heap.size+3,1,none⟩) hb _
 have g3:∀ {v:Value} {xs:List Int} {base:Nat},OwnI 3 base W v xs->v.ownBlock≠some (w.heap.size+3)->OwnI 3 base ((W.setCell ⟨w.heap.size+3,0,none⟩ (.int .i64 (f0:Nat))).setCell ⟨w.heap.size+3,1,none⟩ (.int .i64 (f1:Nat))) v xs:=fun k hb=>(k.far hb _).far hb _
 have hr:Arr W (w.heap.size+3) 61 [.int .i64 0,.int .i64 0]:=h.2.2.2.2.1
 refine ⟨fun k hk h1 h2=>?_,f3 h.1 (by omega),f3 h.2.1 (by omega),f3 h.2.2.1 (by omega),?_,((hr.set 0 _).set 1 _),(h.2.2.2.2.2.setCell (p:=⟨w.heap.size+3,0,none⟩) (by simp) _).setCell (p:=⟨w.heap.size+3,1,none⟩) (by simp) _⟩
 · have h2':k≠w.heap.size+3:=h2
   rw [Below.heap_setCell _ ⟨w.heap.size+3,1,none⟩ _ k h2',Below.heap_setCell _ ⟨w.heap.size+3,0,none⟩ _ k h2']
 · have h5:=h.2.2.2.1
   cases p with
   | true =>
    obtain ⟨v1,v2,k,o1,o2,o3⟩:=h5
    exact ⟨v1,v2,f3 k (by omega),g3 o1 (fun e=>by have:=o1.block _ e;omega),g3 o2 (fun e=>by have:=o2.block _ e;omega),o3⟩
   | false=>exact f3 (show Arr W (w.heap.size+2) 24 _ from h5) (by omega)
end
set_option maxHeartbeats 8000000 in
set_option maxRecDepth 100000 in
theorem raised_any (vs vm:Value) (S M:List Int) (L kd X Y sg:Int) (ov:Bool) (w:World) (hS:Ints w vs S) (hM:Ints w vm M) (hX:X<4*(S.length:Int)) (hY:Y<4*(S.length:Int)) (hn:S.length<=100) (hlm:M.length<=1000) :
 Calls Try.prog 33 #[.agg #[vs,vm,.int .i64 L],.agg #[.int .i64 kd,.int .i64 X,.int .i64 Y,.int .i64 sg,.bool ov]] w fun e w'=>∃ (v1 v2:Value) (s0 s1:Int) (f0 f1:Nat),e=.returned (.tuple #[.agg #[v1,v2,.int .i64 L],.agg #[.int .i64 (f0:Nat),.int .i64 (f1:Nat)]])/\f0<4/\f1<4/\f0%2=f1%2/\OwnI 3 w.heap.size w' v1 (S ++ [s0,s1])/\OwnI 3 w.heap.size w' v2 (M ++ List.replicate 8 (0:Int))/\(∀ k,v1.ownBlock=some k->v2.ownBlock≠some k)/\Below w.heap.size w w':=by
 have HFX:=Lib.hid (fun W (hb:Below w.heap.size w W)=>forward_any vs vm S M L X W (hS.below hb) (hM.below hb) hX (by omega))
 have HFY:=Lib.hid (fun W (hb:Below w.heap.size w W)=>forward_any vs vm S M L Y W (hS.below hb) (hM.below hb) hY (by omega))
 have HGR:=Lib.hid (fun W (hb:Below w.heap.size w W) vk K (hK:Ints W vk K) (hl:K.length<=100)=>grown_any vs vm vk S M K L W (hS.below hb) (hM.below hb) hK (by omega) hlm hl)
 have HPL:=Lib.hid (fun (a b:Nat) (W:World) (ha:a<4) (hb:b<4)=>place_any 0 a b W (by omega) ha hb)
 obtain ⟨A,cs,rfl,hcs,hx'⟩:=hS
 obtain ⟨A2,c2,rfl,hc2,hx2⟩:=hM
 clear hx' hx2 hX hY
 go_enter Try.func33,Try.ntmps33
 go_upto_region 1 with fail
 have hW:=Rb4.start ((((w.alloc (.cells #[.slice A S.length cs,.slice A2 M.length c2,.int .i64 L] 24)).alloc (.cells #[.int .i64 kd,.int .i64 X,.int .i64 Y,.int .i64 sg,.bool ov] 26)).alloc (.cells #[.slice none 0 0,.slice none 0 0,.int .i64 0] 24)).alloc (.cells #[.int .i64 0,.int .i64 0] 61)) _ _ L kd X Y sg ov w rfl
 generalize ((((w.alloc (.cells #[.slice A S.length cs,.slice A2 M.length c2,.int .i64 L] 24)).alloc (.cells #[.int .i64 kd,.int .i64 X,.int .i64 Y,.int .i64 sg,.bool ov] 26)).alloc (.cells #[.slice none 0 0,.slice none 0 0,.int .i64 0] 24)).alloc (.cells #[.int .i64 0,.int .i64 0] 61))=w4 at hW ⊢
 have HW:=Lib.hid hW
 clear hW
 obtain ⟨w5,hw5⟩:∃ W,W=w4.alloc (.cells #[.int .i64 0,.int .i64 0] 61):=⟨_,rfl⟩
 have hb5:Below w4.heap.size w4 w5:=by rw [hw5];exact (Below.refl _ _).alloc (Nat.le_refl _) _
 have HB6:Hid (Arr w5 w4.heap.size 61 [.int .i64 (0:Nat),.int .i64 (0:Nat)]):=by rw [hw5];exact Lib.hid (Arr.new _ _ [_,_])
 go_upto_region 2 with fail
 rw [<- hw5]
 clear hw5
 have HW5:=Lib.hid (HW.out.below hb5 HW.out.lt)
 have HG6:=Lib.hid HW.out.lt
 clear HW hb5
 generalize w4.heap.size=g6 at *
 have y0:=HW5.out.1.cell 0
 have y1:=HW5.out.1.cell 1
 have y2:=HW5.out.1.cell 2
 have m2:=HW5.out.2.1.cell 2
 go_upto_if 17 with (go_at_call 58;refine (HFY.out _ HW5.out.2.2.2.2).mono ?_;rintro e w6 ⟨⟨o1,rfl⟩,hb6⟩)
 have HW6:=Lib.hid (HW5.out.below hb6 HW5.out.lt)
 have HB7:=Lib.hid (HB6.out.below hb6 (HB6.out.lt))
 clear y0 y1 y2 m2 hb6 HW5 HB6 HFY
 go_cut [] (fun wx=>Rb4 w wx [.slice A S.length cs,.slice A2 M.length c2,.int .i64 L] [.int .i64 kd,.int .i64 X,.int .i64 Y,.int .i64 sg,.bool ov]/\∃ a:Nat,a<4/\a%2=0/\Arr wx g6 61 [.int .i64 (a:Nat),.int .i64 (a:Nat)])
 case first =>
  have c0:=HB7.out.cell 0
  have c1:=HB7.out.cell 1
  have f0:=HB7.out.frozen 0
  have f1:=HB7.out.frozen 1
  have HR:=Lib.hid ((HB7.out.set 0 (.int .i64 2)).set 1 (.int .i64 2))
  have HQ:=Lib.hid ((HW6.out.set (i:=0) (v:=.int .i64 2) HG6.out).set (i:=1) (v:=.int .i64 2) HG6.out)
  cases o1
  · go_wp2_with fail
    go_meet
    exact ⟨HQ.out,2,by omega,by omega,HR.out⟩
  · go_wp2_with fail
    go_meet
    exact ⟨HW6.out,0,by omega,by omega,HB7.out⟩
 case rest =>
  obtain ⟨hw6,a,ha,ha2,hba⟩:=hcut
  have HWA:=Lib.hid hw6
  have HBA:=Lib.hid hba
  have HA:=Lib.hid (And.intro ha ha2)
  clear hw6 ha ha2 hba HB7 HW6 o1
  obtain ⟨w7,hw7⟩:∃ W,W=wc.alloc (.cells #[.int .i64 3,.int .i64 1] 61):=⟨_,rfl⟩
  have hb7:Below wc.heap.size wc w7:=by rw [hw7];exact (Below.refl _ _).alloc (Nat.le_refl _) _
  have HB7:Hid (Arr w7 wc.heap.size 61 [.int .i64 (3:Nat),.int .i64 (1:Nat)]):=by rw [hw7];exact Lib.hid (Arr.new _ _ [_,_])
  go_upto_region 5 with fail
  rw [<- hw7]
  clear hw7
  have HW7:=Lib.hid (HWA.out.below hb7 HWA.out.lt)
  have HBA7:=Lib.hid (HBA.out.below hb7 HBA.out.lt)
  have HG7:=Lib.hid HWA.out.lt
  have HG67:=Lib.hid (show g6≠wc.heap.size from fun e=>by have:=HBA.out.lt;omega)
  clear HWA HBA hb7
  generalize wc.heap.size=g7 at *
  have y0:=HW7.out.1.cell 0
  have y1:=HW7.out.1.cell 1
  have y2:=HW7.out.1.cell 2
  have m1:=HW7.out.2.1.cell 1
  go_upto_if 24 with (go_at_call 58;refine (HFX.out _ HW7.out.2.2.2.2).mono ?_;rintro e w8 ⟨⟨o2,rfl⟩,hb8⟩)
  have HW8:=Lib.hid (HW7.out.below hb8 HW7.out.lt)
  have HB8:=Lib.hid (HB7.out.below hb8 (HB7.out.lt))
  have HBA8:=Lib.hid (HBA7.out.below hb8 (HBA7.out.lt))
  clear y0 y1 y2 m1 hb8 HW7 HB7 HBA7 HFX
  go_cut [] (fun wx=>Rb4 w wx [.slice A S.length cs,.slice A2 M.length c2,.int .i64 L] [.int .i64 kd,.int .i64 X,.int .i64 Y,.int .i64 sg,.bool ov]/\Arr wx g6 61 [.int .i64 (a:Nat),.int .i64 (a:Nat)]/\∃ b c:Nat,b<4/\c<4/\b%2=1/\c%2=1/\Arr wx g7 61 [.int .i64 (b:Nat),.int .i64 (c:Nat)])
  case first =>
   have c0:=HB8.out.cell 0
   have c1:=HB8.out.cell 1
   have f0:=HB8.out.frozen 0
   have f1:=HB8.out.frozen 1
   have HR:=Lib.hid ((HB8.out.set 0 (.int .i64 1)).set 1 (.int .i64 3))
   have HQ:=Lib.hid ((HW8.out.set (i:=0) (v:=.int .i64 1) HG7.out).set (i:=1) (v:=.int .i64 3) HG7.out)
   have HT:=Lib.hid ((HBA8.out.far (p:=⟨g7,0,none⟩) HG67.out (.int .i64 1)).far (p:=⟨g7,1,none⟩) HG67.out (.int .i64 3))
   cases o2
   · go_wp2_with fail
     go_meet
     exact ⟨HQ.out,HT.out,1,3,by omega,by omega,by omega,by omega,HR.out⟩
   · go_wp2_with fail
     go_meet
     exact ⟨HW8.out,HBA8.out,3,1,by omega,by omega,by omega,by omega,HB8.out⟩
  case rest =>
   obtain ⟨hw8,hba,b,c,hb,hc,hbc,hcc,hbb⟩:=hcut
   have HW:=Lib.hid hw8
   have HA6:=Lib.hid hba
   have HA7:=Lib.hid hbb
   have HBC:=Lib.hid (show b<4/\c<4/\b%2=1/\c%2=1 from ⟨hb,hc,hbc,hcc⟩)
   clear hw8 hba hb hc hbc hcc hbb HB8 HW8 HBA8 o2
   go_upto_region 7 with fail
   go_cut [8,9] (fun s8 s9 wx=>Rb4 w wx [.slice A S.length cs,.slice A2 M.length c2,.int .i64 L] [.int .i64 kd,.int .i64 X,.int .i64 Y,.int .i64 sg,.bool ov]/\∃ g8 g9:Nat,s8=.pointer (some ⟨g8,0,none⟩)/\s9=.pointer (some ⟨g9,0,none⟩)/\w.heap.size+4<=g8/\w.heap.size+4<=g9/\g8≠g9/\g6≠g8/\g6≠g9/\g7≠g8/\g7≠g9/\Arr wx g6 61 [.int .i64 (a:Nat),.int .i64 (a:Nat)]/\Arr wx g7 61 [.int .i64 (b:Nat),.int .i64 (c:Nat)]/\Arr wx g8 61 [.int .i64 (b:Nat),.int .i64 (c:Nat)]/\Arr wx g9 61 [.int .i64 (a:Nat),.int .i64 (a:Nat)])
   case first =>
    have c0:=HA6.out.cell 0
    have c1:=HA6.out.cell 1
    have d0:=HA7.out.cell 0
    have d1:=HA7.out.cell 1
    have l6:=HA6.out.lt
    have l7:=HA7.out.lt
    have n6:wc.heap.size≠g6:=by omega
    have n7:wc.heap.size≠g7:=by omega
    have n6':wc.heap.size+1≠g6:=by omega
    have n7':wc.heap.size+1≠g7:=by omega
    have l6':g6≠wc.heap.size:=by omega
    have l7':g7≠wc.heap.size:=by omega
    have HNN:=Lib.hid (show g6≠wc.heap.size/\g6≠wc.heap.size+1/\g7≠wc.heap.size/\g7≠wc.heap.size+1 from ⟨l6',Ne.symm n6',l7',Ne.symm n7'⟩)
    have HAA:=Lib.hid (fun (p q:List Value) (k:Nat) (t:TypeId) (cs:List Value) (h:Arr wc k t cs)=>show Arr ((wc.alloc (.cells (rowOf p) 61)).alloc (.cells (rowOf q) 61)) k t cs from (h.alloc _).alloc _)
    have HAB:=Lib.hid (fun (p q:List Value)=>show Arr ((wc.alloc (.cells (rowOf p) 61)).alloc (.cells (rowOf q) 61)) wc.heap.size 61 p from (Arr.new wc _ p).alloc _)
    have HAC:=Lib.hid (fun (p q:List Value)=>show Arr ((wc.alloc (.cells (rowOf p) 61)).alloc (.cells (rowOf q) 61)) (wc.heap.size+1) 61 q from Arr.newAt (wc.alloc _) _ q _ (by simp))
    have HAD:=Lib.hid (fun (p q:List Value)=>show Rb4 w ((wc.alloc (.cells (rowOf p) 61)).alloc (.cells (rowOf q) 61)) [.slice A S.length cs,.slice A2 M.length c2,.int .i64 L] [.int .i64 kd,.int .i64 X,.int .i64 Y,.int .i64 sg,.bool ov] from HW.out.below (((Below.refl wc.heap.size wc).alloc (Nat.le_refl _) _).alloc (by simp) _) HW.out.lt)
    have HLT:=Lib.hid HW.out.lt
    clear n6 n7 n6' n7' l6' l7' 
    go_region
    · go_wp2_with fail
      go_meet
      exact ⟨(HAD.out [_,_] [_,_]).drew,_,_,rfl,rfl,HLT.out,Nat.le_succ_of_le HLT.out,by omega,HNN.out.1,HNN.out.2.1,HNN.out.2.2.1,HNN.out.2.2.2,HAA.out [_,_] [_,_] _ _ _ HA6.out,HAA.out [_,_] [_,_] _ _ _ HA7.out,HAB.out [_,_] [_,_],HAC.out [_,_] [_,_]⟩
    · go_wp2_with fail
      go_meet
      exact ⟨(HAD.out [_,_] [_,_]).drew,_,_,rfl,rfl,Nat.le_succ_of_le HLT.out,HLT.out,by omega,HNN.out.2.1,HNN.out.1,HNN.out.2.2.2,HNN.out.2.2.1,HAA.out [_,_] [_,_] _ _ _ HA6.out,HAA.out [_,_] [_,_] _ _ _ HA7.out,HAC.out [_,_] [_,_],HAB.out [_,_] [_,_]⟩
   case rest =>
    obtain ⟨hw,g8,g9,rfl,rfl,h8,h9,h89,h68,h69,h78,h79,ha6,ha7,ha8,ha9⟩:=hcut
    have m4:=hw.2.1.cell 4
    have HW9:=Lib.hid hw
    have HA8:=Lib.hid ha8
    have HA9:=Lib.hid ha9
    have HC6:=Lib.hid ha6
    have HC7:=Lib.hid ha7
    have HG8:=Lib.hid h8
    have HG9:=Lib.hid h9
    have HNE:=Lib.hid (show g8≠g9/\g6≠g8/\g6≠g9/\g7≠g8/\g7≠g9 from ⟨h89,h68,h69,h78,h79⟩)
    clear hw ha8 ha9 ha6 ha7 h8 h9 h89 h68 h69 h78 h79 HW HA6 HA7
    go_upto_if 29 with fail
    clear m4
    go_cut [] (fun wx=>Rb4 w wx [.slice A S.length cs,.slice A2 M.length c2,.int .i64 L] [.int .i64 kd,.int .i64 X,.int .i64 Y,.int .i64 sg,.bool ov]/\∃ p q r s:Nat,p<4/\q<4/\r<4/\s<4/\p%2=q%2/\Arr wx g8 61 [.int .i64 (p:Nat),.int .i64 (q:Nat)]/\Arr wx g9 61 [.int .i64 (r:Nat),.int .i64 (s:Nat)])
    case first =>
     cases ov
     · go_wp2_with fail
       go_meet
       exact ⟨HW9.out,b,c,a,a,HBC.out.1,HBC.out.2.1,HA.out.1,HA.out.1,by have:=HBC.out;omega,HA8.out,HA9.out⟩
     · have c0:=HC6.out.cell 0
       have c1:=HC6.out.cell 1
       have d0:=HC7.out.cell 0
       have d1:=HC7.out.cell 1
       have i0:=HA8.out.cell 0
       have i1:=HA8.out.cell 1
       have j0:=HA9.out.cell 0
       have j1:=HA9.out.cell 1
       have if0:=HA8.out.frozen 0
       have if1:=HA8.out.frozen 1
       have jf0:=HA9.out.frozen 0
       have jf1:=HA9.out.frozen 1
       obtain ⟨n89,n68,n69,n78,n79⟩:=HNE.out
       go_upto_region 9 with fail
       have HZ:=Lib.hid (show Rb4 w ((((wc.setCell ⟨g8,0,none⟩ (.int .i64 (a:Nat))).setCell ⟨g8,1,none⟩ (.int .i64 (a:Nat))).setCell ⟨g9,0,none⟩ (.int .i64 (b:Nat))).setCell ⟨g9,1,none⟩ (.int .i64 (c:Nat))) [.slice A S.length cs,.slice A2 M.length c2,.int .i64 L] [.int .i64 kd,.int .i64 X,.int .i64 Y,.int .i64 sg,.bool true] from ((((HW9.out.set HG8.out).set HG8.out).set HG9.out).set HG9.out))
       have HZ8:=Lib.hid ((((HA8.out.set 0 (.int .i64 (a:Nat))).set 1 (.int .i64 (a:Nat))).far (p:=⟨g9,0,none⟩) n89 (.int .i64 (b:Nat))).far (p:=⟨g9,1,none⟩) n89 (.int .i64 (c:Nat)))
       have HZ9:=Lib.hid ((((HA9.out.far (p:=⟨g8,0,none⟩) (Ne.symm n89) (.int .i64 (a:Nat))).far (p:=⟨g8,1,none⟩) (Ne.symm n89) (.int .i64 (a:Nat))).set 0 (.int .i64 (b:Nat))).set 1 (.int .i64 (c:Nat)))
       go_region
       go_wp2_with fail
       go_meet
       exact ⟨HZ.out.drew,a,a,b,c,HA.out.1,HA.out.1,HBC.out.1,HBC.out.2.1,rfl,HZ8.out,HZ9.out⟩
    case rest =>
     obtain ⟨hw,p,q,r,s,hp,hq,hr,hs,hpq,ha8,ha9⟩:=hcut
     have HW:=Lib.hid hw
     have HP:=Lib.hid (show p<4/\q<4/\r<4/\s<4/\p%2=q%2 from ⟨hp,hq,hr,hs,hpq⟩)
     have HA8b:=Lib.hid ha8
     have HA9b:=Lib.hid ha9
     clear hw hp hq hr hs hpq ha8 ha9 HW9 HA8 HA9 HC6 HC7 HBC HA HG6 HG7 HG67 HNE
     generalize wc=wd at *
     obtain ⟨w9,hw9⟩:∃ W,W=wd.alloc (.cells #[.int .i64 0,.int .i64 0] 61):=⟨_,rfl⟩
     have hb9:Below wd.heap.size wd w9:=by rw [hw9];exact (Below.refl _ _).alloc (Nat.le_refl _) _
     have HA10:Hid (Arr w9 wd.heap.size 61 [.int .i64 0,.int .i64 0]):=by rw [hw9];exact Lib.hid (Arr.new _ _ [_,_])
     go_upto_region 11 with fail
     rw [<- hw9]
     clear hw9
     have HW9:=Lib.hid (HW.out.below hb9 HW.out.lt)
     have HA8:=Lib.hid (HA8b.out.below hb9 HA8b.out.lt)
     have HA9:=Lib.hid (HA9b.out.below hb9 HA9b.out.lt)
     have HG10:=Lib.hid HW.out.lt
     have HNE:=Lib.hid (show g8≠wd.heap.size/\g9≠wd.heap.size from ⟨fun e=>by have:=HA8b.out.lt;omega,fun e=>by have:=HA9b.out.lt;omega⟩)
     clear HW HA8b HA9b hb9
     generalize wd.heap.size=g10 at *
     go_wp2_with fail
     go_loopg [32] 2 (fun gk s32 wr=>∃ k:Nat,k<=2/\gk=2-k/\s32=.int .i64 (k:Int)/\Hid (Rb4 w wr [.slice A S.length cs,.slice A2 M.length c2,.int .i64 L] [.int .i64 kd,.int .i64 X,.int .i64 Y,.int .i64 sg,.bool ov]/\Arr wr g8 61 [.int .i64 (p:Nat),.int .i64 (q:Nat)]/\Arr wr g9 61 [.int .i64 (r:Nat),.int .i64 (s:Nat)]/\∃ t0 t1:Int,Arr wr g10 61 [.int .i64 t0,.int .i64 t1]))
     case atStart=>exact ⟨0,by omega,rfl,rfl,Lib.hid ⟨HW9.out,HA8.out,HA9.out,_,_,HA10.out⟩⟩
     case round =>
      clear HW9 HA8 HA9 HA10
      obtain ⟨k,hk,rfl,rfl,hh⟩:=hrel
      by_cases hk2:k<2
      · obtain ⟨hw,ha8,ha9,t0,t1,ha10⟩:=hh.out
        clear hh
        rcases (by omega:k=0\/k=1) with rfl|rfl
        · obtain ⟨v,hv⟩:∃ v,v=4*0+(r+4-p)%4:=⟨_,rfl⟩
          have HP1:=Lib.hid (fun W=>show Calls Try.prog 35 #[.int .i64 0,.int .i64 (p:Nat),.int .i64 (r:Nat)] W fun e w'=>e=.returned (.int .i64 (v:Nat))/\w'=W from by rw [hv];exact (HPL.out p r W HP.out.1 HP.out.2.2.1).mono fun e w' h=>⟨h.1,h.2.symm⟩)
          clear hv
          have c0:=ha10.cell 0
          have f0:=ha10.frozen 0
          have HW1:=Lib.hid (hw.set (i:=0) (v:=.int .i64 (-1)) HG10.out)
          have H81:=Lib.hid (ha8.far (p:=⟨g10,0,none⟩) HNE.out.1 (.int .i64 (-1)))
          have H91:=Lib.hid (ha9.far (p:=⟨g10,0,none⟩) HNE.out.2 (.int .i64 (-1)))
          have H101:=Lib.hid (ha10.set 0 (.int .i64 (-1)))
          clear hw ha8 ha9 ha10
          go_upto_region 15 with fail
          generalize wr.setCell ⟨g10,0,none⟩ (.int .i64 (-1))=wq at *
          clear c0 f0
          have c8:=H81.out.cell 0
          have c9:=H91.out.cell 0
          have c0:=H101.out.cell 0
          have f0:=H101.out.frozen 0
          go_quiet (first|(go_at_call 35;exact Calls.quiet_of_same (HP1.out _)))
          by_cases hv3:v=3
          · have z1:((v:Int)==3)=true:=by simp;omega
            have HRX:=Lib.hid (fun n=>show Rb4 w ((wq.drewN n).setCell ⟨g10,0,none⟩ (.int .i64 1)) [.slice A S.length cs,.slice A2 M.length c2,.int .i64 L] [.int .i64 kd,.int .i64 X,.int .i64 Y,.int .i64 sg,.bool ov]/\Arr ((wq.drewN n).setCell ⟨g10,0,none⟩ (.int .i64 1)) g8 61 [.int .i64 (p:Nat),.int .i64 (q:Nat)]/\Arr ((wq.drewN n).setCell ⟨g10,0,none⟩ (.int .i64 1)) g9 61 [.int .i64 (r:Nat),.int .i64 (s:Nat)]/\∃ t0 t1:Int,Arr ((wq.drewN n).setCell ⟨g10,0,none⟩ (.int .i64 1)) g10 61 [.int .i64 t0,.int .i64 t1] from ⟨(HW1.out.drewN n).set HG10.out,(H81.out.drewN n).far (p:=⟨g10,0,none⟩) HNE.out.1 _,(H91.out.drewN n).far (p:=⟨g10,0,none⟩) HNE.out.2 _,_,_,(H101.out.drewN n).set 0 (.int .i64 1)⟩)
            clear hv3
            go_wp2_with fail
            go_roundg (2-(0+1))
            case measure=>omega
            case rel=>exact ⟨0+1,by omega,rfl,by go_num,Lib.hid (HRX.out _)⟩
          · have z1:((v:Int)==3)=false:=by simp;omega
            have HRX:=Lib.hid (fun n=>show Rb4 w (wq.drewN n) [.slice A S.length cs,.slice A2 M.length c2,.int .i64 L] [.int .i64 kd,.int .i64 X,.int .i64 Y,.int .i64 sg,.bool ov]/\Arr (wq.drewN n) g8 61 [.int .i64 (p:Nat),.int .i64 (q:Nat)]/\Arr (wq.drewN n) g9 61 [.int .i64 (r:Nat),.int .i64 (s:Nat)]/\∃ t0 t1:Int,Arr (wq.drewN n) g10 61 [.int .i64 t0,.int .i64 t1] from ⟨(HW1.out.drewN n),(H81.out.drewN n),(H91.out.drewN n),_,_,(H101.out.drewN n)⟩)
            clear hv3
            go_wp2_with fail
            go_roundg (2-(0+1))
            case measure=>omega
            case rel=>exact ⟨0+1,by omega,rfl,by go_num,Lib.hid (HRX.out _)⟩
        · obtain ⟨v,hv⟩:∃ v,v=4*0+(s+4-q)%4:=⟨_,rfl⟩
          have HP1:=Lib.hid (fun W=>show Calls Try.prog 35 #[.int .i64 0,.int .i64 (q:Nat),.int .i64 (s:Nat)] W fun e w'=>e=.returned (.int .i64 (v:Nat))/\w'=W from by rw [hv];exact (HPL.out q s W HP.out.2.1 HP.out.2.2.2.1).mono fun e w' h=>⟨h.1,h.2.symm⟩)
          clear hv
          have c0:=ha10.cell 1
          have f0:=ha10.frozen 1
          have HW1:=Lib.hid (hw.set (i:=1) (v:=.int .i64 (-1)) HG10.out)
          have H81:=Lib.hid (ha8.far (p:=⟨g10,1,none⟩) HNE.out.1 (.int .i64 (-1)))
          have H91:=Lib.hid (ha9.far (p:=⟨g10,1,none⟩) HNE.out.2 (.int .i64 (-1)))
          have H101:=Lib.hid (ha10.set 1 (.int .i64 (-1)))
          clear hw ha8 ha9 ha10
          go_upto_region 15 with fail
          generalize wr.setCell ⟨g10,1,none⟩ (.int .i64 (-1))=wq at *
          clear c0 f0
          have c8:=H81.out.cell 1
          have c9:=H91.out.cell 1
          have c0:=H101.out.cell 1
          have f0:=H101.out.frozen 1
          go_quiet (first|(go_at_call 35;exact Calls.quiet_of_same (HP1.out _)))
          by_cases hv3:v=3
          · have z1:((v:Int)==3)=true:=by simp;omega
            have HRX:=Lib.hid (fun n=>show Rb4 w ((wq.drewN n).setCell ⟨g10,1,none⟩ (.int .i64 1)) [.slice A S.length cs,.slice A2 M.length c2,.int .i64 L] [.int .i64 kd,.int .i64 X,.int .i64 Y,.int .i64 sg,.bool ov]/\Arr ((wq.drewN n).setCell ⟨g10,1,none⟩ (.int .i64 1)) g8 61 [.int .i64 (p:Nat),.int .i64 (q:Nat)]/\Arr ((wq.drewN n).setCell ⟨g10,1,none⟩ (.int .i64 1)) g9 61 [.int .i64 (r:Nat),.int .i64 (s:Nat)]/\∃ t0 t1:Int,Arr ((wq.drewN n).setCell ⟨g10,1,none⟩ (.int .i64 1)) g10 61 [.int .i64 t0,.int .i64 t1] from ⟨(HW1.out.drewN n).set HG10.out,(H81.out.drewN n).far (p:=⟨g10,1,none⟩) HNE.out.1 _,(H91.out.drewN n).far (p:=⟨g10,1,none⟩) HNE.out.2 _,_,_,(H101.out.drewN n).set 1 (.int .i64 1)⟩)
            clear hv3
            go_wp2_with fail
            go_roundg (2-(1+1))
            case measure=>omega
            case rel=>exact ⟨1+1,by omega,rfl,by go_num,Lib.hid (HRX.out _)⟩
          · have z1:((v:Int)==3)=false:=by simp;omega
            have HRX:=Lib.hid (fun n=>show Rb4 w (wq.drewN n) [.slice A S.length cs,.slice A2 M.length c2,.int .i64 L] [.int .i64 kd,.int .i64 X,.int .i64 Y,.int .i64 sg,.bool ov]/\Arr (wq.drewN n) g8 61 [.int .i64 (p:Nat),.int .i64 (q:Nat)]/\Arr (wq.drewN n) g9 61 [.int .i64 (r:Nat),.int .i64 (s:Nat)]/\∃ t0 t1:Int,Arr (wq.drewN n) g10 61 [.int .i64 t0,.int .i64 t1] from ⟨(HW1.out.drewN n),(H81.out.drewN n),(H91.out.drewN n),_,_,(H101.out.drewN n)⟩)
            clear hv3
            go_wp2_with fail
            go_roundg (2-(1+1))
            case measure=>omega
            case rel=>exact ⟨1+1,by omega,rfl,by go_num,Lib.hid (HRX.out _)⟩
      · obtain ⟨hw,ha8,ha9,t0,t1,ha10⟩:=hh.out
        obtain rfl:k=2:=by omega
        clear hh hk2 hk ha9
        obtain ⟨S2,hS2⟩:∃ l,l=S ++ [t0,t1]:=⟨_,rfl⟩
        obtain ⟨M2,hM2⟩:∃ l,l=M ++ List.replicate 8 (0:Int):=⟨_,rfl⟩
        have HS2:=Lib.hid hS2
        have HM2:=Lib.hid (show M2=M ++ List.replicate (4*[t0,t1].length) (0:Int) from hM2)
        have HFIN:=Lib.hid (And.intro hS2 hM2)
        clear hS2 hM2
        have HK0:=Lib.hid (show RaK w g10 g8 [.slice A S.length cs,.slice A2 M.length c2,.int .i64 L] t0 t1 p q S2 M2 L false false wr.drew from ⟨hw.1,ha10,ha8,hw.2.2.1,hw.2.2.2.1,hw.2.2.2.2.drew⟩)
        clear hw ha8 ha10
        go_wp2_with fail
        obtain ⟨H0,hH0⟩:∃ H,H=w.heap.size:=⟨_,rfl⟩
        have HH0:=Lib.hid hH0
        clear hH0
        refine wp_region_two 8 9 (by kernel_rfl) (by kernel_rfl) (by kernel_rfl) (by kernel_rfl) (by kernel_rfl) (by decide) (by simp) (by simp) (phiT (fun i=>([some (.agg #[.slice A S.length cs,.slice A2 M.length c2,.int .i64 L]),some (.pointer (some ⟨g10,0,none⟩)),some (.int .i64 t0),some (.pointer (some ⟨g10,1,none⟩)),some (.int .i64 t1),none,none,some (.agg #[.int .i64 (p:Nat),.int .i64 (q:Nat)]),none,none]:List (Option Value)).getD i none) (fun i v w=>(if i=5 then (fun v w=>∃ b,v=.slice (some ⟨b,0,none⟩) 2 2/\H0+4<=b/\Arr w b 3 [.int .i64 t0,.int .i64 t1]) v w else (if i=6 then (fun v w=>∃ v1 v2,v=.agg #[v1,v2,.int .i64 L]/\OwnI 3 (H0+4) w v1 S2/\OwnI 3 (H0+4) w v2 M2/\(∀ k,v1.ownBlock=some k->v2.ownBlock≠some k)) v w else True)))) (fun p_ q_ W=>RaK w g10 g8 [.slice A S.length cs,.slice A2 M.length c2,.int .i64 L] t0 t1 p q S2 M2 L p_ q_ W) (EvR (w.heap.size+2)) (fun w w' h=>EvR.of h) (fun i v w w' h hb=>?_) (fun p_ q_ w w' h hb=>h.grow hb) HK0.out ⟨?_,?_,?_,?_,?_,?_,?_,?_,?_,?_,trivial⟩ ?_
        · unfold phiT at h ⊢
          split
          · next u hu=>rw [hu] at h;exact h
          · next hu =>
            rw [hu] at h
            simp only at h ⊢
            by_cases q5:i=5
            · rw [if_pos q5] at h ⊢;exact by obtain ⟨b,h1,h2,h3⟩:=h;exact ⟨b,h1,h2,(hb b h3.lt (by have:=HH0.out;omega) (by have:=HH0.out;omega)).trans h3⟩
            · rw [if_neg q5] at h ⊢
              by_cases q6:i=6
              · rw [if_pos q6] at h ⊢;exact by obtain ⟨v1,v2,h1,h2,h3,h4⟩:=h;exact ⟨v1,v2,h1,h2.ev hb (by have:=HH0.out;omega),h3.ev hb (by have:=HH0.out;omega),h4⟩
              · rw [if_neg q6] at h ⊢
                trivial
        · intro x w1 bA hb hdep
          refine ⟨fun _ _ p0 q0 hKw=>?_,fun h=>absurd h (by decide),fun h=>absurd h (by decide)⟩
          have e2:bA.tmps[2]?.getD undef=.pointer (some ⟨w.heap.size,0,none⟩):=hb 2
          have HKW:=Lib.hid hKw
          clear hKw
          have u0:=HKW.out.1.cell 0
          have u1:=HKW.out.1.cell 1
          have u2:=HKW.out.1.cell 2
          clear hb hdep
          refine phi_run (.agg #[.slice A S.length cs,.slice A2 M.length c2,.int .i64 L]) ?_ rfl
          go_simp
        · intro x w1 bA hb hdep
          refine ⟨fun _ _ p0 q0 hKw=>?_,fun h=>absurd h (by decide),fun h=>absurd h (by decide)⟩
          have e10:bA.tmps[10]?.getD undef=.pointer (some ⟨g10,0,none⟩):=hb 10
          have HKW:=Lib.hid hKw
          clear hKw
          clear hb hdep
          refine phi_run (.pointer (some ⟨g10,0,none⟩)) ?_ rfl
          go_simp
        · intro x w1 bA hb hdep
          refine ⟨fun _ _ p0 q0 hKw=>?_,fun h=>absurd h (by decide),fun h=>absurd h (by decide)⟩
          have e49:bA.tmps[49]?.getD undef=.pointer (some ⟨g10,0,none⟩):=(hb 49).trans (hdep 1 (by decide))
          have HKW:=Lib.hid hKw
          clear hKw
          have u0:=HKW.out.2.1.cell 0
          clear hb hdep
          refine phi_run (.int .i64 t0) ?_ rfl
          go_simp
        · intro x w1 bA hb hdep
          refine ⟨fun _ _ p0 q0 hKw=>?_,fun h=>absurd h (by decide),fun h=>absurd h (by decide)⟩
          have e10:bA.tmps[10]?.getD undef=.pointer (some ⟨g10,0,none⟩):=hb 10
          have HKW:=Lib.hid hKw
          clear hKw
          clear hb hdep
          refine phi_run (.pointer (some ⟨g10,1,none⟩)) ?_ rfl
          go_simp
        · intro x w1 bA hb hdep
          refine ⟨fun _ _ p0 q0 hKw=>?_,fun h=>absurd h (by decide),fun h=>absurd h (by decide)⟩
          have e51:bA.tmps[51]?.getD undef=.pointer (some ⟨g10,1,none⟩):=(hb 51).trans (hdep 3 (by decide))
          have HKW:=Lib.hid hKw
          clear hKw
          have u0:=HKW.out.2.1.cell 1
          clear hb hdep
          refine phi_run (.int .i64 t1) ?_ rfl
          go_simp
        · intro x w1 bA hb hdep
          refine ⟨fun _ _ p0 q0 hKw=>?_,fun h=>absurd h (by decide),fun h=>absurd h (by decide)⟩
          have e50:bA.tmps[50]?.getD undef=.int .i64 t0:=(hb 50).trans (hdep 2 (by decide))
          have e52:bA.tmps[52]?.getD undef=.int .i64 t1:=(hb 52).trans (hdep 4 (by decide))
          have HKW:=Lib.hid hKw
          clear hKw
          clear hb hdep
          refine phi_make (.slice (some ⟨w1.heap.size,0,none⟩) 2 2) (w1.alloc (.cells #[.int .i64 t0,.int .i64 t1] 3)) ?_ ((Below.refl _ _).alloc (Nat.le_refl _) _) (⟨w1.heap.size,rfl,by have:=HKW.out.2.1.lt;have:=HG10.out;have:=HH0.out;omega,Arr.new w1 3 [_,_]⟩)
          go_simp
        · intro x w1 bA hb hdep
          refine ⟨fun _ _ p0 q0 hKw=>?_,fun h=>absurd h (by decide),fun h=>absurd h (by decide)⟩
          have e48:bA.tmps[48]?.getD undef=.agg #[.slice A S.length cs,.slice A2 M.length c2,.int .i64 L]:=(hb 48).trans (hdep 0 (by decide))
          have p53:=hdep 5 (by decide)
          have e53:bA.tmps[53]?.getD undef=x 5:=hb 53
          generalize x 5=x53 at p53 e53
          have P53:=Lib.hid (show (fun v w=>∃ b,v=.slice (some ⟨b,0,none⟩) 2 2/\H0+4<=b/\Arr w b 3 [.int .i64 t0,.int .i64 t1]) x53 w1 from p53)
          clear p53
          have HKW:=Lib.hid hKw
          clear hKw
          obtain ⟨bc,rfl,_,hgc⟩:=P53.out
          clear hb hdep
          refine phi_call ?_ ((HGR.out w1 HKW.out.2.2.2.2.2 _ [t0,t1] (Ints.of_arr (xs:=[t0,t1]) hgc) (by simp)).mono fun e w' h=>(by obtain ⟨v1,v2,he,h1,h2,h3,h4⟩:=h;exact ⟨_,he,h4,v1,v2,rfl,by rw [HS2.out];exact h1.base (by have:=HKW.out.2.1.lt;have:=HG10.out;have:=HH0.out;omega),by rw [HM2.out];exact h2.base (by have:=HKW.out.2.1.lt;have:=HG10.out;have:=HH0.out;omega),h3⟩))
          go_simp
        · intro x w1 bA hb hdep
          refine ⟨fun _ _ p0 q0 hKw=>?_,fun h=>absurd h (by decide),fun h=>absurd h (by decide)⟩
          have e8:bA.tmps[8]?.getD undef=.pointer (some ⟨g8,0,none⟩):=hb 8
          have HKW:=Lib.hid hKw
          clear hKw
          have u0:=HKW.out.2.2.1.cell 0
          have u1:=HKW.out.2.2.1.cell 1
          clear hb hdep
          refine phi_run (.agg #[.int .i64 (p:Nat),.int .i64 (q:Nat)]) ?_ rfl
          go_simp
        · intro x w1 bA hb hdep
          refine ⟨fun h=>absurd rfl h,fun _ q0 hKw=>?_,fun h=>absurd h (by decide)⟩
          have e4:bA.tmps[4]?.getD undef=.pointer (some ⟨w.heap.size+2,0,none⟩):=hb 4
          have p54:=hdep 6 (by decide)
          have e54:bA.tmps[54]?.getD undef=x 6:=hb 54
          generalize x 6=x54 at p54 e54
          have P54:=Lib.hid (show (fun v w=>∃ v1 v2,v=.agg #[v1,v2,.int .i64 L]/\OwnI 3 (H0+4) w v1 S2/\OwnI 3 (H0+4) w v2 M2/\(∀ k,v1.ownBlock=some k->v2.ownBlock≠some k)) x54 w1 from p54)
          clear p54
          have HKW:=Lib.hid hKw
          clear hKw
          clear hb hdep
          obtain ⟨v1,v2,e54b,o1,o2,o3⟩:=P54.out
          rw [e54b] at e54
          clear e54b P54
          have ST:=Lib.hid (HKW.out.store1 HG10.out HG8.out (o1.base (by have:=HH0.out;omega)) (o2.base (by have:=HH0.out;omega)) o3)
          have hr:=(show Arr w1 (w.heap.size+2) 24 [.slice none 0 0,.slice none 0 0,.int .i64 0] from HKW.out.2.2.2.1)
          obtain ⟨B1,n1,rfl⟩:=o1.form
          obtain ⟨B2,n2,rfl⟩:=o2.form
          clear o1 o2 o3
          have c0:=hr.cell 0
          have c1:=hr.cell 1
          have c2:=hr.cell 2
          have f0:=hr.frozen 0
          have f1:=hr.frozen 1
          have f2:=hr.frozen 2
          clear hr
          refine two_st (((w1.setCell ⟨w.heap.size+2,0,none⟩ (.slice B1 S2.length n1)).setCell ⟨w.heap.size+2,1,none⟩ (.slice B2 M2.length n2)).setCell ⟨w.heap.size+2,2,none⟩ (.int .i64 L)) ?_ rfl ST.out.1 ST.out.2 trivial
          go_simp
        · intro x w1 bA hb hdep
          refine ⟨fun _ h=>absurd rfl h,fun h=>absurd h (by decide),fun _ p0 hKw=>?_⟩
          have e5:bA.tmps[5]?.getD undef=.pointer (some ⟨w.heap.size+3,0,none⟩):=hb 5
          have e55:bA.tmps[55]?.getD undef=.agg #[.int .i64 (p:Nat),.int .i64 (q:Nat)]:=(hb 55).trans (hdep 7 (by decide))
          have HKW:=Lib.hid hKw
          clear hKw
          clear hb hdep
          have ST:=Lib.hid (HKW.out.store2 HG10.out HG8.out)
          have hr:=(show Arr w1 (w.heap.size+3) 61 [.int .i64 0,.int .i64 0] from HKW.out.2.2.2.2.1)
          have c0:=hr.cell 0
          have c1:=hr.cell 1
          have f0:=hr.frozen 0
          have f1:=hr.frozen 1
          clear hr
          refine two_st ((w1.setCell ⟨w.heap.size+3,0,none⟩ (.int .i64 (p:Nat))).setCell ⟨w.heap.size+3,1,none⟩ (.int .i64 (q:Nat))) ?_ rfl ST.out.1 ST.out.2 trivial
          go_simp
        intro x w1 hKE hall
        have x0e:x 0=.agg #[.slice A S.length cs,.slice A2 M.length c2,.int .i64 L]:=hall 0 (by simp)
        have x1e:x 1=.pointer (some ⟨g10,0,none⟩):=hall 1 (by simp)
        have x2e:x 2=.int .i64 t0:=hall 2 (by simp)
        have x3e:x 3=.pointer (some ⟨g10,1,none⟩):=hall 3 (by simp)
        have x4e:x 4=.int .i64 t1:=hall 4 (by simp)
        have x7e:x 7=.agg #[.int .i64 (p:Nat),.int .i64 (q:Nat)]:=hall 7 (by simp)
        simp only [putAll,dstOf,Act.put,List.map_cons,List.map_nil,List.setIfInBounds_toArray,List.set_cons_succ,List.set_cons_zero,Nat.reduceAdd,x0e,x1e,x2e,x3e,x4e,x7e]
        clear hall x0e x1e x2e x3e x4e x7e
        obtain ⟨v1,v2,a2,o1,o2,o3⟩:=(show ∃ v1 v2,Arr w1 (w.heap.size+2) 24 [v1,v2,.int .i64 L]/\OwnI 3 (w.heap.size+2+2) w1 v1 S2/\OwnI 3 (w.heap.size+2+2) w1 v2 M2/\(∀ k,v1.ownBlock=some k->v2.ownBlock≠some k) from hKE.2.2.2.1)
        have a3:=(show Arr w1 (w.heap.size+3) 61 [.int .i64 (p:Nat),.int .i64 (q:Nat)] from hKE.2.2.2.2.1)
        have HA2:=Lib.hid a2
        have HA3:=Lib.hid a3
        have O1:=Lib.hid o1
        have O2:=Lib.hid o2
        have O3:=Lib.hid o3
        have HBW:=Lib.hid hKE.2.2.2.2.2
        clear a2 a3 o1 o2 o3 hKE
        go_wp2_with fail
        refine bodyPost_ret (v:=.tuple #[.agg #[v1,v2,.int .i64 L],.agg #[.int .i64 (p:Nat),.int .i64 (q:Nat)]]) (results_cc Try.results33 _ _ (w.heap.size+2) (w.heap.size+3) 24 61 _ _ _ _ rfl HA2.out rfl HA3.out Try.underlying24 rfl info_diag Try.underlying61 rfl info_two) rfl ?_
        exact ⟨v1,v2,t0,t1,p,q,rfl,HP.out.1,HP.out.2.1,HP.out.2.2.2.2,by rw [<- HFIN.out.1];exact O1.out.base (by omega),by rw [<- HFIN.out.2];exact O2.out.base (by omega),O3.out,HBW.out⟩
set_option maxHeartbeats 16000000 in
set_option maxRecDepth 100000 in
theorem poke_any (vs vm vl vp:Value) (S M LL PP:List Int) (L kd X Y sg:Int) (ov:Bool) (w:World) (hS:Ints w vs S) (hM:Ints w vm M) (hL:Ints w vl LL) (hP:Ints w vp PP) (hl:LL.length=M.length) (hp:PP.length=S.length) (k:Ok S M L) (hr:-2<=X/\X<4*(S.length:Int)/\-2<=Y/\Y<4*(S.length:Int)/\(X=Y->0<=X->sg=1\/sg = -1)/\(sg=0\/sg=1\/sg = -1)) (hn:S.length<=7) :
 Calls Try.prog 15 #[.agg #[vs,vm,.int .i64 L,vl,vp],.agg #[.int .i64 kd,.int .i64 X,.int .i64 Y,.int .i64 sg,.bool ov]] w fun e w'=>MvE (fun S' M' L'=>MvQ S M L S' M' L') e w'/\Below w.heap.size w w':=by
 obtain ⟨r1,r2,r3,r4,r5,r6⟩:=hr
 have KP:=Lib.hid (fun W (hb:Below w.heap.size w W)=>pokeable_any vs vm vl vp S M LL PP L kd X Y sg ov W (hS.below hb) (hM.below hb) (hL.below hb) (hP.below hb) k.m (hl.trans k.m) hp r2 r4 hn)
 have KR:=Lib.hid (fun W (hb:Below w.heap.size w W)=>raised_any vs vm S M L kd X Y sg ov W (hS.below hb) (hM.below hb) r2 r4 (by omega) (by have:=k.m;omega))
 have GM:=Lib.hid (fun W (hb:Below w.heap.size w W)=>hM.below hb)
 have HRG1:=Lib.hid (show X<(M.length:Int) by have:=k.m;omega)
 have HRG2:=Lib.hid (show Y<(M.length:Int) by have:=k.m;omega)
 have HSG:=Lib.hid r6
 have HNS:=Lib.hid r5
 have HX2:=Lib.hid r1
 have HM4:=Lib.hid (And.intro k.m hn)
 have HOK:=Lib.hid k
 clear k r1 r2 r3 r4 r5 r6 hl hp
 obtain ⟨A0,cs,rfl,hcs,hx1⟩:=hS
 obtain ⟨A2,c2,rfl,hc2,hx2⟩:=hM
 obtain ⟨A3,c3,rfl,hc3,hx3⟩:=hL
 obtain ⟨A4,c4,rfl,hc4,hx4⟩:=hP
 clear hx1 hx2 hx3 hx4 hcs hc2 hc3 hc4
 go_enter Try.func15,Try.ntmps15
 go_upto_region 1 with fail
 have hW:=Pb4.start ((((w.alloc (.cells #[.slice A0 S.length cs,.slice A2 M.length c2,.int .i64 L,.slice A3 LL.length c3,.slice A4 PP.length c4] 42)).alloc (.cells #[.int .i64 kd,.int .i64 X,.int .i64 Y,.int .i64 sg,.bool ov] 26)).alloc (.cells #[.slice none 0 0,.slice none 0 0,.int .i64 0] 24)).alloc (.cells #[.int .i64 0,.int .i64 0,.int .i64 0,.int .i64 0,.bool false] 26)) _ _ _ _ L kd X Y sg ov w rfl
 generalize ((((w.alloc (.cells #[.slice A0 S.length cs,.slice A2 M.length c2,.int .i64 L,.slice A3 LL.length c3,.slice A4 PP.length c4] 42)).alloc (.cells #[.int .i64 kd,.int .i64 X,.int .i64 Y,.int .i64 sg,.bool ov] 26)).alloc (.cells #[.slice none 0 0,.slice none 0 0,.int .i64 0] 24)).alloc (.cells #[.int .i64 0,.int .i64 0,.int .i64 0,.int .i64 0,.bool false] 26))=w4 at hW ⊢
 have HW:=Lib.hid hW
 clear hW
 have y0:=HW.out.1.cell 0
 have y1:=HW.out.1.cell 1
 have y2:=HW.out.1.cell 2
 have y3:=HW.out.1.cell 3
 have y4:=HW.out.1.cell 4
 have m0:=HW.out.2.1.cell 0
 have m1:=HW.out.2.1.cell 1
 have m2:=HW.out.2.1.cell 2
 have m3:=HW.out.2.1.cell 3
 have m4:=HW.out.2.1.cell 4
 go_upto_region 2 with (go_at_call 32;refine (KP.out _ HW.out.2.2.2.2).mono ?_;rintro e w5 ⟨⟨kk,rfl⟩,hb5⟩)
 have HBX:=Lib.hid (HW.out.below hb5 HW.out.lt)
 clear HW y0 y1 y2 y3 y4 m0 m1 m2 m3 m4 hb5 KP
 by_cases hk:kk=0
 · subst hk
   go_upto_region 4 with fail
   go_cut [8,9] (fun s8 s9 wx=>Pb4 w wx [.slice A0 S.length cs,.slice A2 M.length c2,.int .i64 L,.slice A3 LL.length c3,.slice A4 PP.length c4] [.int .i64 kd,.int .i64 X,.int .i64 Y,.int .i64 sg,.bool ov]/\∃ g8 g9:Nat,s8=.pointer (some ⟨g8,0,none⟩)/\s9=.pointer (some ⟨g9,0,none⟩)/\w.heap.size+4<=g8/\w.heap.size+4<=g9/\Arr wx g8 24 [.slice A0 S.length cs,.slice A2 M.length c2,.int .i64 L]/\Arr wx g9 3 [.int .i64 (S.length:Nat)])
   case first =>
    have y0:=HBX.out.1.cell 0
    have y1:=HBX.out.1.cell 1
    have y2:=HBX.out.1.cell 2
    have HLT:=Lib.hid HBX.out.lt
    have l0:w.heap.size<w5.heap.size:=by have:=HLT.out;omega
    have n0:w5.heap.size≠w.heap.size:=by omega
    have n1:w5.heap.size+1≠w.heap.size:=by omega
    have HAB:=Lib.hid (fun (t u:TypeId) (p q:List Value)=>show Arr ((w5.alloc (.cells (rowOf p) t)).alloc (.cells (rowOf q) u)) w5.heap.size t p from (Arr.new w5 _ p).alloc _)
    have HAC:=Lib.hid (fun (t u:TypeId) (p q:List Value)=>show Arr ((w5.alloc (.cells (rowOf p) t)).alloc (.cells (rowOf q) u)) (w5.heap.size+1) u q from Arr.newAt (w5.alloc _) _ q _ (by simp))
    have HAD:=Lib.hid (fun (t u:TypeId) (p q:List Value)=>show Pb4 w ((w5.alloc (.cells (rowOf p) t)).alloc (.cells (rowOf q) u)) [.slice A0 S.length cs,.slice A2 M.length c2,.int .i64 L,.slice A3 LL.length c3,.slice A4 PP.length c4] [.int .i64 kd,.int .i64 X,.int .i64 Y,.int .i64 sg,.bool ov] from HBX.out.below (((Below.refl w5.heap.size w5).alloc (Nat.le_refl _) _).alloc (by simp) _) HBX.out.lt)
    go_region
    · go_wp2_with fail
      go_meet
      exact ⟨(HAD.out _ _ [_,_,_] [_]).drew,_,_,rfl,rfl,HLT.out,Nat.le_succ_of_le HLT.out,HAB.out _ _ [_,_,_] [_],HAC.out _ _ [_,_,_] [_]⟩
    · go_wp2_with fail
      go_meet
      exact ⟨(HAD.out _ _ [_] [_,_,_]).drew,_,_,rfl,rfl,Nat.le_succ_of_le HLT.out,HLT.out,HAC.out _ _ [_] [_,_,_],HAB.out _ _ [_] [_,_,_]⟩
   case rest =>
    obtain ⟨hbx,g8,g9,rfl,rfl,h8,h9,hd,hnum⟩:=hcut
    have HBX2:=Lib.hid hbx
    have HG:=Lib.hid (And.intro h8 h9)
    have HD:=Lib.hid hd
    have HNM:=Lib.hid hnum
    clear hbx h8 h9 hd hnum HBX
    have y0:=HD.out.cell 0
    have y1:=HD.out.cell 1
    have y2:=HD.out.cell 2
    have m0:=HBX2.out.2.1.cell 0
    have m1:=HBX2.out.2.1.cell 1
    have m2:=HBX2.out.2.1.cell 2
    have m3:=HBX2.out.2.1.cell 3
    have m4:=HBX2.out.2.1.cell 4
    go_upto_region 6 with (go_at_call 33;refine (KR.out _ HBX2.out.2.2.2.2).mono ?_;rintro e w8 ⟨v1,v2,s0,s1,f0,f1,rfl,hf0,hf1,hf,o1,o2,o3,hb8⟩;obtain ⟨S2,hS2⟩:∃ l,l=S ++ [s0,s1]:=⟨_,rfl⟩;obtain ⟨M0,hM0⟩:∃ l,l=M ++ List.replicate 8 (0:Int):=⟨_,rfl⟩;rw [<- hS2] at o1;rw [<- hM0] at o2;have O1:=Lib.hid o1;have O2:=Lib.hid o2;have O3:=Lib.hid o3;obtain ⟨A1,ca1,rfl⟩:=o1.form;obtain ⟨A,cm,rfl⟩:=o2.form;have HS2:=Lib.hid hS2;have HM0:=Lib.hid hM0;have HF:=Lib.hid (show f0<4/\f1<4/\f0%2=f1%2 from ⟨hf0,hf1,hf⟩);clear o1 o2 o3 hS2 hM0 hf0 hf1 hf)
    obtain ⟨w9,hw9⟩:∃ W,W=(w8.alloc (.cells #[.slice A1 S2.length ca1,.slice A M0.length cm,.int .i64 L] 24)).alloc (.cells #[.int .i64 (f0:Nat),.int .i64 (f1:Nat)] 61):=⟨_,rfl⟩
    rw [<- hw9]
    have hb9:Below wc.heap.size wc w9:=by rw [hw9];exact (hb8.alloc hb8.size _).alloc (by have:=hb8.size;simp;omega) _
    have HB4:=Lib.hid (HBX2.out.lt)
    have HK:Hid (PkS w wc.heap.size g8 g9 (w8.heap.size+1) w8.heap.size M0.length cm S.length f0 f1 [.slice A0 S.length cs,.slice A2 M.length c2,.int .i64 L,.slice A3 LL.length c3,.slice A4 PP.length c4] [.int .i64 kd,.int .i64 X,.int .i64 Y,.int .i64 sg,.bool ov] [.slice A0 S.length cs,.slice A2 M.length c2,.int .i64 L] (.slice A1 S2.length ca1) A S2 (M0) (L) w9):=Lib.hid ⟨HBX2.out.below hb9 HB4.out,HD.out.below hb9 HD.out.lt,HNM.out.below hb9 HNM.out.lt,by rw [hw9];exact Arr.newAt (w8.alloc _) _ [_,_] _ (by simp),(by rw [hw9];exact (CuS.start O1.out O2.out O3.out L).below ((Below.refl _ _).alloc (Nat.le_refl _) _) (Nat.le_refl _)),⟨HG.out.1,HD.out.lt,HG.out.2,HNM.out.lt,hb8.size,by omega⟩⟩
    clear hw9 hb8 hb9 HD HNM HBX2 O1 O2 O3 y0 y1 y2 m0 m1 m2 m3 m4 KR
    generalize w8.heap.size=g at *
    generalize wc.heap.size=B at *
    go_upto_region 8 with fail
    obtain ⟨p0,hp0⟩:∃ z,z=pkE S.length f0 f1 0:=⟨_,rfl⟩
    have HP0:=Lib.hid (fun W (h1:W.cell? ⟨g9,0,none⟩=some (.int .i64 (S.length:Nat))) (h2:W.cell? ⟨g+1,0,none⟩=some (.int .i64 (f0:Nat)))=>show Calls Try.prog 34 #[.int .i64 0,.pointer (some ⟨g9,0,none⟩),.pointer (some ⟨g+1,0,none⟩)] W fun e w'=>e=.returned (.int .i64 (p0:Nat))/\w'=W from by rw [hp0];exact (pokeP_any g9 (g+1) S.length f0 0 W h1 h2 (by have:=HM4.out;omega) HF.out.1 (by decide)).mono fun e w' h=>⟨h.1,h.2.symm⟩)
    obtain ⟨p1,hp1⟩:∃ z,z=pkE S.length f0 f1 1:=⟨_,rfl⟩
    have HP1:=Lib.hid (fun W (h1:W.cell? ⟨g9,0,none⟩=some (.int .i64 (S.length:Nat))) (h2:W.cell? ⟨g+1,0,none⟩=some (.int .i64 (f0:Nat)))=>show Calls Try.prog 34 #[.int .i64 1,.pointer (some ⟨g9,0,none⟩),.pointer (some ⟨g+1,0,none⟩)] W fun e w'=>e=.returned (.int .i64 (p1:Nat))/\w'=W from by rw [hp1];exact (pokeP_any g9 (g+1) S.length f0 1 W h1 h2 (by have:=HM4.out;omega) HF.out.1 (by decide)).mono fun e w' h=>⟨h.1,h.2.symm⟩)
    obtain ⟨p2,hp2⟩:∃ z,z=pkE S.length f0 f1 2:=⟨_,rfl⟩
    have HP2:=Lib.hid (fun W (h1:W.cell? ⟨g9,0,none⟩=some (.int .i64 (S.length:Nat))) (h2:W.cell? ⟨g+1,0,none⟩=some (.int .i64 (f0:Nat)))=>show Calls Try.prog 34 #[.int .i64 2,.pointer (some ⟨g9,0,none⟩),.pointer (some ⟨g+1,0,none⟩)] W fun e w'=>e=.returned (.int .i64 (p2:Nat))/\w'=W from by rw [hp2];exact (pokeP_any g9 (g+1) S.length f0 2 W h1 h2 (by have:=HM4.out;omega) HF.out.1 (by decide)).mono fun e w' h=>⟨h.1,h.2.symm⟩)
    obtain ⟨p3,hp3⟩:∃ z,z=pkE S.length f0 f1 3:=⟨_,rfl⟩
    have HP3:=Lib.hid (fun W (h1:W.cell? ⟨g9,0,none⟩=some (.int .i64 (S.length:Nat))) (h2:W.cell? ⟨g+1,0,none⟩=some (.int .i64 (f0:Nat)))=>show Calls Try.prog 34 #[.int .i64 3,.pointer (some ⟨g9,0,none⟩),.pointer (some ⟨g+1,0,none⟩)] W fun e w'=>e=.returned (.int .i64 (p3:Nat))/\w'=W from by rw [hp3];exact (pokeP_any g9 (g+1) S.length f0 3 W h1 h2 (by have:=HM4.out;omega) HF.out.1 (by decide)).mono fun e w' h=>⟨h.1,h.2.symm⟩)
    obtain ⟨q0,hq0⟩:∃ z,z=pkE S.length f0 f1 4:=⟨_,rfl⟩
    have HQ0:=Lib.hid (fun W (h1:W.cell? ⟨g9,0,none⟩=some (.int .i64 (S.length:Nat))) (h2:W.cell? ⟨g+1,1,none⟩=some (.int .i64 (f1:Nat)))=>show Calls Try.prog 36 #[.int .i64 0,.pointer (some ⟨g9,0,none⟩),.pointer (some ⟨g+1,0,none⟩)] W fun e w'=>e=.returned (.int .i64 (q0:Nat))/\w'=W from by rw [hq0];exact (pokeQ_any g9 (g+1) S.length f1 0 W h1 h2 (by have:=HM4.out;omega) HF.out.2.1 (by decide)).mono fun e w' h=>⟨h.1,h.2.symm⟩)
    obtain ⟨q1,hq1⟩:∃ z,z=pkE S.length f0 f1 5:=⟨_,rfl⟩
    have HQ1:=Lib.hid (fun W (h1:W.cell? ⟨g9,0,none⟩=some (.int .i64 (S.length:Nat))) (h2:W.cell? ⟨g+1,1,none⟩=some (.int .i64 (f1:Nat)))=>show Calls Try.prog 36 #[.int .i64 1,.pointer (some ⟨g9,0,none⟩),.pointer (some ⟨g+1,0,none⟩)] W fun e w'=>e=.returned (.int .i64 (q1:Nat))/\w'=W from by rw [hq1];exact (pokeQ_any g9 (g+1) S.length f1 1 W h1 h2 (by have:=HM4.out;omega) HF.out.2.1 (by decide)).mono fun e w' h=>⟨h.1,h.2.symm⟩)
    obtain ⟨q2,hq2⟩:∃ z,z=pkE S.length f0 f1 6:=⟨_,rfl⟩
    have HQ2:=Lib.hid (fun W (h1:W.cell? ⟨g9,0,none⟩=some (.int .i64 (S.length:Nat))) (h2:W.cell? ⟨g+1,1,none⟩=some (.int .i64 (f1:Nat)))=>show Calls Try.prog 36 #[.int .i64 2,.pointer (some ⟨g9,0,none⟩),.pointer (some ⟨g+1,0,none⟩)] W fun e w'=>e=.returned (.int .i64 (q2:Nat))/\w'=W from by rw [hq2];exact (pokeQ_any g9 (g+1) S.length f1 2 W h1 h2 (by have:=HM4.out;omega) HF.out.2.1 (by decide)).mono fun e w' h=>⟨h.1,h.2.symm⟩)
    obtain ⟨q3,hq3⟩:∃ z,z=pkE S.length f0 f1 7:=⟨_,rfl⟩
    have HQ3:=Lib.hid (fun W (h1:W.cell? ⟨g9,0,none⟩=some (.int .i64 (S.length:Nat))) (h2:W.cell? ⟨g+1,1,none⟩=some (.int .i64 (f1:Nat)))=>show Calls Try.prog 36 #[.int .i64 3,.pointer (some ⟨g9,0,none⟩),.pointer (some ⟨g+1,0,none⟩)] W fun e w'=>e=.returned (.int .i64 (q3:Nat))/\w'=W from by rw [hq3];exact (pokeQ_any g9 (g+1) S.length f1 3 W h1 h2 (by have:=HM4.out;omega) HF.out.2.1 (by decide)).mono fun e w' h=>⟨h.1,h.2.symm⟩)
    have HLN:=Lib.hid (show M0.length=4*S.length+8/\M.length=4*S.length from ⟨by rw [HM0.out];simp;have:=HM4.out;omega,HM4.out.1⟩)
    have HBD:=Lib.hid (show p0<4*S.length+8/\p1<4*S.length+8/\p2<4*S.length+8/\p3<4*S.length+8/\q0<4*S.length+8/\q1<4*S.length+8/\q2<4*S.length+8/\q3<4*S.length+8/\S.length<=7 by rw [hp0,hp1,hp2,hp3,hq0,hq1,hq2,hq3];exact ⟨pkE_lt _ _ _ _,pkE_lt _ _ _ _,pkE_lt _ _ _ _,pkE_lt _ _ _ _,pkE_lt _ _ _ _,pkE_lt _ _ _ _,pkE_lt _ _ _ _,pkE_lt _ _ _ _,HM4.out.2⟩)
    have HEQ:=Lib.hid (show p0=pkE S.length f0 f1 0/\p1=pkE S.length f0 f1 1/\p2=pkE S.length f0 f1 2/\p3=pkE S.length f0 f1 3/\q0=pkE S.length f0 f1 4/\q1=pkE S.length f0 f1 5/\q2=pkE S.length f0 f1 6/\q3=pkE S.length f0 f1 7/\S2=S ++ [s0,s1]/\M0=M ++ List.replicate 8 (0:Int) from ⟨hp0,hp1,hp2,hp3,hq0,hq1,hq2,hq3,HS2.out,HM0.out⟩)
    have HN7:=Lib.hid (show (S.length:Int)+1<1000 by have:=HM4.out;omega)
    clear hp0 hp1 hp2 hp3 hq0 hq1 hq2 hq3 HS2 HM0 hn
    have yb:=HK.out.cu.box.cell 1
    refine wp_region_still_tail 6 (by kernel_rfl) (by kernel_rfl) ?_
    simp only [List.take_succ_cons,List.take_zero,List.drop_succ_cons,List.drop_zero]
    still_step
    still_step
    still_step
    still_call (HP1.out _ (HK.out.num.drew.cell 0) (HK.out.sid.drew.cell 0))
    still_step
    still_call (HQ1.out _ (HK.out.num.drew.cell 0) (HK.out.sid.drew.cell 1))
    refine wpStill_nil ?_
    change wpList _ _ _ _ _ w9.drew
    go_upto_region 9 with (go_at_call 27;refine (HK.out.drew.joins p1 q1 (by have h1:=HLN.out;have h2:=HBD.out;(try have h4:=HXN.out);(try have h5:=HBY.out);(try simp only [jnL_length]);omega) (by have h1:=HLN.out;have h2:=HBD.out;(try have h4:=HXN.out);(try have h5:=HBY.out);(try simp only [jnL_length]);omega) (by have h1:=HLN.out;have h2:=HBD.out;(try have h4:=HXN.out);(try have h5:=HBY.out);(try simp only [jnL_length]);omega)).mono ?_;rintro e wj1 ⟨rfl,hk⟩;clear yb;have HKn:=Lib.hid hk;clear hk)
    clear HK
    have HK:=HKn
    clear HKn
    have yb:=HK.out.cu.box.cell 1
    refine wp_region_still_tail 6 (by kernel_rfl) (by kernel_rfl) ?_
    simp only [List.take_succ_cons,List.take_zero,List.drop_succ_cons,List.drop_zero]
    still_step
    still_step
    still_step
    still_call (HQ2.out _ (HK.out.num.drew.cell 0) (HK.out.sid.drew.cell 1))
    still_step
    still_call (HP0.out _ (HK.out.num.drew.cell 0) (HK.out.sid.drew.cell 0))
    refine wpStill_nil ?_
    change wpList _ _ _ _ _ wj1.drew
    go_upto_block 0 with (go_at_call 27;refine (HK.out.drew.joins q2 p0 (by have h1:=HLN.out;have h2:=HBD.out;(try have h4:=HXN.out);(try have h5:=HBY.out);(try simp only [jnL_length]);omega) (by have h1:=HLN.out;have h2:=HBD.out;(try have h4:=HXN.out);(try have h5:=HBY.out);(try simp only [jnL_length]);omega) (by have h1:=HLN.out;have h2:=HBD.out;(try have h4:=HXN.out);(try have h5:=HBY.out);(try simp only [jnL_length]);omega)).mono ?_;rintro e wj2 ⟨rfl,hk⟩;clear yb;have HKn:=Lib.hid hk;clear hk)
    clear HK
    have HK:=HKn
    clear HKn
    have m3:=HK.out.box.2.1.cell 3
    have m1:=HK.out.box.2.1.cell 1
    go_cut [] (fun wx=>∃ Mz Lz,Hid (MvQ S M L S2 Mz Lz)/\PkS w B g8 g9 (g+1) g M0.length cm S.length f0 f1 [.slice A0 S.length cs,.slice A2 M.length c2,.int .i64 L,.slice A3 LL.length c3,.slice A4 PP.length c4] [.int .i64 kd,.int .i64 X,.int .i64 Y,.int .i64 sg,.bool ov] [.slice A0 S.length cs,.slice A2 M.length c2,.int .i64 L] (.slice A1 S2.length ca1) A S2 (Mz) (Lz) wx)
    case first =>
     rcases HSG.out with hs|hs
     · subst hs
       go_upto_region 11 with fail
       clear m1 m3
       have mb:=HK.out.box.2.1.cell 2
       refine wp_region_still_tail 7 (by kernel_rfl) (by kernel_rfl) ?_
       simp only [List.take_succ_cons,List.take_zero,List.drop_succ_cons,List.drop_zero]
       still_step
       still_step
       still_step
       still_step
       still_call (HQ0.out _ (HK.out.num.drew.cell 0) (HK.out.sid.drew.cell 1))
       still_step
       still_call (HP2.out _ (HK.out.num.drew.cell 0) (HK.out.sid.drew.cell 0))
       refine wpStill_nil ?_
       change wpList _ _ _ _ _ wj2.drew
       go_upto_region 12 with (go_at_call 37;refine (HK.out.drew.leads Y q0 p2 GM.out HRG2.out HOK.out.pos HOK.out.lt (by have h1:=HLN.out;have h2:=HBD.out;(try have h3:=HMA.out);(try simp only [jnL_length]);omega) (by have h1:=HLN.out;have h2:=HBD.out;(try have h3:=HMA.out);(try simp only [jnL_length]);omega) (by have h1:=HLN.out;have h2:=HBD.out;(try have h3:=HMA.out);(try simp only [jnL_length]);omega) (by have h1:=HLN.out;have h2:=HBD.out;(try have h3:=HMA.out);(try simp only [jnL_length]);omega) (by have h1:=HOK.out.l0;have h2:=HOK.out.l1;(try have h3:=HLA.out);omega)).mono ?_;rintro e wj3 ⟨rfl,Ma,La,hla,hk⟩;clear mb;have HKn:=Lib.hid hk;clear hk)
       clear HK
       have HK:=HKn
       clear HKn
       have HLE:=Lib.hid hla
       have HMA:=Lib.hid (show Ma.length=4*S.length+8 by have h1:=HLN.out.1;rcases hla with ⟨_,rfl,_⟩|⟨k_,_,_,rfl,_⟩ <;> (simp only [jnL_length];exact h1))
       have HLA:=Lib.hid (show La=L\/La=L-1 by rcases hla with ⟨_,_,rfl⟩|⟨k_,_,_,_,rfl⟩ <;> simp)
       clear hla
       have mb:=HK.out.box.2.1.cell 1
       refine wp_region_still_tail 7 (by kernel_rfl) (by kernel_rfl) ?_
       simp only [List.take_succ_cons,List.take_zero,List.drop_succ_cons,List.drop_zero]
       still_step
       still_step
       still_step
       still_step
       still_call (HP3.out _ (HK.out.num.drew.cell 0) (HK.out.sid.drew.cell 0))
       still_step
       still_call (HQ3.out _ (HK.out.num.drew.cell 0) (HK.out.sid.drew.cell 1))
       refine wpStill_nil ?_
       change wpList _ _ _ _ _ wj3.drew
       go_wp2_with (go_at_call 37;refine (HK.out.drew.leads X p3 q3 GM.out HRG1.out HOK.out.pos HOK.out.lt (by have h1:=HLN.out;have h2:=HBD.out;(try have h3:=HMA.out);(try simp only [jnL_length]);omega) (by have h1:=HLN.out;have h2:=HBD.out;(try have h3:=HMA.out);(try simp only [jnL_length]);omega) (by have h1:=HLN.out;have h2:=HBD.out;(try have h3:=HMA.out);(try simp only [jnL_length]);omega) (by have h1:=HLN.out;have h2:=HBD.out;(try have h3:=HMA.out);(try simp only [jnL_length]);omega) (by have h1:=HOK.out.l0;have h2:=HOK.out.l1;(try have h3:=HLA.out);omega)).mono ?_;rintro e wj4 ⟨rfl,Mb,Lb,hlb,hk⟩;clear mb;have HKn:=Lib.hid hk;clear hk)
       clear HK
       have HK:=HKn
       clear HKn
       go_meet
       exact ⟨_,_,Lib.hid (show MvQ S M L S2 Mb Lb from by
        obtain ⟨e0,e1,e2,e3,e4,e5,e6,e7,e8,e9⟩:=HEQ.out;subst e0 e1 e2 e3 e4 e5 e6 e7 e8 e9
        have hle:=HLE.out
        rcases hle with ⟨hy,rfl,rfl⟩|⟨ky,rfl,hy,rfl,rfl⟩ <;> rcases hlb with ⟨hx,rfl,rfl⟩|⟨kx,rfl,hx,rfl,rfl⟩
        · exact poke_loopLoop HF.out.1 HF.out.2.1 HF.out.2.2
        · exact poke_edgeLoop HF.out.1 HF.out.2.1 HF.out.2.2 hx
        · exact poke_loopEdge HF.out.1 HF.out.2.1 HF.out.2.2 hy
        · exact poke_edgeEdge HF.out.1 HF.out.2.1 HF.out.2.2 hx hy (fun e=>by have h1:=HNS.out (by omega) (by omega);omega)),HK.out⟩
     · by_cases hX:X<0
       · have zs:(sg != 0)=true:=by simp;omega
         go_upto_region 14 with fail
         clear m1 m3 zs
         have yb:=HK.out.cu.box.cell 1
         refine wp_region_still_tail 6 (by kernel_rfl) (by kernel_rfl) ?_
         simp only [List.take_succ_cons,List.take_zero,List.drop_succ_cons,List.drop_zero]
         still_step
         still_step
         still_step
         still_call (HQ3.out _ (HK.out.num.drew.cell 0) (HK.out.sid.drew.cell 1))
         still_step
         still_call (HQ0.out _ (HK.out.num.drew.cell 0) (HK.out.sid.drew.cell 1))
         refine wpStill_nil ?_
         change wpList _ _ _ _ _ wj2.drew
         go_upto_region 15 with (go_at_call 27;refine (HK.out.drew.joins q3 q0 (by have h1:=HLN.out;have h2:=HBD.out;(try have h4:=HXN.out);(try have h5:=HBY.out);(try simp only [jnL_length]);omega) (by have h1:=HLN.out;have h2:=HBD.out;(try have h4:=HXN.out);(try have h5:=HBY.out);(try simp only [jnL_length]);omega) (by have h1:=HLN.out;have h2:=HBD.out;(try have h4:=HXN.out);(try have h5:=HBY.out);(try simp only [jnL_length]);omega)).mono ?_;rintro e wj5 ⟨rfl,hk⟩;clear yb;have HKn:=Lib.hid hk;clear hk)
         clear HK
         have HK:=HKn
         clear HKn
         have yb:=HK.out.cu.box.cell 1
         refine wp_region_still_tail 6 (by kernel_rfl) (by kernel_rfl) ?_
         simp only [List.take_succ_cons,List.take_zero,List.drop_succ_cons,List.drop_zero]
         still_step
         still_step
         still_step
         still_call (HP2.out _ (HK.out.num.drew.cell 0) (HK.out.sid.drew.cell 0))
         still_step
         still_call (HP3.out _ (HK.out.num.drew.cell 0) (HK.out.sid.drew.cell 0))
         refine wpStill_nil ?_
         change wpList _ _ _ _ _ wj5.drew
         go_upto_region 16 with (go_at_call 27;refine (HK.out.drew.joins p2 p3 (by have h1:=HLN.out;have h2:=HBD.out;(try have h4:=HXN.out);(try have h5:=HBY.out);(try simp only [jnL_length]);omega) (by have h1:=HLN.out;have h2:=HBD.out;(try have h4:=HXN.out);(try have h5:=HBY.out);(try simp only [jnL_length]);omega) (by have h1:=HLN.out;have h2:=HBD.out;(try have h4:=HXN.out);(try have h5:=HBY.out);(try simp only [jnL_length]);omega)).mono ?_;rintro e wj6 ⟨rfl,hk⟩;clear yb;have HKn:=Lib.hid hk;clear hk)
         clear HK
         have HK:=HKn
         clear HKn
         have y2:=HK.out.cu.box.cell 2
         have f2_:=HK.out.cu.box.frozen 2
         have l0:=HOK.out.l0
         have l1:=HOK.out.l1
         go_wp2_with fail
         go_meet
         exact ⟨_,_,Lib.hid (show MvQ S M L S2 (jnL (jnL (jnL (jnL (M0) p1 q1) q2 p0) q3 q0) p2 p3) (L-1) from by obtain ⟨e0,e1,e2,e3,e4,e5,e6,e7,e8,e9⟩:=HEQ.out;subst e0 e1 e2 e3 e4 e5 e6 e7 e8 e9;exact poke_selfLoop HF.out.1 HF.out.2.1 HF.out.2.2),HK.out.lessL (L-1)⟩
       rcases hs with hs|hs
       · subst hs
         obtain ⟨jx,rfl⟩:∃ jx:Nat,X=(jx:Int):=⟨X.toNat,by omega⟩
         have HXL:=Lib.hid (show (jx:Int)<(M.length:Int) by have:=HLN.out;have:=HRG1.out;omega)
         have HXN:=Lib.hid (show jx<M.length by have:=HXL.out;omega)
         obtain ⟨bm,om,hA2,hbm,yc⟩:=ints_mt (GM.out _ HK.out.box.2.2.2.2) HXN.out (HOK.out.pos jx HXN.out)
         subst hA2
         obtain ⟨jy,hjy⟩:∃ y,y=mt M jx:=⟨_,rfl⟩
         have HJY:=Lib.hid hjy
         have HBY:=Lib.hid (show jy<M.length by rw [hjy];exact HOK.out.lt jx HXN.out)
         have HYC:=Lib.hid (fun W (hW:Ints W (.slice (some ⟨bm,om,none⟩) M.length c2) M)=>show W.cell? ⟨bm,om+jx,none⟩=some (.int .i64 (jy:Nat)) from by obtain ⟨b_,o_,e_,_,h_⟩:=ints_mt hW HXN.out (HOK.out.pos jx HXN.out);injection e_ with e_;injection e_ with e_ e2_;subst e_ e2_;rw [hjy];exact h_)
         clear hjy yc hbm
         go_upto_region 18 with fail
         clear m1 m3
         have yb:=HK.out.cu.box.cell 1
         have mb:=HK.out.box.2.1.cell 1
         refine wp_region_still_tail 6 (by kernel_rfl) (by kernel_rfl) ?_
         simp only [List.take_succ_cons,List.take_zero,List.drop_succ_cons,List.drop_zero]
         still_step
         still_step
         still_step
         still_step
         still_step
         still_call (HP3.out _ (HK.out.num.drew.cell 0) (HK.out.sid.drew.cell 0))
         refine wpStill_nil ?_
         change wpList _ _ _ _ _ wj2.drew
         go_upto_region 19 with (go_at_call 27;refine (HK.out.drew.joins jx p3 (by have h1:=HLN.out;have h2:=HBD.out;(try have h4:=HXN.out);(try have h5:=HBY.out);(try simp only [jnL_length]);omega) (by have h1:=HLN.out;have h2:=HBD.out;(try have h4:=HXN.out);(try have h5:=HBY.out);(try simp only [jnL_length]);omega) (by have h1:=HLN.out;have h2:=HBD.out;(try have h4:=HXN.out);(try have h5:=HBY.out);(try simp only [jnL_length]);omega)).mono ?_;rintro e wj7 ⟨rfl,hk⟩;clear yb mb;have HKn:=Lib.hid hk;clear hk)
         clear HK
         have HK:=HKn
         clear HKn
         have yb:=HK.out.cu.box.cell 1
         refine wp_region_still_tail 6 (by kernel_rfl) (by kernel_rfl) ?_
         simp only [List.take_succ_cons,List.take_zero,List.drop_succ_cons,List.drop_zero]
         still_step
         still_step
         still_step
         still_call (HQ3.out _ (HK.out.num.drew.cell 0) (HK.out.sid.drew.cell 1))
         still_step
         still_call (HQ0.out _ (HK.out.num.drew.cell 0) (HK.out.sid.drew.cell 1))
         refine wpStill_nil ?_
         change wpList _ _ _ _ _ wj7.drew
         go_upto_region 20 with (go_at_call 27;refine (HK.out.drew.joins q3 q0 (by have h1:=HLN.out;have h2:=HBD.out;(try have h4:=HXN.out);(try have h5:=HBY.out);(try simp only [jnL_length]);omega) (by have h1:=HLN.out;have h2:=HBD.out;(try have h4:=HXN.out);(try have h5:=HBY.out);(try simp only [jnL_length]);omega) (by have h1:=HLN.out;have h2:=HBD.out;(try have h4:=HXN.out);(try have h5:=HBY.out);(try simp only [jnL_length]);omega)).mono ?_;rintro e wj8 ⟨rfl,hk⟩;clear yb;have HKn:=Lib.hid hk;clear hk)
         clear HK
         have HK:=HKn
         clear HKn
         have yb:=HK.out.cu.box.cell 1
         have mb:=HK.out.box.2.1.cell 1
         have db:=HK.out.dg.cell 1
         have yc:=HYC.out _ (GM.out _ HK.out.box.2.2.2.2)
         have zx:=HXL.out
         refine wp_region_still_tail 10 (by kernel_rfl) (by kernel_rfl) ?_
         simp only [List.take_succ_cons,List.take_zero,List.drop_succ_cons,List.drop_zero]
         still_step
         still_step
         still_step
         still_call (HP2.out _ (HK.out.num.drew.cell 0) (HK.out.sid.drew.cell 0))
         still_step
         still_step
         still_step
         still_step
         still_step
         still_step
         refine wpStill_nil ?_
         change wpList _ _ _ _ _ wj8.drew
         go_wp2_with (go_at_call 27;refine (HK.out.drew.joins p2 jy (by have h1:=HLN.out;have h2:=HBD.out;(try have h4:=HXN.out);(try have h5:=HBY.out);(try simp only [jnL_length]);omega) (by have h1:=HLN.out;have h2:=HBD.out;(try have h4:=HXN.out);(try have h5:=HBY.out);(try simp only [jnL_length]);omega) (by have h1:=HLN.out;have h2:=HBD.out;(try have h4:=HXN.out);(try have h5:=HBY.out);(try simp only [jnL_length]);omega)).mono ?_;rintro e wj9 ⟨rfl,hk⟩;clear yb mb db yc zx;have HKn:=Lib.hid hk;clear hk)
         clear HK
         have HK:=HKn
         clear HKn
         go_meet
         exact ⟨_,_,Lib.hid (show MvQ S M L S2 (jnL (jnL (jnL (jnL (jnL (M0) p1 q1) q2 p0) jx p3) q3 q0) p2 jy) L from by obtain ⟨e0,e1,e2,e3,e4,e5,e6,e7,e8,e9⟩:=HEQ.out;subst e0 e1 e2 e3 e4 e5 e6 e7 e8 e9;have ey:=HJY.out;subst ey;exact poke_selfOver HF.out.1 HF.out.2.1 HF.out.2.2 HXN.out),HK.out⟩
       · subst hs
         obtain ⟨jx,rfl⟩:∃ jx:Nat,X=(jx:Int):=⟨X.toNat,by omega⟩
         have HXL:=Lib.hid (show (jx:Int)<(M.length:Int) by have:=HLN.out;have:=HRG1.out;omega)
         have HXN:=Lib.hid (show jx<M.length by have:=HXL.out;omega)
         obtain ⟨bm,om,hA2,hbm,yc⟩:=ints_mt (GM.out _ HK.out.box.2.2.2.2) HXN.out (HOK.out.pos jx HXN.out)
         subst hA2
         obtain ⟨jy,hjy⟩:∃ y,y=mt M jx:=⟨_,rfl⟩
         have HJY:=Lib.hid hjy
         have HBY:=Lib.hid (show jy<M.length by rw [hjy];exact HOK.out.lt jx HXN.out)
         have HYC:=Lib.hid (fun W (hW:Ints W (.slice (some ⟨bm,om,none⟩) M.length c2) M)=>show W.cell? ⟨bm,om+jx,none⟩=some (.int .i64 (jy:Nat)) from by obtain ⟨b_,o_,e_,_,h_⟩:=ints_mt hW HXN.out (HOK.out.pos jx HXN.out);injection e_ with e_;injection e_ with e_ e2_;subst e_ e2_;rw [hjy];exact h_)
         clear hjy yc hbm
         go_upto_region 22 with fail
         clear m1 m3
         have yb:=HK.out.cu.box.cell 1
         have mb:=HK.out.box.2.1.cell 1
         refine wp_region_still_tail 6 (by kernel_rfl) (by kernel_rfl) ?_
         simp only [List.take_succ_cons,List.take_zero,List.drop_succ_cons,List.drop_zero]
         still_step
         still_step
         still_step
         still_step
         still_step
         still_call (HQ0.out _ (HK.out.num.drew.cell 0) (HK.out.sid.drew.cell 1))
         refine wpStill_nil ?_
         change wpList _ _ _ _ _ wj2.drew
         go_upto_region 23 with (go_at_call 27;refine (HK.out.drew.joins jx q0 (by have h1:=HLN.out;have h2:=HBD.out;(try have h4:=HXN.out);(try have h5:=HBY.out);(try simp only [jnL_length]);omega) (by have h1:=HLN.out;have h2:=HBD.out;(try have h4:=HXN.out);(try have h5:=HBY.out);(try simp only [jnL_length]);omega) (by have h1:=HLN.out;have h2:=HBD.out;(try have h4:=HXN.out);(try have h5:=HBY.out);(try simp only [jnL_length]);omega)).mono ?_;rintro e wj10 ⟨rfl,hk⟩;clear yb mb;have HKn:=Lib.hid hk;clear hk)
         clear HK
         have HK:=HKn
         clear HKn
         have yb:=HK.out.cu.box.cell 1
         refine wp_region_still_tail 6 (by kernel_rfl) (by kernel_rfl) ?_
         simp only [List.take_succ_cons,List.take_zero,List.drop_succ_cons,List.drop_zero]
         still_step
         still_step
         still_step
         still_call (HP2.out _ (HK.out.num.drew.cell 0) (HK.out.sid.drew.cell 0))
         still_step
         still_call (HP3.out _ (HK.out.num.drew.cell 0) (HK.out.sid.drew.cell 0))
         refine wpStill_nil ?_
         change wpList _ _ _ _ _ wj10.drew
         go_upto_region 24 with (go_at_call 27;refine (HK.out.drew.joins p2 p3 (by have h1:=HLN.out;have h2:=HBD.out;(try have h4:=HXN.out);(try have h5:=HBY.out);(try simp only [jnL_length]);omega) (by have h1:=HLN.out;have h2:=HBD.out;(try have h4:=HXN.out);(try have h5:=HBY.out);(try simp only [jnL_length]);omega) (by have h1:=HLN.out;have h2:=HBD.out;(try have h4:=HXN.out);(try have h5:=HBY.out);(try simp only [jnL_length]);omega)).mono ?_;rintro e wj11 ⟨rfl,hk⟩;clear yb;have HKn:=Lib.hid hk;clear hk)
         clear HK
         have HK:=HKn
         clear HKn
         have yb:=HK.out.cu.box.cell 1
         have mb:=HK.out.box.2.1.cell 1
         have db:=HK.out.dg.cell 1
         have yc:=HYC.out _ (GM.out _ HK.out.box.2.2.2.2)
         have zx:=HXL.out
         refine wp_region_still_tail 10 (by kernel_rfl) (by kernel_rfl) ?_
         simp only [List.take_succ_cons,List.take_zero,List.drop_succ_cons,List.drop_zero]
         still_step
         still_step
         still_step
         still_call (HQ3.out _ (HK.out.num.drew.cell 0) (HK.out.sid.drew.cell 1))
         still_step
         still_step
         still_step
         still_step
         still_step
         still_step
         refine wpStill_nil ?_
         change wpList _ _ _ _ _ wj11.drew
         go_wp2_with (go_at_call 27;refine (HK.out.drew.joins q3 jy (by have h1:=HLN.out;have h2:=HBD.out;(try have h4:=HXN.out);(try have h5:=HBY.out);(try simp only [jnL_length]);omega) (by have h1:=HLN.out;have h2:=HBD.out;(try have h4:=HXN.out);(try have h5:=HBY.out);(try simp only [jnL_length]);omega) (by have h1:=HLN.out;have h2:=HBD.out;(try have h4:=HXN.out);(try have h5:=HBY.out);(try simp only [jnL_length]);omega)).mono ?_;rintro e wj12 ⟨rfl,hk⟩;clear yb mb db yc zx;have HKn:=Lib.hid hk;clear hk)
         clear HK
         have HK:=HKn
         clear HKn
         go_meet
         exact ⟨_,_,Lib.hid (show MvQ S M L S2 (jnL (jnL (jnL (jnL (jnL (M0) p1 q1) q2 p0) jx q0) p2 p3) q3 jy) L from by obtain ⟨e0,e1,e2,e3,e4,e5,e6,e7,e8,e9⟩:=HEQ.out;subst e0 e1 e2 e3 e4 e5 e6 e7 e8 e9;have ey:=HJY.out;subst ey;exact poke_selfUnder HF.out.1 HF.out.2.1 HF.out.2.2 HXN.out),HK.out⟩
    case rest =>
     obtain ⟨Mz,Lz,hlaw,hk⟩:=hcut
     have HFM:=hlaw
     clear HK m1 m3
     have HK:=Lib.hid hk
     clear hk hlaw
     go_upto_region 25 with fail
     have b8:=HK.out.b8
     have hb4:=HB4.out
     have x0:=HK.out.cu.box.cell 0
     have c0_:=HK.out.box.2.2.1.cell 0
     have f0_:=HK.out.box.2.2.1.frozen 0
     have x1:=HK.out.cu.box.cell 1
     have c1_:=HK.out.box.2.2.1.cell 1
     have f1_:=HK.out.box.2.2.1.frozen 1
     have x2:=HK.out.cu.box.cell 2
     have c2_:=HK.out.box.2.2.1.cell 2
     have f2_:=HK.out.box.2.2.1.frozen 2
     have d0_:=HK.out.box.2.2.2.1.cell 0
     have g0_:=HK.out.box.2.2.2.1.frozen 0
     have d1_:=HK.out.box.2.2.2.1.cell 1
     have g1_:=HK.out.box.2.2.2.1.frozen 1
     have d2_:=HK.out.box.2.2.2.1.cell 2
     have g2_:=HK.out.box.2.2.2.1.frozen 2
     have d3_:=HK.out.box.2.2.2.1.cell 3
     have g3_:=HK.out.box.2.2.2.1.frozen 3
     have d4_:=HK.out.box.2.2.2.1.cell 4
     have g4_:=HK.out.box.2.2.2.1.frozen 4
     have n0:=HK.out.num.cell 0
     have ng1:g≠w.heap.size+2:=by omega
     have ng2:g≠w.heap.size+3:=by omega
     have ng3:g9≠w.heap.size+2:=by omega
     have ng4:g9≠w.heap.size+3:=by omega
     have zb:=HN7.out
     have HA:=Lib.hid (Arr.stored HK.out.box.2.2.1 HK.out.box.2.2.2.1 (by simp) (.slice A1 S2.length ca1) (.slice A M0.length cm) (.int .i64 Lz) (.int .i64 4) (.int .i64 (S.length:Nat)) (.int .i64 ((S.length:Int)+1)) (.int .i64 0) (.bool false))
     have HB:=Lib.hid (below_stored HK.out.box.2.2.2.2 (r:=w.heap.size+2) (q:=w.heap.size+3) (by simp) (by simp) (.slice A1 S2.length ca1) (.slice A M0.length cm) (.int .i64 Lz) (.int .i64 4) (.int .i64 (S.length:Nat)) (.int .i64 ((S.length:Int)+1)) (.int .i64 0) (.bool false))
     have H1:=Lib.hid (HK.out.cu.own1.stored (r:=w.heap.size+2) (q:=w.heap.size+3) (by omega) (by omega) (.slice A1 S2.length ca1) (.slice A M0.length cm) (.int .i64 Lz) (.int .i64 4) (.int .i64 (S.length:Nat)) (.int .i64 ((S.length:Int)+1)) (.int .i64 0) (.bool false))
     have H2:=Lib.hid (HK.out.cu.own2.stored (r:=w.heap.size+2) (q:=w.heap.size+3) (by omega) (by omega) (.slice A1 S2.length ca1) (.slice A M0.length cm) (.int .i64 Lz) (.int .i64 4) (.int .i64 (S.length:Nat)) (.int .i64 ((S.length:Int)+1)) (.int .i64 0) (.bool false))
     clear HK b8 hb4
     go_region
     go_wp2_with fail
     refine bodyPost_ret (v:=.tuple #[.agg #[.slice A1 S2.length ca1,.slice A M0.length cm,.int .i64 Lz],.agg #[.int .i64 4,.int .i64 (S.length:Nat),.int .i64 ((S.length:Int)+1),.int .i64 0,.bool false],.int .i64 0]) (results_cct Try.results15 _ _ (w.heap.size+2) (w.heap.size+3) 24 26 _ _ _ _ rfl HA.out.1.drew rfl HA.out.2.drew Try.underlying24 rfl info_diag Try.underlying26 rfl info_move) rfl ?_
     exact ⟨⟨_,_,S2,_,_,_,0,rfl,⟨_,_,_,_,_,rfl⟩,(H1.out.base (Nat.zero_le _)).drew,(H2.out.base (Nat.zero_le _)).drew,fun _=>HFM.out⟩,HB.out.drew⟩
 · have x0:=HBX.out.2.2.1.cell 0
   have x1:=HBX.out.2.2.1.cell 1
   have x2:=HBX.out.2.2.1.cell 2
   have f0:=HBX.out.2.2.1.frozen 0
   have f1:=HBX.out.2.2.1.frozen 1
   have f2:=HBX.out.2.2.1.frozen 2
   have z0:=HBX.out.2.2.2.1.cell 0
   have z1:=HBX.out.2.2.2.1.cell 1
   have z2:=HBX.out.2.2.2.1.cell 2
   have z3:=HBX.out.2.2.2.1.cell 3
   have z4:=HBX.out.2.2.2.1.cell 4
   have g0:=HBX.out.2.2.2.1.frozen 0
   have g1:=HBX.out.2.2.2.1.frozen 1
   have g2:=HBX.out.2.2.2.1.frozen 2
   have g3:=HBX.out.2.2.2.1.frozen 3
   have g4:=HBX.out.2.2.2.1.frozen 4
   have HA:=Lib.hid (Arr.stored HBX.out.2.2.1 HBX.out.2.2.2.1 (by simp) (.slice none 0 0) (.slice none 0 0) (.int .i64 0) (.int .i64 0) (.int .i64 0) (.int .i64 0) (.int .i64 0) (.bool false))
   have HB:=Lib.hid (below_stored HBX.out.2.2.2.2 (r:=w.heap.size+2) (q:=w.heap.size+3) (by simp) (by simp) (.slice none 0 0) (.slice none 0 0) (.int .i64 0) (.int .i64 0) (.int .i64 0) (.int .i64 0) (.int .i64 0) (.bool false))
   go_wp2_with fail
   refine bodyPost_ret (v:=.tuple #[.agg #[.slice none 0 0,.slice none 0 0,.int .i64 0],.agg #[.int .i64 0,.int .i64 0,.int .i64 0,.int .i64 0,.bool false],.int .i64 kk]) (results_cct Try.results15 _ _ (w.heap.size+2) (w.heap.size+3) 24 26 _ _ _ _ rfl HA.out.1 rfl HA.out.2 Try.underlying24 rfl info_diag Try.underlying26 rfl info_move) rfl ?_
   exact ⟨MvE.err hk,HB.out⟩
def InR (n:Nat) (kd X Y sg:Int):Prop :=
 (kd=1->-1<=X/\X<4*(n:Int)/\(sg=1\/sg = -1))/\(kd=2->0<=X/\X<(n:Int))/\(kd=4->0<=X/\X<Y/\Y<(n:Int))/\(kd=5->0<=X/\X<4*(n:Int)) /\
  (kd=3->-2<=X/\X<4*(n:Int)/\-2<=Y/\Y<4*(n:Int)/\(X=Y->0<=X->sg=1\/sg = -1)/\(sg=0\/sg=1\/sg = -1))
def InRR (n:Nat) (kd X Y sg:Int) (e:Ending):Prop:=∃ b:Bool,e=.returned (.bool b)/\(b=true->InR n kd X Y sg)
set_option maxHeartbeats 4000000 in
set_option maxRecDepth 100000 in
theorem inRange_any (n:Nat) (kd X Y sg:Int) (ov:Bool) (w:World) (hn:n<=1000) (hk:kd=1\/kd=2\/kd=3\/kd=4\/kd=5) :
 Calls Try.prog 12 #[.int .i64 (n:Nat),.agg #[.int .i64 kd,.int .i64 X,.int .i64 Y,.int .i64 sg,.bool ov]] w fun e w'=>InRR n kd X Y sg e/\Below w.heap.size w w':=by
 have hW:Arr (w.alloc (.cells #[.int .i64 kd,.int .i64 X,.int .i64 Y,.int .i64 sg,.bool ov] 26)) w.heap.size 26 [.int .i64 kd,.int .i64 X,.int .i64 Y,.int .i64 sg,.bool ov]/\Below w.heap.size w (w.alloc (.cells #[.int .i64 kd,.int .i64 X,.int .i64 Y,.int .i64 sg,.bool ov] 26)):=⟨Arr.new w _ [_,_,_,_,_],(Below.refl _ _).alloc (Nat.le_refl _) _⟩
 rcases hk with rfl|rfl|rfl|rfl|rfl
 · go_enter Try.func12,Try.ntmps12
   go_upto_region 1 with fail
   generalize (w.alloc (.cells #[.int .i64 1,.int .i64 X,.int .i64 Y,.int .i64 sg,.bool ov] 26))=w3 at hW ⊢
   obtain ⟨q,hb⟩:=hW
   have m0:=q.cell 0
   have m1:=q.cell 1
   have m2:=q.cell 2
   have m3:=q.cell 3
   have m4:=q.cell 4
   have HB:=Lib.hid hb
   clear q hb
   go_wp2_with fail
   all_goals
    go_ret
    refine ⟨⟨_,rfl,fun hbb=>?_⟩,HB.out⟩
    first
     | exact absurd hbb (by decide)
     | (try simp only [beq_iff_eq,Bool.or_eq_true,Bool.and_eq_true,decide_eq_true_eq] at hbb
        refine ⟨fun h=>?_,fun h=>?_,fun h=>?_,fun h=>?_,fun h=>?_⟩ <;> first|(exfalso;omega)|omega|exact ⟨by omega,by omega,by omega,by omega,fun h h2=>by omega,by omega⟩|(rename_i hne;have hne2:X≠Y:=(by simpa using hne);exact ⟨by omega,by omega,by omega,by omega,fun h h2=>absurd h hne2,by (first|omega|(simp only [beq_iff_eq] at hbb;omega)|(simp at hbb;omega))⟩)|(simp at hbb;exact ⟨by omega,by omega,by omega,by omega,fun h h2=>by omega,by omega⟩))
 · go_enter Try.func12,Try.ntmps12
   go_upto_region 1 with fail
   generalize (w.alloc (.cells #[.int .i64 2,.int .i64 X,.int .i64 Y,.int .i64 sg,.bool ov] 26))=w3 at hW ⊢
   obtain ⟨q,hb⟩:=hW
   have m0:=q.cell 0
   have m1:=q.cell 1
   have m2:=q.cell 2
   have m3:=q.cell 3
   have m4:=q.cell 4
   have HB:=Lib.hid hb
   clear q hb
   go_wp2_with fail
   all_goals
    go_ret
    refine ⟨⟨_,rfl,fun hbb=>?_⟩,HB.out⟩
    first
     | exact absurd hbb (by decide)
     | (try simp only [beq_iff_eq,Bool.or_eq_true,Bool.and_eq_true,decide_eq_true_eq] at hbb
        refine ⟨fun h=>?_,fun h=>?_,fun h=>?_,fun h=>?_,fun h=>?_⟩ <;> first|(exfalso;omega)|omega|exact ⟨by omega,by omega,by omega,by omega,fun h h2=>by omega,by omega⟩|(rename_i hne;have hne2:X≠Y:=(by simpa using hne);exact ⟨by omega,by omega,by omega,by omega,fun h h2=>absurd h hne2,by (first|omega|(simp only [beq_iff_eq] at hbb;omega)|(simp at hbb;omega))⟩)|(simp at hbb;exact ⟨by omega,by omega,by omega,by omega,fun h h2=>by omega,by omega⟩))
 · go_enter Try.func12,Try.ntmps12
   go_upto_region 1 with fail
   generalize (w.alloc (.cells #[.int .i64 3,.int .i64 X,.int .i64 Y,.int .i64 sg,.bool ov] 26))=w3 at hW ⊢
   obtain ⟨q,hb⟩:=hW
   have m0:=q.cell 0
   have m1:=q.cell 1
   have m2:=q.cell 2
   have m3:=q.cell 3
   have m4:=q.cell 4
   have HB:=Lib.hid hb
   clear q hb
   go_wp2_with fail
   all_goals
    go_ret
    refine ⟨⟨_,rfl,fun hbb=>?_⟩,HB.out⟩
    first
     | exact absurd hbb (by decide)
     | (try simp only [beq_iff_eq,Bool.or_eq_true,Bool.and_eq_true,decide_eq_true_eq] at hbb
        refine ⟨fun h=>?_,fun h=>?_,fun h=>?_,fun h=>?_,fun h=>?_⟩ <;> first|(exfalso;omega)|omega|exact ⟨by omega,by omega,by omega,by omega,fun h h2=>by omega,by omega⟩|(rename_i hne;have hne2:X≠Y:=(by simpa using hne);exact ⟨by omega,by omega,by omega,by omega,fun h h2=>absurd h hne2,by (first|omega|(simp only [beq_iff_eq] at hbb;omega)|(simp at hbb;omega))⟩)|(simp at hbb;exact ⟨by omega,by omega,by omega,by omega,fun h h2=>by omega,by omega⟩))
 · go_enter Try.func12,Try.ntmps12
   go_upto_region 1 with fail
   generalize (w.alloc (.cells #[.int .i64 4,.int .i64 X,.int .i64 Y,.int .i64 sg,.bool ov] 26))=w3 at hW ⊢
   obtain ⟨q,hb⟩:=hW
   have m0:=q.cell 0
   have m1:=q.cell 1
   have m2:=q.cell 2
   have m3:=q.cell 3
   have m4:=q.cell 4
   have HB:=Lib.hid hb
   clear q hb
   go_wp2_with fail
   all_goals
    go_ret
    refine ⟨⟨_,rfl,fun hbb=>?_⟩,HB.out⟩
    first
     | exact absurd hbb (by decide)
     | (try simp only [beq_iff_eq,Bool.or_eq_true,Bool.and_eq_true,decide_eq_true_eq] at hbb
        refine ⟨fun h=>?_,fun h=>?_,fun h=>?_,fun h=>?_,fun h=>?_⟩ <;> first|(exfalso;omega)|omega|exact ⟨by omega,by omega,by omega,by omega,fun h h2=>by omega,by omega⟩|(rename_i hne;have hne2:X≠Y:=(by simpa using hne);exact ⟨by omega,by omega,by omega,by omega,fun h h2=>absurd h hne2,by (first|omega|(simp only [beq_iff_eq] at hbb;omega)|(simp at hbb;omega))⟩)|(simp at hbb;exact ⟨by omega,by omega,by omega,by omega,fun h h2=>by omega,by omega⟩))
 · go_enter Try.func12,Try.ntmps12
   go_upto_region 1 with fail
   generalize (w.alloc (.cells #[.int .i64 5,.int .i64 X,.int .i64 Y,.int .i64 sg,.bool ov] 26))=w3 at hW ⊢
   obtain ⟨q,hb⟩:=hW
   have m0:=q.cell 0
   have m1:=q.cell 1
   have m2:=q.cell 2
   have m3:=q.cell 3
   have m4:=q.cell 4
   have HB:=Lib.hid hb
   clear q hb
   go_wp2_with fail
   all_goals
    go_ret
    refine ⟨⟨_,rfl,fun hbb=>?_⟩,HB.out⟩
    first
     | exact absurd hbb (by decide)
     | (try simp only [beq_iff_eq,Bool.or_eq_true,Bool.and_eq_true,decide_eq_true_eq] at hbb
        refine ⟨fun h=>?_,fun h=>?_,fun h=>?_,fun h=>?_,fun h=>?_⟩ <;> first|(exfalso;omega)|omega|exact ⟨by omega,by omega,by omega,by omega,fun h h2=>by omega,by omega⟩|(rename_i hne;have hne2:X≠Y:=(by simpa using hne);exact ⟨by omega,by omega,by omega,by omega,fun h h2=>absurd h hne2,by (first|omega|(simp only [beq_iff_eq] at hbb;omega)|(simp at hbb;omega))⟩)|(simp at hbb;exact ⟨by omega,by omega,by omega,by omega,fun h h2=>by omega,by omega⟩))
end Go.Proofs.Ytfnmeigpfmeomaa
