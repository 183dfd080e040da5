/- diagram.Valid: the walk. -/
import Derived.Test.YtfnmeigpfmeomaaZfVaw
import Derived.Deep.RegionHeld3
import Derived.Deep.DeepCutAuto
import Derived.Deep.RegionWith
import Derived.Test.YtfnmeigpfmeomaaZfTab
import Derived.Maps.AppendAt
import Derived.Deep.AppendLies
import Derived.OwnWalk
namespace Go.Proofs.Ytfnmeigpfmeomaa
open Go.RowKit
set_option linter.unusedVariables false
set_option maxHeartbeats 4000000 in
set_option maxRecDepth 100000 in
theorem valid_code (vs vm:Value) (S M:List Int) (L:Int) (w:World) (hS:Ints w vs S) (hM:Ints w vm M) :
 Calls Try.prog 11 #[.agg #[vs,vm,.int .i64 L]] w fun e w'=>e=.returned (.bool (valB S M L))/\Below w.heap.size w w':=by
 have hS0:=hS
 have hM0:=hM
 obtain ⟨A,c,rfl,hc,hx⟩:=hS
 obtain ⟨A2,c2,rfl,hc2,hx2⟩:=hM
 clear hx hx2
 obtain ⟨V,hV⟩:∃ V,V=valB S M L:=⟨_,rfl⟩
 rw [<- hV]
 have HV:=Lib.hid hV
 clear hV
 go_enter Try.func11,Try.ntmps11
 go_upto_region 1 with fail
 have hW:Arr (w.alloc (.cells #[.slice A S.length c,.slice A2 M.length c2,.int .i64 L] 24)) w.heap.size 24 [.slice A S.length c,.slice A2 M.length c2,.int .i64 L]/\Below w.heap.size w (w.alloc (.cells #[.slice A S.length c,.slice A2 M.length c2,.int .i64 L] 24)):=⟨Arr.new w _ _,(Below.refl _ _).alloc (Nat.le_refl _) _⟩
 generalize (w.alloc (.cells #[.slice A S.length c,.slice A2 M.length c2,.int .i64 L] 24))=w4 at hW ⊢
 obtain ⟨q0,hb4⟩:=hW
 have y0:=q0.cell 0
 have y1:=q0.cell 1
 have y2:=q0.cell 2
 by_cases t1:S.length<=64
 case neg =>
  have t1':(S.length:Int) > 64:=by omega
  have HE:=Lib.hid (HV.out.trans (ok_size t1))
  go_wp2_with fail
  go_ret
  exact ⟨by rw [HE.out];rfl,hb4⟩
 have t1':¬ ((S.length:Int) > 64):=by omega
 by_cases t2:M.length=4*S.length
 case neg =>
  have t2':¬ ((M.length:Int)=4*(S.length:Int)):=by omega
  have HE:=Lib.hid (HV.out.trans (ok_mate t2))
  generalize M.length=m at *
  go_wp2_with fail
  go_ret
  exact ⟨by rw [HE.out];rfl,hb4⟩
 have t2':(M.length:Int)=4*(S.length:Int):=by omega
 by_cases t3:0<=L
 case neg =>
  have t3':L<0:=by omega
  have HE:=Lib.hid (HV.out.trans (ok_low t3))
  go_wp2_with fail
  go_ret
  exact ⟨by rw [HE.out];rfl,hb4⟩
 have t3':¬ (L<0):=by omega
 by_cases t4:L<=64
 case neg =>
  have t4':L > 64:=by omega
  have HE:=Lib.hid (HV.out.trans (ok_high t4))
  go_wp2_with fail
  go_ret
  exact ⟨by rw [HE.out];rfl,hb4⟩
 have t4':¬ (L > 64):=by omega
 go_wp2_with fail
 have T2:=Lib.hid t2
 have hml:M.length<=256:=by omega
 have hgE:(M.length:Int)=4*(S.length:Int):=t2'
 clear t2 t2' y0 y1 y2 t1' hgE
 go_loopg [5,34] S.length (fun gk s5 s34 wr=>∃ k:Nat,k<=S.length/\gk=S.length-k/\s34=.int .i64 (k:Int)/\Arr wr w.heap.size 24 [.slice A S.length c,.slice A2 M.length c2,.int .i64 L]/\Below w.heap.size w wr/\Hid (∀ i (h:i<S.length),i<k->S[i]=1\/S[i] = -1))
 case atStart=>exact ⟨0,Nat.zero_le _,rfl,rfl,q0,hb4,Lib.hid fun i h h1=>by omega⟩
 case round =>
  clear q0 hb4
  obtain ⟨k,hk,rfl,rfl,q0,hb4,HS⟩:=hrel
  have y0:=q0.cell 0
  by_cases hlt:k<S.length
  · have z1:(k:Int)<(S.length:Int):=by omega
    obtain ⟨b,o,rfl,hbl,hcell⟩:=(hS0.below hb4).at_ hlt
    by_cases x1:S[k]=1
    · have HS2:Hid (∀ i (h:i<S.length),i<k+1->S[i]=1\/S[i] = -1):=Lib.hid fun i h h1=>by
       rcases Nat.lt_or_ge i k with q|q
       · exact HS.out i h q
       · have:i=k:=by omega
         subst this;exact Or.inl x1
      rw [x1] at hcell
      clear x1 HS
      go_wp2_with fail
      go_roundg (S.length-(k+1))
      case measure=>omega
      case rel=>exact ⟨k+1,by omega,rfl,by go_num,q0,hb4,HS2⟩
    · by_cases x2:S[k] = -1
      · have HS2:Hid (∀ i (h:i<S.length),i<k+1->S[i]=1\/S[i] = -1):=Lib.hid fun i h h1=>by
         rcases Nat.lt_or_ge i k with q|q
         · exact HS.out i h q
         · have:i=k:=by omega
           subst this;exact Or.inr x2
        rw [x2] at hcell
        clear x1 x2 HS
        go_wp2_with fail
        go_roundg (S.length-(k+1))
        case measure=>omega
        case rel=>exact ⟨k+1,by omega,rfl,by go_num,q0,hb4,HS2⟩
      · have HE:=Lib.hid (HV.out.trans (ok_sign hlt x1 x2))
        clear HS
        generalize S[k]=x at *
        have d1:(x != 1)=true:=by simp [x1]
        have d2:(x != -1)=true:=by simp [x2]
        go_wp2_with fail
        go_ret
        exact ⟨by rw [HE.out];rfl,hb4⟩
  · have z1:¬ ((k:Int)<(S.length:Int)):=by omega
    have HS2:Hid (∀ i (h:i<S.length),S[i]=1\/S[i] = -1):=Lib.hid fun i h=>HS.out i h (by omega)
    clear HS y0
    have y1:=q0.cell 1
    go_wp2_with fail
    clear y1
    obtain ⟨wo,rfl⟩:∃ wo:World,wo=wr:=⟨_,rfl⟩
    go_loopg [6,7,48] M.length (fun gk s6 s7 s48 wi=>∃ h:Nat,h<=M.length/\gk=M.length-h/\s48=.int .i64 (h:Int)/\Arr wi w.heap.size 24 [.slice A S.length c,.slice A2 M.length c2,.int .i64 L]/\Below w.heap.size w wi/\Hid (∀ i,i<h->mtB S M i=true))
    case atStart=>exact ⟨0,Nat.zero_le _,rfl,rfl,q0,hb4,Lib.hid fun i h1=>by omega⟩
    case round =>
     clear q0 hb4 z1 hlt hk
     obtain ⟨h,hh,rfl,rfl,q0,hb4,HM⟩:=hrel
     have y0:=q0.cell 0
     have y1:=q0.cell 1
     have y2:=q0.cell 2
     by_cases hlt:h<M.length
     · have z1:(h:Int)<4*(S.length:Int):=by have:=T2.out;omega
       have z2:(h:Int)<(M.length:Int):=by omega
       obtain ⟨b,o,rfl,hbl,hcell⟩:=(hM0.below hb4).at_ hlt
       have hgd:=getD_lt hlt
       by_cases x1:M[h]<0
       · have HE:=Lib.hid (HV.out.trans (ok_at (L:=L) hlt (show mtB S M h=false by simp [mtB,hgd];omega)))
         clear hgd
         generalize M[h]=x at *
         go_wp2_with fail
         go_ret
         exact ⟨by rw [HE.out];rfl,hb4⟩
       obtain ⟨m,hm⟩:∃ m:Nat,M[h]=(m:Int):=⟨M[h].toNat,by omega⟩
       have hmt:mt M h=m:=by unfold mt;rw [hgd,hm];omega
       rw [hm] at hcell
       have x1':¬ ((m:Int)<0):=by omega
       by_cases x2:m<M.length
       case neg =>
        have HE:=Lib.hid (HV.out.trans (ok_at (L:=L) hlt (show mtB S M h=false by have:=T2.out;simp [mtB,hgd,hm];omega)))
        have x2':(m:Int) >= 4*(S.length:Int):=by have:=T2.out;omega
        clear hgd hm hmt x1 x2
        go_wp2_with fail
        go_ret
        exact ⟨by rw [HE.out];rfl,hb4⟩
       have x2':¬ ((m:Int) >= 4*(S.length:Int)):=by have:=T2.out;omega
       have x2d:decide (4*(S.length:Int)<=(m:Int))=false:=by have:=T2.out;simp only [decide_eq_false_iff_not];omega
       by_cases x3:m=h
       · have HE:=Lib.hid (HV.out.trans (ok_at (L:=L) hlt (show mtB S M h=false by simp [mtB,hgd,hm,x3])))
         subst x3
         clear hgd hm hmt x1 x2
         go_wp2_with fail
         go_ret
         exact ⟨by rw [HE.out];rfl,hb4⟩
       have x3':((m:Int)==(h:Int))=false:=by simp;omega
       have hgm:=getD_lt x2
       obtain ⟨b',o',hA,hbl',hcell2⟩:=(hM0.below hb4).at_ x2
       injection hA with hA
       injection hA with hA1 hA2
       subst hA1 hA2
       have z3:(m:Int)<(M.length:Int):=by omega
       by_cases x4:M[m]=(h:Int)
       case neg =>
        have HE:=Lib.hid (HV.out.trans (ok_at (L:=L) hlt (show mtB S M h=false by simp [mtB,hgd,hm,hmt,hgm,x4])))
        clear hgd hm hmt hgm x1
        generalize M[m]=y at *
        have x4':(y != (h:Int))=true:=by simp [x4]
        go_wp2_with fail
        go_ret
        exact ⟨by rw [HE.out];rfl,hb4⟩
       rw [x4] at hcell2
       have lw:=q0.lt
       obtain ⟨A3,hA3⟩:∃ A3,A3=some (⟨b,o,none⟩:Addr):=⟨_,rfl⟩
       have HMB:=Lib.hid (show mtB S M h=(outB S h != outB S m) by
        have t2:=T2.out
        unfold mtB
        rw [hgd,hm,hmt,hgm,x4]
        have e1:decide ((0:Int)<=(m:Int))=true:=by simp
        have e2:decide ((m:Int)<((4*S.length:Nat):Int))=true:=by simp only [decide_eq_true_eq];omega
        have e3:decide ((m:Int)≠(h:Int))=true:=by simp only [decide_eq_true_eq];omega
        have e4:decide ((h:Int)=(h:Int))=true:=by simp
        rw [e1,e2,e3,e4];rfl)
       have HAT:=Lib.hid (fun e=>ok_at (L:=L) hlt (HMB.out.trans e))
       have x4':((h:Int) != (h:Int))=false:=by simp
       clear hgd hm hmt hgm x1 x4
       go_upto_region 15 with fail
       have KS:=Lib.hid (fun W (hb:Below wr.heap.size wr W)=>(⟨(hb.cell lw).trans y0,(hb.cell lw).trans y1,(hb.cell lw).trans y2,hb⟩:W.cell? ⟨w.heap.size,0,none⟩=some (.slice A S.length c)/\W.cell? ⟨w.heap.size,1,none⟩=some (.slice (some ⟨b,o,none⟩) M.length c2)/\W.cell? ⟨w.heap.size,2,none⟩=some (.int .i64 L)/\Below wr.heap.size wr W))
       have HJ:=Lib.hid (fun W W' (hS:W.cell? ⟨w.heap.size,0,none⟩=some (.slice A S.length c)/\W.cell? ⟨w.heap.size,1,none⟩=some (.slice (some ⟨b,o,none⟩) M.length c2)/\W.cell? ⟨w.heap.size,2,none⟩=some (.int .i64 L)/\Below wr.heap.size wr W) (hb:Below W.heap.size W W')=>Below.trans hS.2.2.2 (hb.mono hS.2.2.2.size))
       have HO1:=Lib.hid (fun W (hS:W.cell? ⟨w.heap.size,0,none⟩=some (.slice A S.length c)/\W.cell? ⟨w.heap.size,1,none⟩=some (.slice (some ⟨b,o,none⟩) M.length c2)/\W.cell? ⟨w.heap.size,2,none⟩=some (.int .i64 L)/\Below wr.heap.size wr W)=>out_code (.slice A S.length c) (.slice (some ⟨b,o,none⟩) M.length c2) L S h W (hS0.below (hb4.trans (Below.mono hS.2.2.2 hb4.size))) (by have:=T2.out;omega) (by omega))
       have HO2:=Lib.hid (fun W (hS:W.cell? ⟨w.heap.size,0,none⟩=some (.slice A S.length c)/\W.cell? ⟨w.heap.size,1,none⟩=some (.slice (some ⟨b,o,none⟩) M.length c2)/\W.cell? ⟨w.heap.size,2,none⟩=some (.int .i64 L)/\Below wr.heap.size wr W)=>out_code (.slice A S.length c) (.slice (some ⟨b,o,none⟩) M.length c2) L S m W (hS0.below (hb4.trans (Below.mono hS.2.2.2 hb4.size))) (by have:=T2.out;omega) (by omega))
       generalize outB S h=b1 at *
       generalize outB S m=b2 at *
       clear hA3
       go_cut [81] (fun s81 wx=>s81=.bool (b1==b2)/\Below wr.heap.size wr wx)
       case first =>
        go_region_held3 (fun w'=>w'.cell? ⟨w.heap.size,0,none⟩=some (.slice A S.length c)/\w'.cell? ⟨w.heap.size,1,none⟩=some (.slice (some ⟨b,o,none⟩) M.length c2)/\w'.cell? ⟨w.heap.size,2,none⟩=some (.int .i64 L)/\Below wr.heap.size wr w') ((refine KS.out _ ?_;repeat (first|exact Below.refl _ _|exact hB1|exact hB2|refine Below.drew ?_)))
         (first
          | (go_at_call_of 23 (Value.int .i64 (h:Int));refine (HO1.out _ (by assumption)).mono ?_;rintro e w11 ⟨rfl,hb11⟩;have hB1:=HJ.out _ _ (by assumption) hb11;clear hb11)
          | (go_at_call_of 23 (Value.int .i64 (m:Int));refine (HO2.out _ (by assumption)).mono ?_;rintro e w12 ⟨rfl,hb12⟩;have hB2:=HJ.out _ _ (by assumption) hb12;clear hb12))
        all_goals
         go_wp2_with fail
         go_meet
         exact ⟨rfl,by assumption⟩
       case rest =>
        obtain ⟨rfl,hbc⟩:=hcut
        have hb5:Below w.heap.size w wc:=hb4.trans (hbc.mono hb4.size)
        have q5:=q0.below hbc lw
        clear HO1 HO2 KS HJ y0 y1 y2 hcell hcell2
        by_cases he:b1=b2
        · have HE:=Lib.hid (HV.out.trans (HAT.out (by simp [he])))
          have he':(b1==b2)=true:=by simp [he]
          rw [he']
          clear he he' HMB HAT
          go_wp2_with fail
          go_ret
          exact ⟨by rw [HE.out];rfl,hb5⟩
        · have HM2:Hid (∀ i,i<h+1->mtB S M i=true):=Lib.hid fun i h1=>by
           rcases Nat.lt_or_ge i h with q|q
           · exact HM.out i q
           · have:i=h:=by omega
             subst this;rw [HMB.out];simpa using he
          have he':(b1==b2)=false:=by simpa using he
          rw [he']
          clear he he' HMB HAT
          go_wp2_with fail
          go_roundg (M.length-(h+1))
          case measure=>omega
          case rel=>exact ⟨h+1,by omega,rfl,by go_num,q5,hb5,HM2⟩
     · have z1:¬ ((h:Int)<(M.length:Int)):=by omega
       have hK:=ok_make t1 T2.out t3 t4 HS2.out (fun i hi=>HM.out i (by omega))
       have HV2:=Lib.hid (show V=sphR M S.length by rw [HV.out,valB,hK];rfl)
       have KK:=Lib.hid (ok_of hK)
       clear hK HM HS2 HV
       go_wp2_with (go_at_call 24;refine (spherical_code _ _ S M L _ (hS0.below hb4) (hM0.below hb4) KK.out).mono ?_;rintro e w5 ⟨rfl,hb5⟩)
       go_ret
       exact ⟨by rw [HV2.out];rfl,hb4.trans (hb5.mono hb4.size)⟩
structure Onl (g:Nat) (w w':World):Prop where
 os:w'.os=w.os
 tape:w'.tape=w.tape
 output:w'.output=w.output
 size:w'.heap.size=w.heap.size
 block:∀ k,k≠g->w'.heap[k]? = w.heap[k]?
theorem Onl.refl (g:Nat) (w:World):Onl g w w:=⟨rfl,rfl,rfl,rfl,fun _ _=>rfl⟩
theorem Onl.trans {g:Nat} {a b c:World} (h:Onl g a b) (k:Onl g b c):Onl g a c:=⟨k.os.trans h.os,k.tape.trans h.tape,k.output.trans h.output,k.size.trans h.size,fun i hi=>(k.block i hi).trans (h.block i hi)⟩
theorem Onl.drew {g:Nat} {a w:World} (h:Onl g a w):Onl g a w.drew:=⟨h.os,h.tape,h.output,h.size,h.block⟩
theorem Onl.drewN {g:Nat} {a w:World} (h:Onl g a w) (n:Nat):Onl g a (w.drewN n):=⟨h.os,h.tape,h.output,h.size,h.block⟩
theorem Onl.below {g B:Nat} {a w:World} (h:Onl g a w) (hB:B<=g):Below B a w:=⟨h.os,h.tape,h.output,Nat.le_of_eq h.size.symm,fun k hk=>h.block k (by omega)⟩
theorem Onl.setCell {g:Nat} {a w:World} (h:Onl g a w) (i:Nat) (u:Value):Onl g a (w.setCell ⟨g,i,none⟩ u):=by
 have hb:=(Below.refl 0 w).setCell (p:=⟨g,i,none⟩) (Nat.zero_le _) u
 exact ⟨hb.os.trans h.os,hb.tape.trans h.tape,hb.output.trans h.output,by simp [h.size],fun k hk=>(Below.heap_setCell w ⟨g,i,none⟩ u k hk).trans (h.block k hk)⟩
theorem Arr.onl {g b:Nat} {w w':World} {t:TypeId} {cs:List Value} (h:Arr w b t cs) (o:Onl g w w') (hb:b≠g):Arr w' b t cs:=(o.block b hb).trans h
theorem Onl.cell {g:Nat} {w w':World} (o:Onl g w w') {p:Addr} (hp:p.block≠g):w'.cell? p=w.cell? p:=by
 unfold World.cell?;rw [o.block p.block hp]
def fnV (pb fb:Nat):Value:=.func (.func 65) #[] #[.pointer (some ⟨pb,0,none⟩),.pointer (some ⟨fb,0,none⟩)]
set_option maxHeartbeats 4000000 in
theorem find_code (pb fb g N:Nat) (hpg:pb≠g) (hfg:fb≠g) (hN:N<=256):∀ (n x r:Nat) (P:List Nat) (w:World),P.length=N->(∀ y,y<N->gn P y<N)->x<N->Dp P n x r ->
 Arr w pb 22 [.slice (some ⟨g,0,none⟩) N N]->Arr w fb 65 [fnV pb fb]->Arr w g 3 (nc P) ->
 Calls Try.prog 65 #[.int .i64 x,.pointer (some ⟨pb,0,none⟩),.pointer (some ⟨fb,0,none⟩)] w fun e w'=>∃ P',e=.returned (.int .i64 (r:Nat))/\Fnd P P' n/\Arr w' g 3 (nc P')/\Onl g w w':=by
 intro n
 induction n with
 | zero =>
  intro x r P w hl hP hx hd ap af ag
  have y0:=ap.cell 0
  have zc:=(ag.cell x).trans (nc_get (by omega))
  obtain ⟨h1,rfl⟩:=hd
  rw [h1] at zc
  have z1:(r:Int)<(N:Int):=by omega
  clear h1
  go_enter Try.func65,Try.ntmps65
  go_wp2_with fail
  go_ret
  exact ⟨P,rfl,Fnd.refl P,ag,Onl.refl _ _⟩
 | succ n ih =>
  intro x r P w hl hP hx hd ap af ag
  have y0:=ap.cell 0
  have y1:=af.cell 0
  have zc:=(ag.cell x).trans (nc_get (by omega))
  have hpx:=hP x hx
  have HD:=Lib.hid hd
  have hne:=hd.1
  have HI:=Lib.hid (fun W (hW:Onl g w W) (hg:Arr W g 3 (nc P))=>ih (gn P x) r P W hl hP hpx hd.2 (ap.onl hW hpg) (af.onl hW hfg) hg)
  clear hd ih
  have z1:(x:Int)<(N:Int):=by omega
  have z2:((gn P x:Nat):Int)≠(x:Int):=by omega
  have z3:(((gn P x:Nat):Int) != (x:Int))=true:=by simp;omega
  generalize hp:gn P x=p at *
  have HP:=Lib.hid hp
  clear hp
  go_enter Try.func65,Try.ntmps65
  go_wp2_with fail
  have y1':w.cell? ⟨fb,0,none⟩=some (.func (.func 65) #[] #[.pointer (some ⟨pb,0,none⟩),.pointer (some ⟨fb,0,none⟩)]):=y1
  clear y1
  have HZ:=Lib.hid (fun (P':List Nat) (W:World) (hF:Fnd P P' n) (ag:Arr W g 3 (nc P'))=>show W.cell? ⟨g,x,none⟩=some (.int .i64 (p:Int)) by
   have e:=hF.stays HD.out.1 HD.out.2
   rw [HP.out] at e
   rw [ag.cell x,nc_get (by rw [hF.kp.len];omega),e])
  have HQ:=Lib.hid (fun (W:World) (hb:Onl g w W)=>(⟨(hb.cell hpg).trans y0,(hb.cell hfg).trans y1'⟩:W.cell? ⟨pb,0,none⟩=some (.slice (some ⟨g,0,none⟩) N N)/\W.cell? ⟨fb,0,none⟩=some (.func (.func 65) #[] #[.pointer (some ⟨pb,0,none⟩),.pointer (some ⟨fb,0,none⟩)])))
  go_region_with (go_at_call 65;refine (HI.out _ ?_ ?_).mono ?_;(focus (first|exact Onl.refl _ _|exact (Onl.refl _ _).drew|exact (Onl.refl _ _).drew.drew));exact ag;rintro e w1 ⟨P',rfl,hF,ag1,hO1⟩;have hO:Onl g w w1:=Onl.trans (by first|exact Onl.refl _ _|exact (Onl.refl _ _).drew|exact (Onl.refl _ _).drew.drew) hO1;clear hO1;have zd:=HZ.out _ _ hF ag1;have zf:=ag1.frozen x;obtain ⟨y3,y4⟩:=HQ.out _ hO)
  all_goals
   go_wp2_with fail
   go_ret
   exact ⟨P'.set x r,rfl,hF.step (by omega) HD.out.1 HD.out.2,by rw [<- nc_set];exact ag1.set x _,hO.setCell _ _⟩
section
variable {P:Program} {ops:Array Oper} {Q:Exit->Act->World->Prop}
theorem wp_region_facts2 {id:Nat} {a:Act} {w:World} (hm:P.follows .mixedOrders=true) (hd:apartD (dstOf ops)=true) (hb:backD ops=true)
 (I:(Nat->Bool)->(Nat->Value)->World->Prop)
 (h0:I (fun _=>false) (fun j=>slotV a ((dstOf ops).getD (j-0) none)) w.drew)
 (hstep:∀ i o,ops[i]? = some o->∀ D x w,I D x w->D i=false->(∀ j∈deps o,D j=true)->(∀ j,D j=true->∀ k∈depsAt ops j,D k=true)->wpOp P ops Q i (fun a' w'=>∃ v,a'=(putAll (dstOf ops) 0 x a).put o.dst v/\I (upd D i true) (upd x i v) w') (putAll (dstOf ops) 0 x a) w)
 (hend:∀ D x w,I D x w->(∀ i,i<ops.size->D i=true)->Q .normal (putAll (dstOf ops) 0 x a) w):(Code.region id ops true).wp P Q a w:=by
 refine wp_region_any hm (wpAny_inv hb (fun l a' w'=>∃ x,a'=putAll (dstOf ops) 0 x a/\(∀ j,l.getD j false=true->∀ k∈depsAt ops j,l.getD k false=true)/\I (fun j=>l.getD j false) x w') ?_ ?_ _ _ _ _ (by simp) ?_ ?_)
 · rintro l a' w' i hs ⟨x,rfl,hcl,hI⟩ hi
   obtain ⟨hun,o,ho,hdep⟩:=mem_ready.1 hi
   have hlt:i<ops.size:=(Array.getElem?_eq_some_iff.1 ho).1
   have hdi:(dstOf ops).getD i none=o.dst:=by
    have:ops[i]=o:=by simpa [hlt] using ho
    simp [dstOf,hlt,this]
   have hdp:∀ j∈deps o,l.getD j false=true:=by
    intro j hj
    simp only [deps,List.mem_map,List.mem_filter] at hj
    obtain ⟨e,⟨he,hbe⟩,rfl⟩:=hj
    exact hdep e (by simpa using he) hbe
   refine wpOp_mono ?_ (hstep i o ho (fun j=>l.getD j false) x w' hI (by have h':i<l.size:=by omega
                                                                         simpa [Array.getD,h'] using hun) hdp hcl)
   · rintro a'' w'' ⟨v,rfl,hI'⟩
     refine ⟨upd x i v,?_,?_,?_⟩
     · rw [<- hdi,putAll_upd _ _ _ _ _ _ hd (by simpa [dstOf] using hlt),Nat.zero_add]
     · intro j hj k hk
       by_cases e:k=i
       · subst e
         have h':k<l.size:=by omega
         simp [Array.getD,h']
       rw [getD_set_ne _ (Ne.symm e)]
       by_cases ej:j=i
       · subst ej
         simp only [depsAt,ho] at hk
         exact hdp k hk
       · rw [getD_set_ne _ (Ne.symm ej)] at hj
         exact hcl j hj k hk
     · have:(fun j=>(l.setIfInBounds i true).getD j false)=upd (fun j=>l.getD j false) i true:=by
        funext j
        by_cases e:j=i
        · subst e
          have h':j<l.size:=by omega
          simp [upd,Array.getD,h']
        · rw [upd_ne _ _ e,getD_set_ne _ (Ne.symm e)]
       rw [this]
       exact hI'
 · rintro l a' w' hs ⟨x,rfl,_,hI⟩ hall
   refine hend _ x w' hI (fun i hi=>?_)
   have:=hall i hi
   cases hl:l.getD i false with
   | true=>rfl
   | false => 
    rcases Nat.lt_or_ge i l.size with h' | h'
    · simp [Array.getD,h'] at this hl;rw [this] at hl;cases hl
    · omega
 · exact Nat.le_trans List.countP_le_length (by simp)
 · refine ⟨_,(putAll_start _ 0 a hd).symm,fun j hj=>?_,?_⟩
   · by_cases h:j<ops.size <;> simp [Array.getD,h] at hj
   have:(fun j=>(Array.replicate ops.size false).getD j false)=fun _=>false:=by
    funext j
    by_cases h:j<ops.size <;> simp [Array.getD,h]
   rw [this]
   exact h0
theorem wp_region_facts2U {id:Nat} {l:List Oper} {a:Act} {w:World} (hm:P.follows .mixedOrders=true) (hd:apartD (dstOf l.toArray)=true) (hb:backD l.toArray=true) (hg:l.all (fun o=>o.guard.isNone)=true) (hn:inD a.tmps.size (dstOf l.toArray)=true)
 (I:(Nat->Bool)->(Nat->Value)->World->Prop)
 (h0:I (fun _=>false) (fun j=>slotV a ((dstOf l.toArray).getD (j-0) none)) w.drew)
 (hstep:AllOps (fun i o=>∀ D x w (b:Act),I D x w->D i=false->(∀ j∈deps o,D j=true)->(∀ j,D j=true->∀ k∈depsAt l.toArray j,D k=true)->(∀ t:Nat,b.tmps[t]?.getD undef=look (dstOf l.toArray) x a t)->o.wp P b w (StepPost I D x i b o.dst) NoQ) 0 l)
 (hend:∀ D x w,I D x w->(∀ i,i<l.length->D i=true)->Q .normal (putAll (dstOf l.toArray) 0 x a) w):(Code.region id l.toArray true).wp P Q a w:=by
 refine wp_region_facts2 hm hd hb I h0 (fun i o ho D x w hI hD hdep hcl=>?_) (fun D x w hI h=>hend D x w hI (by simpa using h))
 have ho':l[i]? = some o:=by simpa using ho
 refine wpOp_plain ho ?_ ?_
 · have:=List.all_eq_true.1 hg o (List.mem_of_getElem? ho')
   simpa using this
 · have:=hstep.get _ _ i o ho' D x w (putAll (dstOf l.toArray) 0 x a)
   rw [Nat.zero_add] at this
   refine wp_noQ (this hI hD hdep hcl (fun t=>?_))
   rw [<- Array.getD_eq_getD_getElem?,putAll_look _ _ _ _ _ hd hn]
   unfold look
   simp only [Nat.zero_add]
end
section
variable {P:Program} {Q:Exit->Act->World->Prop}
def PhiPost (w:World) (Φ:Nat->Value->World->Prop) (i:Nat) (b:Act) (d:Option Tmp) (a':Act) (w':World):Prop:=∃ v,a'=b.put d v/\Below w.heap.size w w'/\Φ i v w'
def PhiI (w0:World) (Φ:Nat->Value->World->Prop) (x0:Nat->Value) (D:Nat->Bool) (x:Nat->Value) (w:World):Prop:=Below w0.heap.size w0 w/\(∀ i,D i=true->Φ i (x i) w)/\∀ i,D i=false->x i=x0 i
theorem wp_region_phi {id:Nat} {l:List Oper} {a:Act} {w0:World} (hm:P.follows .mixedOrders=true) (hd:apartD (dstOf l.toArray)=true) (hb:backD l.toArray=true) (hg:l.all (fun o=>o.guard.isNone)=true) (hn:inD a.tmps.size (dstOf l.toArray)=true)
 (Φ:Nat->Value->World->Prop) (hΦ:∀ i v w w',Φ i v w->Below w.heap.size w w'->Φ i v w')
 (hstep:AllOps (fun i o=>∀ (x:Nat->Value) w (b:Act),Below w0.heap.size w0 w->(∀ j∈deps o,Φ j (x j) w)->(∀ j,i∈depsAt l.toArray j->x j=slotV a ((dstOf l.toArray).getD (j-0) none))->(∀ t:Nat,b.tmps[t]?.getD undef=look (dstOf l.toArray) x a t)->o.wp P b w (PhiPost w Φ i b o.dst) NoQ) 0 l)
 (hend:∀ (x:Nat->Value) w,Below w0.heap.size w0 w->(∀ i,i<l.length->Φ i (x i) w)->Q .normal (putAll (dstOf l.toArray) 0 x a) w):(Code.region id l.toArray true).wp P Q a w0:=by
 refine wp_region_facts2U hm hd hb hg hn (PhiI w0 Φ (fun j=>slotV a ((dstOf l.toArray).getD (j-0) none))) ⟨(Below.refl _ _).drew,fun i h=>Bool.noConfusion h,fun _ _=>rfl⟩ ?_ ?_
 · have key:∀ k o,l[k]? = some o->∀ D x W (b:Act),PhiI w0 Φ (fun j=>slotV a ((dstOf l.toArray).getD (j-0) none)) D x W->D k=false->(∀ j∈deps o,D j=true)->(∀ j,D j=true->∀ q∈depsAt l.toArray j,D q=true)->(∀ t:Nat,b.tmps[t]?.getD undef=look (dstOf l.toArray) x a t)->o.wp P b W (StepPost (PhiI w0 Φ (fun j=>slotV a ((dstOf l.toArray).getD (j-0) none))) D x k b o.dst) NoQ:=by
    intro k o ho D x W b hI hD hdep hcl hbt
    have hs:=hstep.get _ _ k o ho x W b hI.1 (fun j hj=>hI.2.1 j (hdep j hj)) (fun j hj=>hI.2.2 j (by
     cases h:D j with
     | false=>rfl
     | true =>
      rw [Nat.zero_add] at hj
      have:=hcl j h k hj
      rw [hD] at this;cases this)) hbt
    rw [Nat.zero_add] at hs
    refine Oper.wp_mono ?_ hs
    rintro a' w' ⟨v,rfl,hb',hv⟩
    refine ⟨v,rfl,hI.1.trans (hb'.mono hI.1.size),fun i hi=>?_,fun i hi=>?_⟩
    · by_cases e:i=k
      · subst e;rw [upd_same];exact hv
      · rw [upd_ne _ _ e] at hi ⊢
        exact hΦ i (x i) W w' (hI.2.1 i hi) hb'
    · by_cases e:i=k
      · subst e;rw [upd_same] at hi;cases hi
      · rw [upd_ne _ _ e] at hi ⊢
        exact hI.2.2 i hi
   have aux:∀ (r:List Oper) (s:Nat),(∀ k,r[k]? = l[s+k]?)->AllOps (fun i o=>∀ D x W (b:Act),PhiI w0 Φ (fun j=>slotV a ((dstOf l.toArray).getD (j-0) none)) D x W->D i=false->(∀ j∈deps o,D j=true)->(∀ j,D j=true->∀ q∈depsAt l.toArray j,D q=true)->(∀ t:Nat,b.tmps[t]?.getD undef=look (dstOf l.toArray) x a t)->o.wp P b W (StepPost (PhiI w0 Φ (fun j=>slotV a ((dstOf l.toArray).getD (j-0) none))) D x i b o.dst) NoQ) s r:=by
    intro r
    induction r with
    | nil=>intro s _;trivial
    | cons o r ih =>
     intro s hr
     refine ⟨key s o (by have:=hr 0;simpa using this.symm),ih (s+1) (fun k=>?_)⟩
     have:=hr (k+1)
     rw [List.getElem?_cons_succ] at this
     rw [this];congr 1;omega
   exact aux l 0 (fun k=>by rw [Nat.zero_add])
 · intro D x W hI hall
   exact hend x W hI.1 (fun i hi=>hI.2.1 i (hall i hi))
variable {w:World} {Φ:Nat->Value->World->Prop} {i:Nat} {b:Act} {o:Oper}
theorem phi_run (v:Value) (h:(execOp b.eval o).run P w=.ok (.value v) w) (hv:Φ i v w):o.wp P b w (PhiPost w Φ i b o.dst) NoQ:=by
 unfold Oper.wp;rw [h];exact ⟨v,rfl,Below.refl _ _,hv⟩
theorem phi_make (v:Value) (w':World) (h:(execOp b.eval o).run P w=.ok (.value v) w') (hb:Below w.heap.size w w') (hv:Φ i v w'):o.wp P b w (PhiPost w Φ i b o.dst) NoQ:=by
 unfold Oper.wp;rw [h];exact ⟨v,rfl,hb,hv⟩
theorem phi_call {f:FuncId} {args:Array Value} (h:(execOp b.eval o).run P w=.ok (.enter f args) w) (hc:Calls P f args w fun e w'=>∃ v,e=.returned v/\Below w.heap.size w w'/\Φ i v w'):o.wp P b w (PhiPost w Φ i b o.dst) NoQ:=by
 unfold Oper.wp;rw [h]
 simp only [Oper.upon]
 refine hc.mono ?_
 rintro e w' ⟨v,rfl,hb,hv⟩
 exact ⟨v,rfl,hb,hv⟩
def phiT (ev:Nat->Option Value) (Ψ:Nat->Value->World->Prop) (i:Nat) (v:Value) (w:World):Prop:=match ev i with|some u=>v=u|none=>Ψ i v w
end
section
variable {P:Program} {Q:Exit->Act->World->Prop}
def PhfPost (w:World) (Φ:Nat->Value->World->Prop) (fr:Nat->Bool) (i:Nat) (b:Act) (d:Option Tmp) (a':Act) (w':World):Prop:=∃ v,a'=b.put d v/\Below w.heap.size w w'/\Φ i v w'/\(fr i=true->∀ k,v.ownBlock=some k->w.heap.size<=k)
def ApF (fr:Nat->Bool) (D:Nat->Bool) (x:Nat->Value):Prop:=∀ i j,i≠j->D i=true->D j=true->fr i=true->fr j=true->∀ k,(x i).ownBlock=some k->(x j).ownBlock≠some k
def PhfI (w0:World) (Φ:Nat->Value->World->Prop) (fr:Nat->Bool) (x0:Nat->Value) (D:Nat->Bool) (x:Nat->Value) (w:World):Prop:=PhiI w0 Φ x0 D x w/\ApF fr D x
def PhsI (w0:World) (n:Nat) (Φ:Nat->Value->World->Prop) (fr:Nat->Bool) (R:(Nat->Value)->World->Prop) (x0:Nat->Value) (D:Nat->Bool) (x:Nat->Value) (w:World):Prop:=if D n=true then R x w else PhfI w0 Φ fr x0 D x w
theorem wp_region_phis {id:Nat} {l:List Oper} {a:Act} {w0:World} (n:Nat) (hm:P.follows .mixedOrders=true) (hd:apartD (dstOf l.toArray)=true) (hb:backD l.toArray=true) (hg:l.all (fun o=>o.guard.isNone)=true) (hn:inD a.tmps.size (dstOf l.toArray)=true)
 (hlen:l.length=n+1) (hneed:needB l.toArray n=true)
 (Φ:Nat->Value->World->Prop) (hΦ:∀ i v w w',Φ i v w->Below w.heap.size w w'->Φ i v w') (fr:Nat->Bool) (hfr:∀ i v w,fr i=true->Φ i v w->∀ k,v.ownBlock=some k->k<w.heap.size) (R:(Nat->Value)->World->Prop)
 (hstep:AllOps (fun i o=>∀ (x:Nat->Value) w (b:Act),Below w0.heap.size w0 w->(∀ j∈deps o,Φ j (x j) w)->(∀ j1∈deps o,∀ j2∈deps o,j1≠j2->fr j1=true->fr j2=true->∀ k,(x j1).ownBlock=some k->(x j2).ownBlock≠some k)->(∀ j,i∈depsAt l.toArray j->x j=slotV a ((dstOf l.toArray).getD (j-0) none))->(∀ t:Nat,b.tmps[t]?.getD undef=look (dstOf l.toArray) x a t) ->
  (i<n->o.wp P b w (PhfPost w Φ fr i b o.dst) NoQ)/\(i=n->(∀ j,j<n->Φ j (x j) w)->o.wp P b w (fun a' w'=>∃ v,a'=b.put o.dst v/\R (upd x n v) w') NoQ)) 0 l)
 (hend:∀ (x:Nat->Value) w,R x w->Q .normal (putAll (dstOf l.toArray) 0 x a) w):(Code.region id l.toArray true).wp P Q a w0:=by
 refine wp_region_facts2U hm hd hb hg hn (PhsI w0 n Φ fr R (fun j=>slotV a ((dstOf l.toArray).getD (j-0) none))) ?_ ?_ ?_
 · unfold PhsI
   rw [if_neg (by simp)]
   exact ⟨⟨(Below.refl _ _).drew,fun i h=>Bool.noConfusion h,fun _ _=>rfl⟩,fun i j _ h=>Bool.noConfusion h⟩
 · have key:∀ k o,l[k]? = some o->∀ D x W (b:Act),PhsI w0 n Φ fr R (fun j=>slotV a ((dstOf l.toArray).getD (j-0) none)) D x W->D k=false->(∀ j∈deps o,D j=true)->(∀ j,D j=true->∀ q∈depsAt l.toArray j,D q=true)->(∀ t:Nat,b.tmps[t]?.getD undef=look (dstOf l.toArray) x a t)->o.wp P b W (StepPost (PhsI w0 n Φ fr R (fun j=>slotV a ((dstOf l.toArray).getD (j-0) none))) D x k b o.dst) NoQ:=by
    intro k o ho D x W b hI hD hdep hcl hbt
    have hk:k<=n:=by have:=(List.getElem?_eq_some_iff.1 ho).1;omega
    have hDn:D n=false:=by
     cases h:D n with
     | false=>rfl
     | true=>have:=need_all hneed hcl h _ k hk (Nat.le_refl _);rw [this] at hD;cases hD
    unfold PhsI at hI
    rw [hDn,if_neg (by simp)] at hI
    obtain ⟨hI,hAp⟩:=hI
    have hs:=hstep.get _ _ k o ho x W b hI.1 (fun j hj=>hI.2.1 j (hdep j hj)) (fun j1 h1 j2 h2 hne f1 f2=>hAp j1 j2 hne (hdep j1 h1) (hdep j2 h2) f1 f2) (fun j hj=>hI.2.2 j (by
     cases h:D j with
     | false=>rfl
     | true =>
      rw [Nat.zero_add] at hj
      have:=hcl j h k hj
      rw [hD] at this;cases this)) hbt
    rw [Nat.zero_add] at hs
    by_cases hkn:k=n
    · subst hkn
      have hDall:∀ j,j<k->D j=true:=by
       intro j hj
       have hcl':∀ j,upd D k true j=true->∀ q∈depsAt l.toArray j,upd D k true q=true:=by
        intro j hj q hq
        by_cases eq:q=k
        · subst eq;rw [upd_same]
        rw [upd_ne _ _ eq]
        by_cases ej:j=k
        · subst ej
          have:depsAt l.toArray j=deps o:=by
           have h1:l.toArray[j]? = some o:=by simpa using ho
           simp [depsAt,h1]
          rw [this] at hq
          exact hdep q hq
        · rw [upd_ne _ _ ej] at hj
          exact hcl j hj q hq
       have:=need_all hneed hcl' (upd_same _ _ _) _ j (by omega) (Nat.le_refl _)
       rwa [upd_ne _ _ (show j≠k by omega)] at this
      refine Oper.wp_mono ?_ (hs.2 rfl (fun j hj=>hI.2.1 j (hDall j hj)))
      rintro a' w' ⟨v,rfl,hR⟩
      refine ⟨v,rfl,?_⟩
      unfold PhsI
      rw [if_pos (upd_same _ _ _)]
      exact hR
    · refine Oper.wp_mono ?_ (hs.1 (by omega))
      rintro a' w' ⟨v,rfl,hb',hv,hfv⟩
      refine ⟨v,rfl,?_⟩
      unfold PhsI
      rw [upd_ne _ _ (show n≠k from fun e=>hkn e.symm),hDn,if_neg (by simp)]
      refine ⟨⟨hI.1.trans (hb'.mono hI.1.size),fun i hi=>?_,fun i hi=>?_⟩,fun i j hij hi hj fi fj=>?_⟩
      · by_cases e:i=k
        · subst e;rw [upd_same];exact hv
        · rw [upd_ne _ _ e] at hi ⊢
          exact hΦ i (x i) W w' (hI.2.1 i hi) hb'
      · by_cases e:i=k
        · subst e;rw [upd_same] at hi;cases hi
        · rw [upd_ne _ _ e] at hi ⊢
          exact hI.2.2 i hi
      · intro q hq
        by_cases ei:i=k
        · subst ei
          have ej:j≠i:=fun e=>hij e.symm
          rw [upd_same] at hq
          rw [upd_ne _ _ ej] at hj ⊢
          intro h2
          have h3:=hfr j (x j) W fj (hI.2.1 j hj) q h2
          have h4:=hfv fi q hq
          omega
        · rw [upd_ne _ _ ei] at hi hq
          by_cases ej:j=k
          · subst ej
            rw [upd_same]
            intro h2
            have h3:=hfr i (x i) W fi (hI.2.1 i hi) q hq
            have h4:=hfv fj q h2
            omega
          · rw [upd_ne _ _ ej] at hj ⊢
            exact hAp i j hij hi hj fi fj q hq
   have aux:∀ (r:List Oper) (s:Nat),(∀ k,r[k]? = l[s+k]?)->AllOps (fun i o=>∀ D x W (b:Act),PhsI w0 n Φ fr R (fun j=>slotV a ((dstOf l.toArray).getD (j-0) none)) D x W->D i=false->(∀ j∈deps o,D j=true)->(∀ j,D j=true->∀ q∈depsAt l.toArray j,D q=true)->(∀ t:Nat,b.tmps[t]?.getD undef=look (dstOf l.toArray) x a t)->o.wp P b W (StepPost (PhsI w0 n Φ fr R (fun j=>slotV a ((dstOf l.toArray).getD (j-0) none))) D x i b o.dst) NoQ) s r:=by
    intro r
    induction r with
    | nil=>intro s _;trivial
    | cons o r ih =>
     intro s hr
     refine ⟨key s o (by have:=hr 0;simpa using this.symm),ih (s+1) (fun k=>?_)⟩
     have:=hr (k+1)
     rw [List.getElem?_cons_succ] at this
     rw [this];congr 1;omega
   exact aux l 0 (fun k=>by rw [Nat.zero_add])
 · intro D x W hI hall
   have hDn:=hall n (by omega)
   unfold PhsI at hI
   rw [if_pos hDn] at hI
   exact hend x W hI
variable {w:World} {Φ:Nat->Value->World->Prop} {fr:Nat->Bool} {i:Nat} {b:Act} {o:Oper}
theorem phs_store {R:(Nat->Value)->World->Prop} {x:Nat->Value} {n:Nat} (W:World) (h:(execOp b.eval o).run P w=.ok .skip W) (ho:o.dst=none) (hR:∀ v,R (upd x n v) W):o.wp P b w (fun a' w'=>∃ v,a'=b.put o.dst v/\R (upd x n v) w') NoQ:=by
 unfold Oper.wp;rw [h]
 refine ⟨undef,?_,hR undef⟩
 rw [ho]
theorem phf_run (v:Value) (hf:fr i=false) (h:(execOp b.eval o).run P w=.ok (.value v) w) (hv:Φ i v w):o.wp P b w (PhfPost w Φ fr i b o.dst) NoQ:=by
 unfold Oper.wp;rw [h];exact ⟨v,rfl,Below.refl _ _,hv,fun e=>by rw [hf] at e;cases e⟩
theorem phf_make (v:Value) (w':World) (h:(execOp b.eval o).run P w=.ok (.value v) w') (hb:Below w.heap.size w w') (hv:Φ i v w') (hf:fr i=true->∀ k,v.ownBlock=some k->w.heap.size<=k):o.wp P b w (PhfPost w Φ fr i b o.dst) NoQ:=by
 unfold Oper.wp;rw [h];exact ⟨v,rfl,hb,hv,hf⟩
theorem phf_call {f:FuncId} {args:Array Value} (h:(execOp b.eval o).run P w=.ok (.enter f args) w) (hc:Calls P f args w fun e w'=>∃ v,e=.returned v/\Below w.heap.size w w'/\Φ i v w'/\(fr i=true->∀ k,v.ownBlock=some k->w.heap.size<=k)):o.wp P b w (PhfPost w Φ fr i b o.dst) NoQ:=by
 unfold Oper.wp;rw [h]
 simp only [Oper.upon]
 refine hc.mono ?_
 rintro e w' ⟨v,rfl,hb,hv⟩
 exact ⟨v,rfl,hb,hv⟩
end
def needL (ops:Array Oper) (n:Nat) (late:Nat->Bool):Bool:=(List.range ops.size).all fun i=>decide (i=n) || late i || (List.range ops.size).any fun j=>(decide (j=n) || (!late j && decide (i<j))) && (depsAt ops j).contains i
theorem needL_all {ops:Array Oper} {n:Nat} {late:Nat->Bool} (h:needL ops n late=true) {D:Nat->Bool} (hcl:∀ j,D j=true->∀ k∈depsAt ops j,D k=true) (hn:D n=true):∀ q i,i<ops.size->ops.size-i<=q->late i=false->D i=true:=by
 intro q
 induction q with
 | zero=>intro i h1 h2;omega
 | succ q ih =>
  intro i h1 h2 hl
  by_cases e:i=n
  · rw [e];exact hn
  · have h3:=List.all_eq_true.1 h i (by simpa using h1)
    simp only [Bool.or_eq_true,decide_eq_true_eq,e,hl,false_or,Bool.false_eq_true] at h3
    obtain ⟨j,hj,h4⟩:=List.any_eq_true.1 h3
    simp only [Bool.and_eq_true,Bool.or_eq_true,decide_eq_true_eq,List.contains_iff_mem,Bool.not_eq_true'] at h4
    simp only [List.mem_range] at hj
    rcases h4.1 with e2|e2
    · subst e2;exact hcl j hn i h4.2
    · exact hcl j (ih j hj (by omega) e2.1) i h4.2
section
variable {P:Program} {Q:Exit->Act->World->Prop}
theorem phiT_val {ev:Nat->Option Value} {Ψ:Nat->Value->World->Prop} {i:Nat} {v u:Value} {w:World} (h:phiT ev Ψ i v w) (he:ev i=some u):v=u:=by
 unfold phiT at h;rw [he] at h;exact h
theorem phl_st {R:(Nat->Value)->World->Prop} {x:Nat->Value} {n:Nat} {o:Oper} {b:Act} {w:World} (W:World) (h:(execOp b.eval o).run P w=.ok .skip W) (ho:o.dst=none) (hR:∀ v,R (upd x n v) W) {e:Option Value} (he:e=none):o.wp P b w (fun a' w'=>∃ v,a'=b.put o.dst v/\R (upd x n v) w'/\∀ u,e=some u->v=u) NoQ:=by
 unfold Oper.wp;rw [h];exact ⟨undef,by rw [ho],hR _,fun u hu=>by rw [he] at hu;cases hu⟩
end
section
variable {α:Type}
def OwnA (e:TypeId) (sz:Nat) (enc:α->List Value) (base:Nat) (w:World) (v:Value) (xs:List α):Prop:=w.ownsRow base e sz v xs.length (xs.flatMap enc)
def SlA (enc:α->List Value) (w:World) (u:Value) (ys:List α):Prop :=
 ∃ A c,u=.slice A ys.length c/\ys.length<=c/\∀ j q,(ys.flatMap enc)[j]? = some q->∃ b o,A=some ⟨b,o,none⟩/\w.cell? ⟨b,o+j,none⟩=some q
def SlA0 (enc:α->List Value) (w:World) (u:Value) (ys:List α):Prop :=
 ∃ A c,u=.slice A ys.length c/\∀ j q,(ys.flatMap enc)[j]? = some q->∃ b o,A=some ⟨b,o,none⟩/\w.cell? ⟨b,o+j,none⟩=some q
variable {e:TypeId} {sz:Nat} {enc:α->List Value} {base:Nat} {w w':World} {v u:Value} {xs ys:List α}
theorem SlA.weak (h:SlA enc w u ys):SlA0 enc w u ys:=by
 obtain ⟨A,c,e,_,hx⟩:=h
 exact ⟨A,c,e,hx⟩
theorem OwnA.form (h:OwnA e sz enc base w v xs):∃ A c,v=.slice A xs.length c:=by
 rcases h.2 with ⟨rfl,h0⟩|⟨g,cap,cur,rfl,_⟩
 · exact ⟨none,0,by rw [h0]⟩
 · exact ⟨_,_,rfl⟩
theorem OwnA.lt (h:OwnA e sz enc base w v xs):∀ k,v.ownBlock=some k->k<w.heap.size:=by
 intro k hk
 rcases h.2 with ⟨rfl,h0⟩|⟨b,cap,cur,rfl,hg,hh,r⟩
 · simp [Value.ownBlock] at hk
 · simp [Value.ownBlock] at hk
   subst hk
   exact (Array.getElem?_eq_some_iff.1 hh).1
theorem OwnA.block (h:OwnA e sz enc base w v xs):∀ k,v.ownBlock=some k->base<=k:=by
 intro k hk
 rcases h.2 with ⟨rfl,h0⟩|⟨g,cap,cur,rfl,hg,_⟩
 · simp [Value.ownBlock] at hk
 · simp [Value.ownBlock] at hk;omega
theorem OwnA.keepK (h:OwnA e sz enc base w v xs) (hk:∀ k,v.ownBlock=some k->w'.heap[k]? = w.heap[k]?):OwnA e sz enc base w' v xs:=by
 refine ⟨h.1,?_⟩
 rcases h.2 with h0|⟨b,cap,cur,rfl,hg,hh,r⟩
 · exact .inl h0
 · exact .inr ⟨b,cap,cur,rfl,hg,(hk b rfl).trans hh,r⟩
theorem OwnA.below (h:OwnA e sz enc base w v xs) (hb:Below w.heap.size w w'):OwnA e sz enc base w' v xs:=h.keepK fun k hk=>hb.block k (h.lt k hk)
theorem OwnA.alloc (h:OwnA e sz enc base w v xs) (o:Obj):OwnA e sz enc base (w.alloc o) v xs:=h.below ((Below.refl _ _).alloc (Nat.le_refl _) o)
theorem OwnA.low {b2:Nat} (h:OwnA e sz enc base w v xs) (hb:b2<=base):OwnA e sz enc b2 w v xs:=by
 refine ⟨h.1,?_⟩
 rcases h.2 with h0|⟨g,cap,cur,rfl,hg,r⟩
 · exact .inl h0
 · exact .inr ⟨g,cap,cur,rfl,Nat.le_trans hb hg,r⟩
theorem OwnA.nil (e:TypeId) (sz:Nat) (enc:α->List Value) (base:Nat) (w:World):OwnA e sz enc base w (.slice none 0 0) []:=⟨by simp,.inl ⟨rfl,rfl⟩⟩
theorem SlA.below (h:SlA enc w u ys) (hb:Below w.heap.size w w'):SlA enc w' u ys:=by
 obtain ⟨A,c,hu,hc,hx⟩:=h
 refine ⟨A,c,hu,hc,fun j q hq=>?_⟩
 obtain ⟨b,o,hA,hcell⟩:=hx j q hq
 exact ⟨b,o,hA,(hb.cell (block_lt_of_cell hcell)).trans hcell⟩
theorem SlA.nil (enc:α->List Value) (w:World):SlA enc w (.slice none 0 0) ([]:List α):=⟨none,0,rfl,Nat.le_refl _,fun j q h=>by simp at h⟩
theorem OwnA.sl (h:OwnA e sz enc base w v xs):SlA enc w v xs:=by
 rcases h.2 with ⟨rfl,h0⟩|⟨g,cap,cur,rfl,hg,hh,hn,_,hc,ht⟩
 · have:xs=[]:=List.eq_nil_of_length_eq_zero h0
   subst this
   exact SlA.nil enc w
 · refine ⟨_,_,rfl,hn,fun j q hq=>⟨g,0,rfl,?_⟩⟩
   rw [cell_of_row w g _ cur e (0,0) hh,Nat.zero_add]
   have h1:(cur.toList.take (xs.length*sz))[j]? = some q:=by rw [ht];exact hq
   rw [List.getElem?_take] at h1
   split at h1
   · simpa using h1
   · cases h1
theorem OwnA.lit (hsz:∀ x∈xs,(enc x).length=sz) (hb:base<=w.heap.size) (hl:xs.length<=1000000) (hn:xs≠[]):OwnA e sz enc base (w.alloc (.cells (rowOf (xs.flatMap enc)) e)) (.slice (some ⟨w.heap.size,0,none⟩) xs.length xs.length) xs:=by
 have hlen:(xs.flatMap enc).length=xs.length*sz:=by
  clear hl hn
  induction xs with
  | nil=>simp
  | cons x xs ih=>rw [List.flatMap_cons,List.length_append,ih (fun y hy=>hsz y (List.mem_cons_of_mem _ hy)),hsz x (List.mem_cons_self ..),List.length_cons,Nat.succ_mul];omega
 refine ⟨hlen,.inr ⟨w.heap.size,xs.length,rowOf (xs.flatMap enc),rfl,hb,heap_alloc_new w _,Nat.le_refl _,by unfold maxLen;omega,by unfold rowOf;simp [hlen],?_⟩⟩
 show List.take (xs.length*sz) (xs.flatMap enc)=_
 exact List.take_of_length_le (by omega)
theorem run_appA0 {P:Program} {t ty:TypeId} {i:TypeInfo} {z:Value} {bytes:Nat} (ht:P.underlying t=some (.slice e)) (hi:P.info? e=some i) (hz:i.zero=some z) (hs:i.size=sz) (hby:i.bytes=bytes) (hzs:z.cells.size=sz) (hsz0:0<sz) (hb16:bytes<=64)
 (hsz:∀ x∈ys,(enc x).length=sz) (hone:∀ x∈ys,∀ q∈enc x,q.oneCell'=true)
 (h:OwnA e sz enc base w v xs) (hu:SlA0 enc w u ys) (hlen:xs.length+ys.length<=1000000000) (hbase:base<=w.heap.size) :
 ∃ v' w',(Builtin.append_ #[t,t] ty #[v,u]).run P w=.ok v' w'/\OwnA e sz enc base w' v' (xs ++ ys)/\Below base w w'/\(∀ k,k<w.heap.size->v.ownBlock≠some k->w'.heap[k]? = w.heap[k]?)/\(v'.ownBlock=v.ownBlock\/v'.ownBlock=some w.heap.size):=by
 obtain ⟨A,c,rfl,hx⟩:=hu
 have hylen:(ys.flatMap enc).length=ys.length*sz:=by
  clear hx hlen hone
  induction ys with
  | nil=>simp
  | cons x xs ih=>rw [List.flatMap_cons,List.length_append,ih (fun y hy=>hsz y (List.mem_cons_of_mem _ hy)),hsz x (List.mem_cons_self ..),List.length_cons,Nat.succ_mul];omega
 cases A with
 | none =>
  have hy:ys=[]:=by
   cases ys with
   | nil=>rfl
   | cons y ys =>
    exfalso
    have h0:0<((y :: ys).flatMap enc).length:=by rw [hylen,List.length_cons];exact Nat.mul_pos (by omega) hsz0
    obtain ⟨b,o,hA,_⟩:=hx 0 _ (List.getElem?_eq_getElem h0)
    cases hA
  subst hy
  refine ⟨v,w,?_,by simpa using h,Below.refl _ _,fun _ _ _=>rfl,.inl rfl⟩
  rcases h.2 with ⟨rfl,h0⟩|⟨g,cap,cur,rfl,_,_,hnc,_⟩
  · simp [Builtin.append_,run_underlying ht,sizeOf,typeInfo,hi,Builtin.lenOf,Builtin.firstCells]
  · simp [Builtin.append_,run_underlying ht,sizeOf,typeInfo,hi,Builtin.lenOf,Builtin.firstCells,hnc,storeCells]
 | some ad =>
  have hcells:∀ j q,(ys.flatMap enc)[j]? = some q->w.cell? (ad.add j)=some q:=by
   intro j q hq
   obtain ⟨b,o,hA,hcell⟩:=hx j q hq
   injection hA with hA
   subst hA
   have:(⟨b,o,none⟩:Addr).add j=⟨b,o+j,none⟩:=by unfold Addr.add;split <;> simp_all
   rw [this];exact hcell
  obtain ⟨v',w',hrun,h2,h3,_,h5⟩:=run_append_own_at (P:=P) w base t ty e i z sz bytes ht hi hz hs hby hzs hsz0 v xs.length (xs.flatMap enc) h ad ys.length c (ys.flatMap enc) hylen hcells
   (by intro q hq;obtain ⟨y,hy,hq2⟩:=List.mem_flatMap.1 hq;exact hone y hy q hq2) (by unfold maxLen;omega) (Nat.le_trans (Nat.mul_le_mul hlen hb16) (by omega)) hbase
  refine ⟨v',w',hrun,?_,(Below.refl _ _).grown h3 hbase h.block,fun k hk hne=>h3.block k hk (fun e=>hne e.symm),h5⟩
  unfold OwnA
  rw [List.length_append,List.flatMap_append]
  exact h2
theorem run_appA {P:Program} {t ty:TypeId} {i:TypeInfo} {z:Value} {bytes:Nat} (ht:P.underlying t=some (.slice e)) (hi:P.info? e=some i) (hz:i.zero=some z) (hs:i.size=sz) (hby:i.bytes=bytes) (hzs:z.cells.size=sz) (hsz0:0<sz) (hb16:bytes<=64)
 (hsz:∀ x∈ys,(enc x).length=sz) (hone:∀ x∈ys,∀ q∈enc x,q.oneCell'=true)
 (h:OwnA e sz enc base w v xs) (hu:SlA enc w u ys) (hlen:xs.length+ys.length<=1000000000) (hbase:base<=w.heap.size) :
 ∃ v' w',(Builtin.append_ #[t,t] ty #[v,u]).run P w=.ok v' w'/\OwnA e sz enc base w' v' (xs ++ ys)/\Below base w w'/\(∀ k,k<w.heap.size->v.ownBlock≠some k->w'.heap[k]? = w.heap[k]?)/\(v'.ownBlock=v.ownBlock\/v'.ownBlock=some w.heap.size) :=
 run_appA0 ht hi hz hs hby hzs hsz0 hb16 hsz hone h hu.weak hlen hbase
theorem append_typesA {P:Program} {t t2 ty:TypeId} (ht:P.underlying t=some (.slice e)) (ht2:P.underlying t2=some (.slice e)):(Builtin.append_ #[t,t2] ty #[v,u]).run P w=(Builtin.append_ #[t,t] ty #[v,u]).run P w:=by
 unfold Builtin.append_
 cases v <;> simp [run_underlying ht,run_underlying ht2,Sem.run_bind]
structure ElA (P:Program) (e:TypeId) (sz:Nat) (enc:α->List Value):Prop where
 ex:∃ i z bytes,P.info? e=some i/\i.zero=some z/\i.size=sz/\i.bytes=bytes/\z.cells.size=sz/\bytes<=64
 pos:0<sz
 len:∀ x,(enc x).length=sz
 one:∀ x,∀ q∈enc x,q.oneCell'=true
theorem wp_appA {P:Program} {o:Oper} {a:Act} {K:Act->World->Prop} {Q:Exit->Act->World->Prop} (E:ElA P e sz enc) (s x:Operand) (t t2:TypeId) (ho:o.op=.call { callee:=.builtin .append,args:=#[s,x],argTypes:=#[t,t2] })
 (ht:P.underlying t=some (.slice e)) (ht2:P.underlying t2=some (.slice e))
 (hv:a.eval s=v) (h:OwnA e sz enc base w v xs) (hx:a.eval x=u) (hu:SlA enc w u ys) (hlen:xs.length+ys.length<=1000000000) (hbase:base<=w.heap.size)
 (hK:∀ v' w',OwnA e sz enc base w' v' (xs ++ ys)->Below base w w'->(∀ k,k<w.heap.size->v.ownBlock≠some k->w'.heap[k]? = w.heap[k]?)->(v'.ownBlock=v.ownBlock\/v'.ownBlock=some w.heap.size)->K (a.put o.dst v') w'):o.wp P a w K Q:=by
 obtain ⟨i,z,bytes,hi,hz,hs,hby,hzs,hb⟩:=E.ex
 obtain ⟨v',w',hrun,h1,h2,h3,h4⟩:=run_appA (P:=P) (ty:=o.type) ht hi hz hs hby hzs E.pos hb (fun x _=>E.len x) (fun x _=>E.one x) h hu hlen hbase
 unfold Oper.wp execOp
 simp only [ho,resolve,invoke,builtin,Sem.run_bind,Sem.run_pure,Result.andThen_ok,List.map_toArray,List.map_cons,List.map_nil,hv,hx,(append_typesA ht ht2).trans hrun]
 exact hK v' w' h1 h2 h3 h4
theorem wpList_appA {P:Program} {ops:Array Oper} {rest:List Oper} {o:Oper} {a:Act} {Q:Exit->Act->World->Prop} (hgd:o.guard=none) (E:ElA P e sz enc) (s x:Operand) (t t2:TypeId) (ho:o.op=.call { callee:=.builtin .append,args:=#[s,x],argTypes:=#[t,t2] })
 (ht:P.underlying t=some (.slice e)) (ht2:P.underlying t2=some (.slice e))
 (hv:a.eval s=v) (h:OwnA e sz enc base w v xs) (hx:a.eval x=u) (hu:SlA enc w u ys) (hlen:xs.length+ys.length<=1000000000) (hbase:base<=w.heap.size)
 (hK:∀ v' w',OwnA e sz enc base w' v' (xs ++ ys)->Below base w w'->(∀ k,k<w.heap.size->v.ownBlock≠some k->w'.heap[k]? = w.heap[k]?)->(v'.ownBlock=v.ownBlock\/v'.ownBlock=some w.heap.size)->wpList P ops Q rest (a.put o.dst v') w'):wpList P ops Q (o :: rest) a w :=
 wpList_plain hgd fun _ hk=>wp_appA E s x t t2 ho ht ht2 hv h hx hu hlen hbase fun v' w' h1 h2 h3 h4=>hk _ _ (hK v' w' h1 h2 h3 h4)
end
section
variable {α:Type} {e:TypeId} {sz:Nat} {enc:α->List Value} {B:Nat} {w0 w w':World} {ev:Nat->Option Value} {S:List (Nat × Nat × List α)} {c cu f:Nat} {LF LIT:List α} {D:Nat->Bool} {x:Nat->Value}
end
section
variable {P:Program} {Q:Exit->Act->World->Prop}
structure PapI (w0:World) (m n:Nat) (e:Nat->Option Value) (Φ:Nat->Value->World->Prop) (R1 R:(Nat->Value)->World->Prop) (x0:Nat->Value) (D:Nat->Bool) (x:Nat->Value) (w:World):Prop where
 val:∀ i v,D i=true->e i=some v->x i=v
 old:∀ i,D i=false->x i=x0 i
 st:if D n=true then R x w else if D m=true then R1 x w else Below w0.heap.size w0 w/\∀ i,D i=true->Φ i (x i) w
theorem wp_region_pap {id:Nat} {l:List Oper} {a:Act} {w0:World} (m n:Nat) (late:Nat->Bool) (hm:P.follows .mixedOrders=true) (hd:apartD (dstOf l.toArray)=true) (hb:backD l.toArray=true) (hg:l.all (fun o=>o.guard.isNone)=true) (hn:inD a.tmps.size (dstOf l.toArray)=true)
 (hlt:late n=false) (hltm:late m=false) (hmn:m≠n) (hnl2:n<l.length) (hnm:(depsAt l.toArray n).contains m=true) (hneed:needL l.toArray m (fun i=>late i || decide (i=n))=true)
 (e:Nat->Option Value) (Φ:Nat->Value->World->Prop) (hΦ:∀ i v w w',Φ i v w->Below w.heap.size w w'->Φ i v w') (hv:∀ i u v w,Φ i u w->e i=some v->u=v) (R1 R:(Nat->Value)->World->Prop) (hRl1:∀ x w i v,late i=true->R1 x w->R1 (upd x i v) w) (hRl:∀ x w i v,late i=true->R x w->R (upd x i v) w)
 (hstep:AllOps (fun i o=>∀ (x:Nat->Value) w (b:Act),(∀ j,i∈depsAt l.toArray j->x j=slotV a ((dstOf l.toArray).getD (j-0) none))->(∀ t:Nat,b.tmps[t]?.getD undef=look (dstOf l.toArray) x a t) ->
  (late i=false->i≠n->i≠m->Below w0.heap.size w0 w->(∀ j∈deps o,Φ j (x j) w)->o.wp P b w (PhiPost w Φ i b o.dst) NoQ) /\
  (i=m->Below w0.heap.size w0 w->(∀ j∈deps o,Φ j (x j) w)->o.wp P b w (fun a' w'=>∃ v,a'=b.put o.dst v/\R1 (upd x m v) w'/\∀ u,e m=some u->v=u) NoQ) /\
  (i=n->R1 x w->(∀ j∈deps o,∀ v,e j=some v->x j=v)->o.wp P b w (fun a' w'=>∃ v,a'=b.put o.dst v/\R (upd x n v) w'/\∀ u,e n=some u->v=u) NoQ) /\
  (late i=true->(∀ j∈deps o,∀ v,e j=some v->x j=v)->∃ v,e i=some v/\(execOp b.eval o).run P w=.ok (.value v) w/\Φ i v w)) 0 l)
 (hend:∀ (x:Nat->Value) w,R x w->(∀ i v,i<l.length->e i=some v->x i=v)->Q .normal (putAll (dstOf l.toArray) 0 x a) w):(Code.region id l.toArray true).wp P Q a w0:=by
 refine wp_region_facts2U hm hd hb hg hn (PapI w0 m n e Φ R1 R (fun j=>slotV a ((dstOf l.toArray).getD (j-0) none))) ⟨fun i v h=>Bool.noConfusion h,fun _ _=>rfl,by rw [if_neg (by simp),if_neg (by simp)];exact ⟨(Below.refl _ _).drew,fun i h=>Bool.noConfusion h⟩⟩ ?_ ?_
 · have key:∀ k o,l[k]? = some o->∀ D x W (b:Act),PapI w0 m n e Φ R1 R (fun j=>slotV a ((dstOf l.toArray).getD (j-0) none)) D x W->D k=false->(∀ j∈deps o,D j=true)->(∀ j,D j=true->∀ q∈depsAt l.toArray j,D q=true)->(∀ t:Nat,b.tmps[t]?.getD undef=look (dstOf l.toArray) x a t)->o.wp P b W (StepPost (PapI w0 m n e Φ R1 R (fun j=>slotV a ((dstOf l.toArray).getD (j-0) none))) D x k b o.dst) NoQ:=by
    intro k o ho D x W b hI hD hdep hcl hbt
    have hklt:k<l.length:=(List.getElem?_eq_some_iff.1 ho).1
    have hs:=hstep.get _ _ k o ho x W b (fun j hj=>hI.old j (by
     cases h:D j with
     | false=>rfl
     | true =>
      rw [Nat.zero_add] at hj
      have:=hcl j h k hj
      rw [hD] at this;cases this)) hbt
    rw [Nat.zero_add] at hs
    obtain ⟨s1,s2,s4,s3⟩:=hs
    have hDnm:D n=true->D m=true:=fun h=>hcl n h m (by simpa [List.contains_iff_mem] using hnm)
    have hold:∀ v,∀ i,upd D k true i=false->upd x k v i=slotV a ((dstOf l.toArray).getD (i-0) none):=fun v i hi=>by
     by_cases q:i=k
     · subst q;rw [upd_same] at hi;cases hi
     · rw [upd_ne _ _ q] at hi ⊢;exact hI.old i hi
    have hval:∀ v,(∀ u,e k=some u->v=u)->∀ i u,upd D k true i=true->e i=some u->upd x k v i=u:=fun v hvk i u hi hu=>by
     by_cases q:i=k
     · subst q;rw [upd_same];exact hvk u hu
     · rw [upd_ne _ _ q] at hi ⊢;exact hI.val i u hi hu
    have hst:=hI.st
    by_cases hkn:k=n
    · subst hkn
      have hmD:D m=true:=by
       have hmo:m∈deps o:=by
        have h1:m∈depsAt l.toArray k:=by simpa [List.contains_iff_mem] using hnm
        have h2:depsAt l.toArray k=deps o:=by
         unfold depsAt
         rw [show l.toArray[k]? = some o by simpa using ho]
        rw [h2] at h1;exact h1
       exact hdep m hmo
      rw [hD,if_neg (by simp),if_pos hmD] at hst
      refine Oper.wp_mono ?_ (s4 rfl hst (fun j hj u hu=>hI.val j u (hdep j hj) hu))
      rintro a' w' ⟨v,rfl,hR,hvk⟩
      exact ⟨v,rfl,hval v hvk,hold v,by rw [upd_same,if_pos rfl];exact hR⟩
    · by_cases hkm:k=m
      · subst hkm
        have hDn:¬ D n=true:=fun h=>by rw [hDnm h] at hD;cases hD
        rw [if_neg hDn,hD,if_neg (by simp)] at hst
        refine Oper.wp_mono ?_ (s2 rfl hst.1 (fun j hj=>hst.2 j (hdep j hj)))
        rintro a' w' ⟨v,rfl,hR,hvk⟩
        exact ⟨v,rfl,hval v hvk,hold v,by rw [upd_ne _ _ (Ne.symm hkn),if_neg hDn,upd_same,if_pos rfl];exact hR⟩
      · cases hl:late k with
        | true =>
         obtain ⟨v,hev,hrun,hΦv⟩:=s3 hl (fun j hj u hu=>hI.val j u (hdep j hj) hu)
         unfold Oper.wp
         rw [hrun]
         refine ⟨v,rfl,hval v (fun u hu=>by rw [hev] at hu;injection hu),hold v,?_⟩
         rw [upd_ne _ _ (Ne.symm hkn),upd_ne _ _ (Ne.symm hkm)]
         by_cases hDn:D n=true
         · rw [if_pos hDn] at hst ⊢;exact hRl _ _ _ _ hl hst
         · rw [if_neg hDn] at hst ⊢
           by_cases hDm:D m=true
           · rw [if_pos hDm] at hst ⊢;exact hRl1 _ _ _ _ hl hst
           · rw [if_neg hDm] at hst ⊢
             refine ⟨hst.1,fun i hi=>?_⟩
             by_cases q:i=k
             · subst q;rw [upd_same];exact hΦv
             · rw [upd_ne _ _ q] at hi ⊢;exact hst.2 i hi
        | false =>
         have hDm:¬ D m=true:=fun hDm=>by
          have:=needL_all hneed hcl hDm _ k (by simpa using hklt) (Nat.le_refl _) (by simp [hl,hkn])
          rw [hD] at this;cases this
         have hDn:¬ D n=true:=fun h=>hDm (hDnm h)
         rw [if_neg hDn,if_neg hDm] at hst
         refine Oper.wp_mono ?_ (s1 hl hkn hkm hst.1 (fun j hj=>hst.2 j (hdep j hj)))
         rintro a' w' ⟨v,rfl,hb',hv'⟩
         refine ⟨v,rfl,hval v (fun u hu=>hv _ _ _ _ hv' hu),hold v,?_⟩
         rw [upd_ne _ _ (Ne.symm hkn),if_neg hDn,upd_ne _ _ (Ne.symm hkm),if_neg hDm]
         refine ⟨hst.1.trans (hb'.mono hst.1.size),fun i hi=>?_⟩
         by_cases q:i=k
         · subst q;rw [upd_same];exact hv'
         · rw [upd_ne _ _ q] at hi ⊢
           exact hΦ i (x i) W w' (hst.2 i hi) hb'
   have aux:∀ (r:List Oper) (s:Nat),(∀ k,r[k]? = l[s+k]?)->AllOps (fun i o=>∀ D x W (b:Act),PapI w0 m n e Φ R1 R (fun j=>slotV a ((dstOf l.toArray).getD (j-0) none)) D x W->D i=false->(∀ j∈deps o,D j=true)->(∀ j,D j=true->∀ q∈depsAt l.toArray j,D q=true)->(∀ t:Nat,b.tmps[t]?.getD undef=look (dstOf l.toArray) x a t)->o.wp P b W (StepPost (PapI w0 m n e Φ R1 R (fun j=>slotV a ((dstOf l.toArray).getD (j-0) none))) D x i b o.dst) NoQ) s r:=by
    intro r
    induction r with
    | nil=>intro s _;trivial
    | cons o r ih =>
     intro s hr
     refine ⟨key s o (by have:=hr 0;simpa using this.symm),ih (s+1) (fun k=>?_)⟩
     have:=hr (k+1)
     rw [List.getElem?_cons_succ] at this
     rw [this];congr 1;omega
   exact aux l 0 (fun k=>by rw [Nat.zero_add])
 · intro D x W hI hall
   have hst:=hI.st
   rw [if_pos (hall n hnl2)] at hst
   exact hend x W hst (fun i v hi hv2=>hI.val i v (hall i hi) hv2)
end
section
variable {P:Program} {Q:Exit->Act->World->Prop}
theorem wp_region_eff {id:Nat} {l:List Oper} {a:Act} {w:World} (m:Nat) (hm:P.follows .mixedOrders=true) (hd:apartD (dstOf l.toArray)=true) (hb:backD l.toArray=true) (hg:l.all (fun o=>o.guard.isNone)=true) (hn:inD a.tmps.size (dstOf l.toArray)=true) (hml:m<l.length)
 (V:Nat->Value) (A C R:World->Prop) (hA:A w.drew) (hAC:∀ w,A w->C w) (hRC:∀ w,R w->C w)
 (hstep:AllOps (fun i o=>∀ (x:Nat->Value) w' (b:Act),(∀ t:Nat,b.tmps[t]?.getD undef=look (dstOf l.toArray) x a t)->(∀ j∈deps o,x j=V j) ->
  (i≠m->C w'->(execOp b.eval o).run P w'=.ok (.value (V i)) w')/\(i=m->A w'->o.wp P b w' (fun a' w''=>a'=b.put o.dst (V m)/\R w'') NoQ)) 0 l)
 (hend:∀ (x:Nat->Value) w',R w'->(∀ i,i<l.length->x i=V i)->Q .normal (putAll (dstOf l.toArray) 0 x a) w'):(Code.region id l.toArray true).wp P Q a w:=by
 refine wp_region_factsU hm hd hb hg hn (fun D x w=>(∀ i,D i=true->x i=V i)/\if D m=true then R w else A w) (fun x=>⟨fun i h=>Bool.noConfusion h,by rw [if_neg (by simp)];exact hA⟩) ?_ ?_
 · have aux:∀ (r:List Oper) (s:Nat),AllOps (fun i o=>∀ (x:Nat->Value) w' (b:Act),(∀ t:Nat,b.tmps[t]?.getD undef=look (dstOf l.toArray) x a t)->(∀ j∈deps o,x j=V j) ->
    (i≠m->C w'->(execOp b.eval o).run P w'=.ok (.value (V i)) w')/\(i=m->A w'->o.wp P b w' (fun a' w''=>a'=b.put o.dst (V m)/\R w'') NoQ)) s r ->
    AllOps (fun i o=>∀ D x w (b:Act),((∀ i,D i=true->x i=V i)/\if D m=true then R w else A w)->D i=false->(∀ j∈deps o,D j=true)->(∀ j,D j=true->∀ k∈depsAt l.toArray j,D k=true)->(∀ t:Nat,b.tmps[t]?.getD undef=look (dstOf l.toArray) x a t)->o.wp P b w (StepPost (fun D x w=>(∀ i,D i=true->x i=V i)/\if D m=true then R w else A w) D x i b o.dst) NoQ) s r:=by
    intro r
    induction r with
    | nil=>intro s _;trivial
    | cons o r ih =>
     intro s h
     refine ⟨fun D x w b hI hD hdep hcl hbt=>?_,ih (s+1) h.2⟩
     obtain ⟨h1,h2⟩:=h.1 x w b hbt (fun j hj=>hI.1 j (hdep j hj))
     have hval:∀ i,upd D s true i=true->upd x s (V s) i=V i:=fun i hi=>by
      by_cases q:i=s
      · subst q;rw [upd_same]
      · rw [upd_ne _ _ q] at hi ⊢;exact hI.1 i hi
     by_cases q:s=m
     · subst q
       have hAw:=hI.2
       rw [hD,if_neg (by simp)] at hAw
       refine Oper.wp_mono ?_ (h2 rfl hAw)
       rintro a' w' ⟨rfl,hR⟩
       exact ⟨V s,rfl,hval,by rw [upd_same,if_pos rfl];exact hR⟩
     · have hC:C w:=by
        have:=hI.2
        by_cases hDm:D m=true
        · rw [if_pos hDm] at this;exact hRC w this
        · rw [if_neg hDm] at this;exact hAC w this
       refine wp_of_run (V s) (h1 q hC) ⟨hval,?_⟩
       rw [upd_ne _ _ (Ne.symm q)]
       exact hI.2
   exact aux l 0 hstep
 · intro D x w hI hall
   have h2:=hI.2
   rw [if_pos (hall m hml)] at h2
   exact hend x w h2 (fun i hi=>hI.1 i (hall i hi))
theorem eff_call {o:Oper} {b:Act} {w:World} {v:Value} {R:World->Prop} {f:FuncId} {args:Array Value} (h:(execOp b.eval o).run P w=.ok (.enter f args) w) (hc:Calls P f args w fun e w'=>e=.returned v/\R w'):o.wp P b w (fun a' w''=>a'=b.put o.dst v/\R w'') NoQ:=by
 unfold Oper.wp;rw [h]
 simp only [Oper.upon]
 refine hc.mono ?_
 rintro e w' ⟨rfl,hv⟩
 exact ⟨rfl,hv⟩
end
section
variable {P:Program} {Q:Exit->Act->World->Prop}
theorem wp_region_pae {id:Nat} {l:List Oper} {a:Act} {w0:World} (m n:Nat) (late:Nat->Bool) (hm:P.follows .mixedOrders=true) (hd:apartD (dstOf l.toArray)=true) (hb:backD l.toArray=true) (hg:l.all (fun o=>o.guard.isNone)=true) (hn:inD a.tmps.size (dstOf l.toArray)=true)
 (hlt:late n=false) (hltm:late m=false) (hmn:m≠n) (hnl2:n<l.length) (hnm:(depsAt l.toArray n).contains m=true) (hneed:needL l.toArray m (fun i=>late i || decide (i=n))=true)
 (e:Nat->Option Value) (Φ:Nat->Value->World->Prop) (hΦ:∀ i v w w',Φ i v w->Below w.heap.size w w'->Φ i v w') (hv:∀ i u v w,Φ i u w->e i=some v->u=v) (R1 R:(Nat->Value)->World->Prop) (hRl1:∀ x w i v,late i=true->R1 x w->R1 (upd x i v) w) (hRl:∀ x w i v,late i=true->R x w->R (upd x i v) w)
 (C:World->Prop) (hC0:∀ w,Below w0.heap.size w0 w->C w) (hC1:∀ x w,R1 x w->C w) (hC2:∀ x w,R x w->C w)
 (hstep:AllOps (fun i o=>∀ (x:Nat->Value) w (b:Act),(∀ j,i∈depsAt l.toArray j->x j=slotV a ((dstOf l.toArray).getD (j-0) none))->(∀ t:Nat,b.tmps[t]?.getD undef=look (dstOf l.toArray) x a t) ->
  (late i=false->i≠n->i≠m->Below w0.heap.size w0 w->(∀ j∈deps o,Φ j (x j) w)->o.wp P b w (PhiPost w Φ i b o.dst) NoQ) /\
  (i=m->Below w0.heap.size w0 w->(∀ j∈deps o,Φ j (x j) w)->o.wp P b w (fun a' w'=>∃ v,a'=b.put o.dst v/\R1 (upd x m v) w'/\∀ u,e m=some u->v=u) NoQ) /\
  (i=n->R1 x w->(∀ j∈deps o,∀ v,e j=some v->x j=v)->o.wp P b w (fun a' w'=>∃ v,a'=b.put o.dst v/\R (upd x n v) w'/\∀ u,e n=some u->v=u) NoQ) /\
  (late i=true->C w->(∀ j∈deps o,∀ v,e j=some v->x j=v)->∃ v,e i=some v/\(execOp b.eval o).run P w=.ok (.value v) w/\Φ i v w)) 0 l)
 (hend:∀ (x:Nat->Value) w,R x w->(∀ i v,i<l.length->e i=some v->x i=v)->Q .normal (putAll (dstOf l.toArray) 0 x a) w):(Code.region id l.toArray true).wp P Q a w0:=by
 refine wp_region_facts2U hm hd hb hg hn (PapI w0 m n e Φ R1 R (fun j=>slotV a ((dstOf l.toArray).getD (j-0) none))) ⟨fun i v h=>Bool.noConfusion h,fun _ _=>rfl,by rw [if_neg (by simp),if_neg (by simp)];exact ⟨(Below.refl _ _).drew,fun i h=>Bool.noConfusion h⟩⟩ ?_ ?_
 · have key:∀ k o,l[k]? = some o->∀ D x W (b:Act),PapI w0 m n e Φ R1 R (fun j=>slotV a ((dstOf l.toArray).getD (j-0) none)) D x W->D k=false->(∀ j∈deps o,D j=true)->(∀ j,D j=true->∀ q∈depsAt l.toArray j,D q=true)->(∀ t:Nat,b.tmps[t]?.getD undef=look (dstOf l.toArray) x a t)->o.wp P b W (StepPost (PapI w0 m n e Φ R1 R (fun j=>slotV a ((dstOf l.toArray).getD (j-0) none))) D x k b o.dst) NoQ:=by
    intro k o ho D x W b hI hD hdep hcl hbt
    have hklt:k<l.length:=(List.getElem?_eq_some_iff.1 ho).1
    have hs:=hstep.get _ _ k o ho x W b (fun j hj=>hI.old j (by
     cases h:D j with
     | false=>rfl
     | true =>
      rw [Nat.zero_add] at hj
      have:=hcl j h k hj
      rw [hD] at this;cases this)) hbt
    rw [Nat.zero_add] at hs
    obtain ⟨s1,s2,s4,s3⟩:=hs
    have hDnm:D n=true->D m=true:=fun h=>hcl n h m (by simpa [List.contains_iff_mem] using hnm)
    have hold:∀ v,∀ i,upd D k true i=false->upd x k v i=slotV a ((dstOf l.toArray).getD (i-0) none):=fun v i hi=>by
     by_cases q:i=k
     · subst q;rw [upd_same] at hi;cases hi
     · rw [upd_ne _ _ q] at hi ⊢;exact hI.old i hi
    have hval:∀ v,(∀ u,e k=some u->v=u)->∀ i u,upd D k true i=true->e i=some u->upd x k v i=u:=fun v hvk i u hi hu=>by
     by_cases q:i=k
     · subst q;rw [upd_same];exact hvk u hu
     · rw [upd_ne _ _ q] at hi ⊢;exact hI.val i u hi hu
    have hst:=hI.st
    by_cases hkn:k=n
    · subst hkn
      have hmD:D m=true:=by
       have hmo:m∈deps o:=by
        have h1:m∈depsAt l.toArray k:=by simpa [List.contains_iff_mem] using hnm
        have h2:depsAt l.toArray k=deps o:=by
         unfold depsAt
         rw [show l.toArray[k]? = some o by simpa using ho]
        rw [h2] at h1;exact h1
       exact hdep m hmo
      rw [hD,if_neg (by simp),if_pos hmD] at hst
      refine Oper.wp_mono ?_ (s4 rfl hst (fun j hj u hu=>hI.val j u (hdep j hj) hu))
      rintro a' w' ⟨v,rfl,hR,hvk⟩
      exact ⟨v,rfl,hval v hvk,hold v,by rw [upd_same,if_pos rfl];exact hR⟩
    · by_cases hkm:k=m
      · subst hkm
        have hDn:¬ D n=true:=fun h=>by rw [hDnm h] at hD;cases hD
        rw [if_neg hDn,hD,if_neg (by simp)] at hst
        refine Oper.wp_mono ?_ (s2 rfl hst.1 (fun j hj=>hst.2 j (hdep j hj)))
        rintro a' w' ⟨v,rfl,hR,hvk⟩
        exact ⟨v,rfl,hval v hvk,hold v,by rw [upd_ne _ _ (Ne.symm hkn),if_neg hDn,upd_same,if_pos rfl];exact hR⟩
      · cases hl:late k with
        | true =>
         have hCW:C W:=by
          by_cases hDn:D n=true
          · rw [if_pos hDn] at hst;exact hC2 _ _ hst
          · rw [if_neg hDn] at hst
            by_cases hDm:D m=true
            · rw [if_pos hDm] at hst;exact hC1 _ _ hst
            · rw [if_neg hDm] at hst;exact hC0 _ hst.1
         obtain ⟨v,hev,hrun,hΦv⟩:=s3 hl hCW (fun j hj u hu=>hI.val j u (hdep j hj) hu)
         unfold Oper.wp
         rw [hrun]
         refine ⟨v,rfl,hval v (fun u hu=>by rw [hev] at hu;injection hu),hold v,?_⟩
         rw [upd_ne _ _ (Ne.symm hkn),upd_ne _ _ (Ne.symm hkm)]
         by_cases hDn:D n=true
         · rw [if_pos hDn] at hst ⊢;exact hRl _ _ _ _ hl hst
         · rw [if_neg hDn] at hst ⊢
           by_cases hDm:D m=true
           · rw [if_pos hDm] at hst ⊢;exact hRl1 _ _ _ _ hl hst
           · rw [if_neg hDm] at hst ⊢
             refine ⟨hst.1,fun i hi=>?_⟩
             by_cases q:i=k
             · subst q;rw [upd_same];exact hΦv
             · rw [upd_ne _ _ q] at hi ⊢;exact hst.2 i hi
        | false =>
         have hDm:¬ D m=true:=fun hDm=>by
          have:=needL_all hneed hcl hDm _ k (by simpa using hklt) (Nat.le_refl _) (by simp [hl,hkn])
          rw [hD] at this;cases this
         have hDn:¬ D n=true:=fun h=>hDm (hDnm h)
         rw [if_neg hDn,if_neg hDm] at hst
         refine Oper.wp_mono ?_ (s1 hl hkn hkm hst.1 (fun j hj=>hst.2 j (hdep j hj)))
         rintro a' w' ⟨v,rfl,hb',hv'⟩
         refine ⟨v,rfl,hval v (fun u hu=>hv _ _ _ _ hv' hu),hold v,?_⟩
         rw [upd_ne _ _ (Ne.symm hkn),if_neg hDn,upd_ne _ _ (Ne.symm hkm),if_neg hDm]
         refine ⟨hst.1.trans (hb'.mono hst.1.size),fun i hi=>?_⟩
         by_cases q:i=k
         · subst q;rw [upd_same];exact hv'
         · rw [upd_ne _ _ q] at hi ⊢
           exact hΦ i (x i) W w' (hst.2 i hi) hb'
   have aux:∀ (r:List Oper) (s:Nat),(∀ k,r[k]? = l[s+k]?)->AllOps (fun i o=>∀ D x W (b:Act),PapI w0 m n e Φ R1 R (fun j=>slotV a ((dstOf l.toArray).getD (j-0) none)) D x W->D i=false->(∀ j∈deps o,D j=true)->(∀ j,D j=true->∀ q∈depsAt l.toArray j,D q=true)->(∀ t:Nat,b.tmps[t]?.getD undef=look (dstOf l.toArray) x a t)->o.wp P b W (StepPost (PapI w0 m n e Φ R1 R (fun j=>slotV a ((dstOf l.toArray).getD (j-0) none))) D x i b o.dst) NoQ) s r:=by
    intro r
    induction r with
    | nil=>intro s _;trivial
    | cons o r ih =>
     intro s hr
     refine ⟨key s o (by have:=hr 0;simpa using this.symm),ih (s+1) (fun k=>?_)⟩
     have:=hr (k+1)
     rw [List.getElem?_cons_succ] at this
     rw [this];congr 1;omega
   exact aux l 0 (fun k=>by rw [Nat.zero_add])
 · intro D x W hI hall
   have hst:=hI.st
   rw [if_pos (hall n hnl2)] at hst
   exact hend x W hst (fun i v hi hv2=>hI.val i v (hall i hi) hv2)
end
section
variable {P:Program} {Q:Exit->Act->World->Prop}
theorem wp_region_efc {id:Nat} {l:List Oper} {a:Act} {w:World} (m:Nat) (hm:P.follows .mixedOrders=true) (hd:apartD (dstOf l.toArray)=true) (hb:backD l.toArray=true) (hg:l.all (fun o=>o.guard.isNone)=true) (hn:inD a.tmps.size (dstOf l.toArray)=true) (hml:m<l.length)
 (V:Nat->Value) (A C R:World->Prop) (hA:A w.drew) (hAC:∀ w,A w->C w) (hRC:∀ w,R w->C w)
 (hstep:AllOps (fun i o=>∀ (x:Nat->Value) w' (b:Act),(∀ t:Nat,b.tmps[t]?.getD undef=look (dstOf l.toArray) x a t)->(∀ j∈deps o,x j=V j) ->
  (i≠m->C w'->o.wp P b w' (fun a' w''=>a'=b.put o.dst (V i)/\w''=w') NoQ)/\(i=m->A w'->o.wp P b w' (fun a' w''=>a'=b.put o.dst (V m)/\R w'') NoQ)) 0 l)
 (hend:∀ (x:Nat->Value) w',R w'->(∀ i,i<l.length->x i=V i)->Q .normal (putAll (dstOf l.toArray) 0 x a) w'):(Code.region id l.toArray true).wp P Q a w:=by
 refine wp_region_factsU hm hd hb hg hn (fun D x w=>(∀ i,D i=true->x i=V i)/\if D m=true then R w else A w) (fun x=>⟨fun i h=>Bool.noConfusion h,by rw [if_neg (by simp)];exact hA⟩) ?_ ?_
 · have aux:∀ (r:List Oper) (s:Nat),AllOps (fun i o=>∀ (x:Nat->Value) w' (b:Act),(∀ t:Nat,b.tmps[t]?.getD undef=look (dstOf l.toArray) x a t)->(∀ j∈deps o,x j=V j) ->
    (i≠m->C w'->o.wp P b w' (fun a' w''=>a'=b.put o.dst (V i)/\w''=w') NoQ)/\(i=m->A w'->o.wp P b w' (fun a' w''=>a'=b.put o.dst (V m)/\R w'') NoQ)) s r ->
    AllOps (fun i o=>∀ D x w (b:Act),((∀ i,D i=true->x i=V i)/\if D m=true then R w else A w)->D i=false->(∀ j∈deps o,D j=true)->(∀ j,D j=true->∀ k∈depsAt l.toArray j,D k=true)->(∀ t:Nat,b.tmps[t]?.getD undef=look (dstOf l.toArray) x a t)->o.wp P b w (StepPost (fun D x w=>(∀ i,D i=true->x i=V i)/\if D m=true then R w else A w) D x i b o.dst) NoQ) s r:=by
    intro r
    induction r with
    | nil=>intro s _;trivial
    | cons o r ih =>
     intro s h
     refine ⟨fun D x w b hI hD hdep hcl hbt=>?_,ih (s+1) h.2⟩
     obtain ⟨h1,h2⟩:=h.1 x w b hbt (fun j hj=>hI.1 j (hdep j hj))
     have hval:∀ i,upd D s true i=true->upd x s (V s) i=V i:=fun i hi=>by
      by_cases q:i=s
      · subst q;rw [upd_same]
      · rw [upd_ne _ _ q] at hi ⊢;exact hI.1 i hi
     by_cases q:s=m
     · subst q
       have hAw:=hI.2
       rw [hD,if_neg (by simp)] at hAw
       refine Oper.wp_mono ?_ (h2 rfl hAw)
       rintro a' w' ⟨rfl,hR⟩
       exact ⟨V s,rfl,hval,by rw [upd_same,if_pos rfl];exact hR⟩
     · have hC:C w:=by
        have:=hI.2
        by_cases hDm:D m=true
        · rw [if_pos hDm] at this;exact hRC w this
        · rw [if_neg hDm] at this;exact hAC w this
       refine Oper.wp_mono ?_ (h1 q hC)
       rintro a' w' ⟨rfl,rfl⟩
       exact ⟨V s,rfl,hval,by rw [upd_ne _ _ (Ne.symm q)];exact hI.2⟩
   exact aux l 0 hstep
 · intro D x w hI hall
   have h2:=hI.2
   rw [if_pos (hall m hml)] at h2
   exact hend x w h2 (fun i hi=>hI.1 i (hall i hi))
theorem efc_run {o:Oper} {b:Act} {w:World} (v:Value) (h:(execOp b.eval o).run P w=.ok (.value v) w):o.wp P b w (fun a' w''=>a'=b.put o.dst v/\w''=w) NoQ:=by
 unfold Oper.wp;rw [h]
 exact ⟨rfl,rfl⟩
end
section
variable {P:Program} {Q:Exit->Act->World->Prop}
theorem wp_region_two {id:Nat} {l:List Oper} {a:Act} {w0:World} (m n:Nat) (hm:P.follows .mixedOrders=true) (hd:apartD (dstOf l.toArray)=true) (hb:backD l.toArray=true) (hg:l.all (fun o=>o.guard.isNone)=true) (hn:inD a.tmps.size (dstOf l.toArray)=true) (hmn:m≠n) (hml:m<l.length) (hnl:n<l.length)
 (Φ:Nat->Value->World->Prop) (K:Bool->Bool->World->Prop) (Ev:World->World->Prop) (hEv:∀ w w',Below w.heap.size w w'->Ev w w') (hΦ:∀ i v w w',Φ i v w->Ev w w'->Φ i v w') (hK:∀ p q w w',K p q w->Below w.heap.size w w'->K p q w') (h0:K false false w0.drew)
 (hstep:AllOps (fun i o=>∀ (x:Nat->Value) w (b:Act),(∀ t:Nat,b.tmps[t]?.getD undef=look (dstOf l.toArray) x a t)->(∀ j∈deps o,Φ j (x j) w) ->
  (i≠m->i≠n->∀ p q,K p q w->o.wp P b w (PhiPost w Φ i b o.dst) NoQ) /\
  (i=m->∀ q,K false q w->o.wp P b w (fun a' w'=>∃ v,a'=b.put o.dst v/\Ev w w'/\K true q w'/\Φ m v w') NoQ) /\
  (i=n->∀ p,K p false w->o.wp P b w (fun a' w'=>∃ v,a'=b.put o.dst v/\Ev w w'/\K p true w'/\Φ n v w') NoQ)) 0 l)
 (hend:∀ (x:Nat->Value) w,K true true w->(∀ i,i<l.length->Φ i (x i) w)->Q .normal (putAll (dstOf l.toArray) 0 x a) w):(Code.region id l.toArray true).wp P Q a w0:=by
 refine wp_region_factsU hm hd hb hg hn (fun D x w=>(∀ i,D i=true->Φ i (x i) w)/\K (D m) (D n) w) (fun x=>⟨fun i h=>Bool.noConfusion h,h0⟩) ?_ ?_
 · have aux:∀ (r:List Oper) (s:Nat),AllOps (fun i o=>∀ (x:Nat->Value) w (b:Act),(∀ t:Nat,b.tmps[t]?.getD undef=look (dstOf l.toArray) x a t)->(∀ j∈deps o,Φ j (x j) w) ->
    (i≠m->i≠n->∀ p q,K p q w->o.wp P b w (PhiPost w Φ i b o.dst) NoQ) /\
    (i=m->∀ q,K false q w->o.wp P b w (fun a' w'=>∃ v,a'=b.put o.dst v/\Ev w w'/\K true q w'/\Φ m v w') NoQ) /\
    (i=n->∀ p,K p false w->o.wp P b w (fun a' w'=>∃ v,a'=b.put o.dst v/\Ev w w'/\K p true w'/\Φ n v w') NoQ)) s r ->
    AllOps (fun i o=>∀ D x w (b:Act),((∀ i,D i=true->Φ i (x i) w)/\K (D m) (D n) w)->D i=false->(∀ j∈deps o,D j=true)->(∀ j,D j=true->∀ k∈depsAt l.toArray j,D k=true)->(∀ t:Nat,b.tmps[t]?.getD undef=look (dstOf l.toArray) x a t)->o.wp P b w (StepPost (fun D x w=>(∀ i,D i=true->Φ i (x i) w)/\K (D m) (D n) w) D x i b o.dst) NoQ) s r:=by
    intro r
    induction r with
    | nil=>intro s _;trivial
    | cons o r ih =>
     intro s h
     refine ⟨fun D x w b hI hD hdep hcl hbt=>?_,ih (s+1) h.2⟩
     obtain ⟨h1,h2,h3⟩:=h.1 x w b hbt (fun j hj=>hI.1 j (hdep j hj))
     have hval:∀ v w',Ev w w'->Φ s v w'->∀ i,upd D s true i=true->Φ i (upd x s v i) w':=fun v w' he hv i hi=>by
      by_cases q:i=s
      · subst q;rw [upd_same];exact hv
      · rw [upd_ne _ _ q] at hi ⊢;exact hΦ i _ w w' (hI.1 i hi) he
     have hK0:=hI.2
     by_cases q:s=m
     · subst q
       rw [hD] at hK0
       refine Oper.wp_mono ?_ (h2 rfl _ hK0)
       rintro a' w' ⟨v,rfl,he,hk,hv⟩
       exact ⟨v,rfl,hval v w' he hv,by rw [upd_same,upd_ne _ _ (Ne.symm hmn)];exact hk⟩
     · by_cases q2:s=n
       · subst q2
         rw [hD] at hK0
         refine Oper.wp_mono ?_ (h3 rfl _ hK0)
         rintro a' w' ⟨v,rfl,he,hk,hv⟩
         exact ⟨v,rfl,hval v w' he hv,by rw [upd_same,upd_ne _ _ hmn];exact hk⟩
       · refine Oper.wp_mono ?_ (h1 q q2 _ _ hK0)
         rintro a' w' ⟨v,rfl,hbl,hv⟩
         exact ⟨v,rfl,hval v w' (hEv _ _ hbl) hv,by rw [upd_ne _ _ (Ne.symm q),upd_ne _ _ (Ne.symm q2)];exact hK _ _ _ _ hK0 hbl⟩
   exact aux l 0 hstep
 · intro D x w hI hall
   have h2:=hI.2
   rw [hall m hml,hall n hnl] at h2
   exact hend x w h2 (fun i hi=>hI.1 i (hall i hi))
theorem two_st {Φ:Nat->Value->World->Prop} {K:World->Prop} {Ev:World->World->Prop} {m:Nat} {o:Oper} {b:Act} {w:World} (W:World) (h:(execOp b.eval o).run P w=.ok .skip W) (ho:o.dst=none) (he:Ev w W) (hk:K W) (hf:Φ m undef W):o.wp P b w (fun a' w'=>∃ v,a'=b.put o.dst v/\Ev w w'/\K w'/\Φ m v w') NoQ:=by
 unfold Oper.wp;rw [h];exact ⟨undef,by rw [ho],he,hk,hf⟩
end
end Go.Proofs.Ytfnmeigpfmeomaa
