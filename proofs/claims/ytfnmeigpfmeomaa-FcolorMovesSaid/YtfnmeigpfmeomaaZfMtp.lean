/- The numbers of the arcs by a map: plain. -/
import Derived.Test.YtfnmeigpfmeomaaZfTwo
import Derived.Maps.OwnSet
import Derived.Maps.OwnOps
import Derived.Laws.EntriesVeiled
import Derived.Test.YtfnmeigpfmeomaaZfTab
namespace Go.Proofs.Ytfnmeigpfmeomaa
open Go.RowKit Go.Maps
set_option linter.unusedVariables false
def ky (r:Nat):Lit:=.int .i64 (r:Int)
theorem ky_ne {a b:Nat} (h:a≠b):ky a≠ky b:=by
 intro e
 unfold ky at e
 injection e with _ e
 omega
structure NM {H:Type} (lab:List Nat) (ρ:Nat->Nat) (k:Nat) (D:DataW H):Prop where
 tidy:Tidy D
 has:∀ r:Nat,Maps.has D (ky r)=true ↔ ∃ h,h<k/\ρ h=r
 val:∀ h,h<k->D.atKey (ky (ρ h)) (.lit (.int .i64 0))=.lit (.int .i64 (rk lab (gn lab h):Nat))
 size:Maps.size D=rk lab k
section
variable {H:Type} {lab:List Nat} {ρ:Nat->Nat} {k N:Nat} {D:DataW H}
theorem NM.start:NM lab ρ 0 (.map []:DataW H):=⟨tidy_empty,fun r=>by simp [Maps.has],fun h hh=>by omega,rfl⟩
structure Fits (lab:List Nat) (ρ:Nat->Nat) (N:Nat):Prop where
 le:∀ x,x<N->gn lab x<=x
 self:∀ x,x<N->gn lab (gn lab x)=gn lab x
 iff:∀ x y,x<N->y<N->(ρ x=ρ y ↔ gn lab x=gn lab y)
theorem NM.old (f:Fits lab ρ N) (h:NM lab ρ k D) (hk:k<N) (hh:Maps.has D (ky (ρ k))=true) :
 NM lab ρ (k+1) D/\D.atKey (ky (ρ k)) (.lit (.int .i64 0))=.lit (.int .i64 (rk lab (gn lab k):Nat)):=by
 obtain ⟨j,hj,e⟩:=(h.has _).1 hh
 have e2:=(f.iff j k (by omega) hk).1 e
 have hle:=f.le j (by omega)
 have hv:D.atKey (ky (ρ k)) (.lit (.int .i64 0))=.lit (.int .i64 (rk lab (gn lab k):Nat)):=by rw [<- e,h.val j hj,e2]
 refine ⟨⟨h.tidy,fun r=>(h.has r).trans ⟨fun ⟨i,h1,h2⟩=>⟨i,by omega,h2⟩,fun ⟨i,h1,h2⟩=>?_⟩,fun i hi=>?_,?_⟩,hv⟩
 · by_cases q:i=k
   · subst q;exact ⟨j,hj,e.trans h2⟩
   · exact ⟨i,by omega,h2⟩
 · by_cases q:i=k
   · subst q;exact hv
   · exact h.val i (by omega)
 · rw [h.size,rk,if_neg (by omega)]
theorem NM.new (f:Fits lab ρ N) (h:NM lab ρ k D) (hk:k<N) (hh:Maps.has D (ky (ρ k))=false) :
 NM lab ρ (k+1) (D.put (ky (ρ k)) (.lit (.int .i64 (Maps.size D:Nat))))/\rk lab (gn lab k)=Maps.size D:=by
 have hno:∀ j,j<k->ρ j≠ρ k:=fun j hj e=>by
  have:=(h.has (ρ k)).2 ⟨j,hj,e⟩
  rw [hh] at this;cases this
 have hle:=f.le k hk
 have hs:gn lab k=k:=by
  by_cases q:gn lab k<k
  · exact absurd ((f.iff (gn lab k) k (by omega) hk).2 (f.self k hk)) (hno _ q)
  · omega
 have hr:rk lab (gn lab k)=Maps.size D:=by rw [hs,h.size]
 have hkl:WideAt.IsKeyLit (ky (ρ k)):=trivial
 refine ⟨⟨h.tidy.put hkl _,fun r=>?_,fun i hi=>?_,?_⟩,hr⟩
 · by_cases q:r=ρ k
   · subst q
     rw [has_put_same h.tidy.isMap hkl]
     exact ⟨fun _=>⟨k,by omega,rfl⟩,fun _=>rfl⟩
   · rw [has_put_other (ky_ne q),h.has]
     constructor
     · rintro ⟨i,h1,h2⟩;exact ⟨i,by omega,h2⟩
     · rintro ⟨i,h1,h2⟩
       by_cases q2:i=k
       · subst q2;exact absurd h2.symm q
       · exact ⟨i,by omega,h2⟩
 · by_cases q:i=k
   · subst q
     rw [atKey_put_same h.tidy.isMap hkl,hr]
   · rw [atKey_put_other (ky_ne (hno i (by omega))),h.val i (by omega)]
 · rw [Go.Maps.size_put h.tidy,hh,h.size,rk,if_pos hs];rfl
end
theorem rk_mono (l:List Nat):∀ {a b:Nat},a<=b->rk l a<=rk l b:=by
 intro a b h
 induction b with
 | zero=>have:a=0:=by omega
         subst this;exact Nat.le_refl _
 | succ b ih =>
  rcases Nat.lt_or_ge b a with q|q
  · have:a=b+1:=by omega
    subst this;exact Nat.le_refl _
  · have:=ih q
    rw [rk];split <;> omega
theorem root_fun {N:Nat} {P:List Nat} (h:Fst N P):∃ ρ:Nat->Nat,∀ x,x<N->ρ x<N/\∃ n,Dp P n x (ρ x):=by
 refine ⟨fun x=>if hx:x<N then (h.ex x hx).choose_spec.choose else 0,fun x hx=>?_⟩
 have hs:=(h.ex x hx).choose_spec.choose_spec
 simp only [hx,dif_pos]
 exact ⟨hs.lt h.lt hx,_,hs⟩
theorem fits_of {S M:List Int} {L:Int} (k:Ok S M L) {P:List Nat} (h:UF (Sees M M.length) M.length P) (h1:∀ x,x<M.length->Sm P x (mt M x)) (h2:∀ c,c<S.length->Sm P (4*c+1) (4*c+3))
 {ρ:Nat->Nat} (hρ:∀ x,x<M.length->ρ x<M.length/\∃ n,Dp P n x (ρ x)):Fits (labA M M.length M.length) ρ M.length:=by
 refine ⟨fun x hx=>la_le k hx,fun x hx=>la_self k hx,fun x y hx hy=>?_⟩
 rw [la_eq k hx hy,<- uf_conn k h h1 h2 hx hy]
 obtain ⟨_,n,d1⟩:=hρ x hx
 obtain ⟨_,m,d2⟩:=hρ y hy
 constructor
 · intro e;rw [<- e] at d2;exact ⟨n,m,_,d1,d2⟩
 · rintro ⟨a,b,r,d3,d4⟩
   rw [(Dp.uniq d1 d3).2,(Dp.uniq d2 d4).2]
theorem run_makeMapH (n:Int) (w:World):(Instr.makeMap 97 (some (.int .i64 n))).run Try.prog w=.ok (.map (some w.heap.size)) (w.alloc (.map #[] 0)):=by
 unfold Instr.makeMap
 simp [go_sem]
theorem zeroI (w:World):(zeroValue 3).run Try.prog w=.ok (.int .i64 0) w:=by kernel_rfl
theorem lawI:Keyed Try.prog 3:=int_keyed Try.underlying3
theorem keyI {r:Nat} (h:r<1000):keyOf Try.prog 3 (.int .i64 (r:Int))=some (ky r):=keyOf_int_mk Try.underlying3 (WalkArith.wf_i64 (by omega))
theorem lit_inj {a b:Int} (h:(DataW.lit (.int .i64 a):DataW Unit)=.lit (.int .i64 b)):a=b:=by
 injection h with h
 injection h
theorem owns_onl {G B n:Nat} {D:DataW Unit} {w w':World} (h:w.ownsMap Try.prog 3 (plainElem Try.prog 3) B n D) (o:Onl G w w') (hB:B≠G):w'.ownsMap Try.prog 3 (plainElem Try.prog 3) B n D:=by
 obtain ⟨es,clock,hb,r⟩:=h
 exact ⟨es,clock,(o.block B hB).trans hb,r⟩
theorem owns_set {B n:Nat} {D:DataW Unit} {w:World} (h:w.ownsMap Try.prog 3 (plainElem Try.prog 3) B n D) {p:Addr} (hB:B≠p.block) (u:Value):(w.setCell p u).ownsMap Try.prog 3 (plainElem Try.prog 3) B n D:=by
 obtain ⟨es,clock,hb,r⟩:=h
 exact ⟨es,clock,(Below.heap_setCell w p u B hB).trans hb,r⟩
theorem grown_below {B b:Nat} {w w':World} (h:w.grownBy w' (some b)) (hB:B<=b) (hs:b<w.heap.size):Below B w w':=⟨h.os,h.tape,h.output,h.size,fun k hk=>h.block k (by omega) (by intro e;injection e with e;omega)⟩
theorem Arr.grown {b c:Nat} {w w':World} {t:TypeId} {cs:List Value} (h:Arr w c t cs) (g:w.grownBy w' (some b)) (hne:c≠b):Arr w' c t cs:=(g.block c h.lt (by intro e;injection e with e;exact hne e)).trans h
set_option maxHeartbeats 4000000 in
set_option maxRecDepth 100000 in
theorem arcs_code (vs vm:Value) (S M:List Int) (L:Int) (w:World) (hS:Ints w vs S) (hM:Ints w vm M) (k:Ok S M L) :
 Calls Try.prog 45 #[.agg #[vs,vm,.int .i64 L]] w fun e w'=>∃ g,e=.returned (.tuple #[.slice (some ⟨g,0,none⟩) M.length M.length,.int .i64 (rk (labA M M.length M.length) M.length:Nat)])/\w.heap.size<=g/\Arr w' g 3 (nc (numA (labA M M.length M.length) M.length M.length))/\Below w.heap.size w w':=by
 obtain ⟨i0,hi0,hz0,hz1,hz2⟩:=info_parts info_int
 have hn:=k.n
 have hml:M.length<=256:=by have:=k.m;omega
 have hmk:=fun W=>run_make_one (P:=Try.prog) 22 3 i0 (.int .i64 0) Try.underlying22 hi0 hz0 hz1 rfl (by rw [hz2];decide) M.length (by omega) W
 have MK:=Lib.hid hmk
 have hS0:=hS
 have hM0:=hM
 obtain ⟨A,c,rfl,hc,hx⟩:=hS
 obtain ⟨A2,c2,rfl,hc2,hx2⟩:=hM
 have T2:=Lib.hid k.m
 have KK:=Lib.hid k
 clear hx hx2 k
 go_enter Try.func45,Try.ntmps45
 go_upto_region 1 with fail
 have hW:Arr (w.alloc (.cells #[.slice A S.length c,.slice A2 M.length c2,.int .i64 L] 24)) w.heap.size 24 [.slice A S.length c,.slice A2 M.length c2,.int .i64 L]/\Below w.heap.size w (w.alloc (.cells #[.slice A S.length c,.slice A2 M.length c2,.int .i64 L] 24)):=⟨Arr.new w _ _,(Below.refl _ _).alloc (Nat.le_refl _) _⟩
 generalize (w.alloc (.cells #[.slice A S.length c,.slice A2 M.length c2,.int .i64 L] 24))=w4 at hW ⊢
 obtain ⟨q0,hb4⟩:=hW
 have y1:=q0.cell 1
 go_upto_region 2 with fail
 have hW:∀ W,W=(w4.alloc (.cells (rowOf (List.replicate M.length (Value.int .i64 0))) 3)).alloc (.cells #[.slice (some ⟨w4.heap.size,0,none⟩) M.length M.length] 22)->Arr W w4.heap.size 3 (nc (upto M.length 0))/\Arr W (w4.heap.size+1) 22 [.slice (some ⟨w4.heap.size,0,none⟩) M.length M.length]/\Arr W w.heap.size 24 [.slice A S.length c,.slice A2 M.length c2,.int .i64 L]/\Below w.heap.size w W:=by
  intro W hW
  subst hW
  refine ⟨by rw [upto_zero];exact (Arr.new w4 _ _).alloc _,Arr.newAt _ _ [_] _ (by simp),(q0.alloc _).alloc _,(hb4.alloc hb4.size _).alloc (Nat.le_trans hb4.size (by simp)) _⟩
 have lw:=q0.lt
 generalize hB:w4.heap.size=G at *
 generalize (w4.alloc (.cells (rowOf (List.replicate M.length (Value.int .i64 0))) 3)).alloc (.cells #[.slice (some ⟨G,0,none⟩) M.length M.length] 22)=w5 at hW ⊢
 obtain ⟨g5,p5,q5,hb5⟩:=hW w5 rfl
 clear hB hW hmk q0 hb4 y1
 have y1:=p5.cell 0
 go_wp2_with fail
 clear y1
 go_loopg [5,22] M.length (fun gk s5 s22 wr=>∃ k:Nat,k<=M.length/\gk=M.length-k/\s22=.int .i64 (k:Int)/\Arr wr G 3 (nc (upto M.length k))/\Arr wr (G+1) 22 [.slice (some ⟨G,0,none⟩) M.length M.length]/\Arr wr w.heap.size 24 [.slice A S.length c,.slice A2 M.length c2,.int .i64 L]/\Below w.heap.size w wr)
 case atStart=>exact ⟨0,Nat.zero_le _,rfl,rfl,g5,p5,q5,hb5⟩
 case round =>
  clear g5 p5 q5 hb5
  obtain ⟨k,hk,rfl,rfl,g5,p5,q5,hb5⟩:=hrel
  by_cases hlt:k<M.length
  · have z1:(k:Int)<(M.length:Int):=by omega
    have y1:=p5.cell 0
    have zc:=(g5.cell k).trans (nc_get (by rw [upto_length];exact hlt))
    have zf:=g5.frozen k
    generalize gn (upto M.length k) k=z at *
    go_wp2_with fail
    go_roundg (M.length-(k+1))
    case measure=>omega
    case rel=>exact ⟨k+1,by omega,rfl,by go_num,by rw [<- upto_step hlt,<- nc_set];exact g5.set k _,p5.far (p:=⟨G,k,none⟩) (Nat.succ_ne_self _) _,q5.far (p:=⟨G,k,none⟩) (Nat.ne_of_lt lw) _,hb5.setCell (p:=⟨G,k,none⟩) (Nat.le_of_lt lw) _⟩
  · have z1:¬ ((k:Int)<(M.length:Int)):=by omega
    have g6:Arr wr G 3 (nc (List.range M.length)):=by
     have hkn:k=M.length:=by omega
     rw [hkn,upto_all] at g5;exact g5
    clear g5
    go_upto_region 9 with fail
    have hW:∀ W,W=wr.alloc (.cells #[.func (.func 65) #[] #[.pointer (some ⟨G+1,0,none⟩),.pointer (some ⟨wr.heap.size,0,none⟩)]] 65)->Arr W wr.heap.size 65 [fnV (G+1) wr.heap.size]/\Arr W G 3 (nc (List.range M.length))/\Arr W (G+1) 22 [.slice (some ⟨G,0,none⟩) M.length M.length]/\Arr W w.heap.size 24 [.slice A S.length c,.slice A2 M.length c2,.int .i64 L]/\Below w.heap.size w W:=by
     intro W hW
     subst hW
     exact ⟨Arr.new wr _ [_],g6.alloc _,p5.alloc _,q5.alloc _,hb5.alloc hb5.size _⟩
    have lF:=p5.lt
    generalize hB:wr.heap.size=F at *
    generalize wr.alloc (.cells #[.func (.func 65) #[] #[.pointer (some ⟨G+1,0,none⟩),.pointer (some ⟨F,0,none⟩)]] 65)=w6 at hW ⊢
    obtain ⟨f7,g7,p7,q7,hb7⟩:=hW w6 rfl
    clear hB hW g6 p5 q5 hb5
    have y1:=q7.cell 1
    go_wp2_with fail
    clear y1 z1 hlt
    obtain ⟨wo,rfl⟩:∃ wo:World,wo=wr:=⟨_,rfl⟩
    have HU:=Lib.hid (uf_start (Sees M M.length) M.length)
    generalize List.range M.length=P at *
    go_loopg [7,8,34] M.length (fun gk s7 s8 s34 wi=>∃ (h:Nat) (P:List Nat),h<=M.length/\gk=M.length-h/\s34=.int .i64 (h:Int)/\Arr wi G 3 (nc P)/\Arr wi (G+1) 22 [.slice (some ⟨G,0,none⟩) M.length M.length]/\Arr wi F 65 [fnV (G+1) F]/\Arr wi w.heap.size 24 [.slice A S.length c,.slice A2 M.length c2,.int .i64 L]/\Below w.heap.size w wi/\Hid (UF (Sees M M.length) M.length P/\∀ i,i<h->Sm P i (mt M i)))
    case atStart=>exact ⟨0,P,Nat.zero_le _,rfl,rfl,g7,p7,f7,q7,hb7,Lib.hid ⟨HU.out,fun i hi=>by omega⟩⟩
    case round =>
     clear g7 p7 f7 q7 hb7 hk HU P
     obtain ⟨h,P,hh,rfl,rfl,g7,p7,f7,q7,hb7,HU⟩:=hrel
     by_cases hlt:h<M.length
     · have z1:(h:Int)<(M.length:Int):=by omega
       obtain ⟨b,o2,rfl,hbl,hcell⟩:=mt_at (hM0.below hb7) hlt (KK.out.pos h hlt)
       have hml2:=KK.out.lt h hlt
       have hmne:=KK.out.ne h hlt
       have HC:=Lib.hid (sees_mate KK.out hlt)
       have HMT:=Lib.hid (show mt M h=mt M h from rfl)
       obtain ⟨m,hm⟩:∃ m,m=mt M h:=⟨_,rfl⟩
       rw [<- hm] at hcell hml2 hmne HC
       have HM:=Lib.hid hm
       clear hm HMT
       have z2:(m:Int)<(M.length:Int):=by omega
       have hpl:=HU.out.1.fst.len
       have y3:=p7.cell 0
       have y4:wr.cell? ⟨F,0,none⟩=some (.func (.func 65) #[] #[.pointer (some ⟨G+1,0,none⟩),.pointer (some ⟨F,0,none⟩)]):=f7.cell 0
       obtain ⟨n1,a,d1⟩:=HU.out.1.fst.ex h hlt
       obtain ⟨n2,a2,d2⟩:=HU.out.1.fst.ex m hml2
       have ha:=d1.lt HU.out.1.fst.lt hlt
       have ha2:=d2.lt HU.out.1.fst.lt hml2
       have HF:=Lib.hid (fun (x n a:Nat) (hx:x<M.length) (d:Dp P n x a) (W:World) (P1:List Nat) (k1:Kp P P1) (ag:Arr W G 3 (nc P1)) (hO:Onl G wr W)=>show Calls Try.prog 65 #[.int .i64 (x:Int),.pointer (some ⟨G+1,0,none⟩),.pointer (some ⟨F,0,none⟩)] W (fun e w'=>∃ P',e=.returned (.int .i64 (a:Nat))/\Kp P P'/\Arr w' G 3 (nc P')/\Onl G wr w') by
        obtain ⟨n',d'⟩:=k1.dp x n a d
        refine (find_code (G+1) F G M.length (by omega) (by omega) hml n' x a P1 W (by rw [k1.len];exact hpl) (k1.lt _ HU.out.1.fst.lt) hx d' (p7.onl hO (by omega)) (f7.onl hO (by omega)) ag).mono ?_
        rintro e w' ⟨P',rfl,hF,ag',hO'⟩
        exact ⟨P',rfl,k1.trans hF.kp,ag',hO.trans hO'⟩)
       have HF1:=Lib.hid (HF.out h n1 a hlt d1)
       have HF2:=Lib.hid (HF.out m n2 a2 hml2 d2)
       have HJ:=Lib.hid (fun (P1:List Nat) (k1:Kp P P1)=>by
        obtain ⟨m1,e1⟩:=k1.dp _ _ _ d1
        obtain ⟨m2,e2⟩:=k1.dp _ _ _ d2
        have:=join_any (HU.out.1.keep k1) (sees_symm KK.out) hlt hml2 HC.out e1 e2
        exact (show UF (Sees M M.length) M.length (P1.set a a2)/\∀ i,i<h+1->Sm (P1.set a a2) i (mt M i) from ⟨this.1,fun i hi=>by
         rcases Nat.lt_or_ge i h with q|q
         · exact this.2.2 _ _ ((HU.out.2 i q).keep k1)
         · have hih:i=h:=by omega
           subst hih
           rw [<- HM.out];exact this.2.1⟩))
       have KS:=Lib.hid (fun W (hb:Onl G wr W)=>(⟨(hb.cell (Nat.succ_ne_self _)).trans y3,(hb.cell (show F≠G by omega)).trans y4,hb⟩:W.cell? ⟨G+1,0,none⟩=some (.slice (some ⟨G,0,none⟩) M.length M.length)/\W.cell? ⟨F,0,none⟩=some (.func (.func 65) #[] #[.pointer (some ⟨G+1,0,none⟩),.pointer (some ⟨F,0,none⟩)])/\Onl G wr W))
       have HZ:=Lib.hid (fun (W:World) (P1:List Nat) (x:Nat) (hx:x<M.length) (k1:Kp P P1) (ag:Arr W G 3 (nc P1))=>(⟨⟨_,(ag.cell x).trans (nc_get (by rw [k1.len];omega))⟩,ag.frozen x⟩:(∃ v,W.cell? ⟨G,x,none⟩=some v)/\W.frozen? ⟨G,x,none⟩=false))
       clear HF d1 d2
       go_upto_region 12 with fail
       go_region_held3 (fun w'=>w'.cell? ⟨G+1,0,none⟩=some (.slice (some ⟨G,0,none⟩) M.length M.length)/\w'.cell? ⟨F,0,none⟩=some (.func (.func 65) #[] #[.pointer (some ⟨G+1,0,none⟩),.pointer (some ⟨F,0,none⟩)])/\Onl G wr w') ((refine KS.out _ ?_;repeat (first|exact Onl.refl _ _|exact hO2|exact hO1|refine Onl.drew ?_|refine Onl.setCell ?_ _ _)))
        (first
         | (go_at_call_of 65 (Value.int .i64 (h:Int));(first|refine (HF1.out _ P2 k2 g9 hO2).mono ?_|(refine (HF1.out _ P (Kp.refl _) ?_ ?_).mono ?_;(focus exact g7);(focus (first|exact Onl.refl _ _|exact (Onl.refl _ _).drew|exact (Onl.refl _ _).drew.drew))));rintro e w8 ⟨P1,rfl,k1,g8,hO1⟩;obtain ⟨⟨v8,zc8⟩,zf8⟩:=HZ.out _ _ a ha k1 g8)
         | (go_at_call_of 65 (Value.int .i64 (m:Int));(first|refine (HF2.out _ P1 k1 g8 hO1).mono ?_|(refine (HF2.out _ P (Kp.refl _) ?_ ?_).mono ?_;(focus exact g7);(focus (first|exact Onl.refl _ _|exact (Onl.refl _ _).drew|exact (Onl.refl _ _).drew.drew))));rintro e w9 ⟨P2,rfl,k2,g9,hO2⟩;obtain ⟨⟨v9,zc9⟩,zf9⟩:=HZ.out _ _ a ha k2 g9))
       all_goals
        go_wp2_with fail
        go_roundg (M.length-(h+1))
        case measure=>omega
        case rel =>
         first
          | exact ⟨h+1,P2.set a a2,by omega,rfl,by go_num,by rw [<- nc_set];exact g9.set a _,p7.onl (hO2.setCell a _) (by omega),f7.onl (hO2.setCell a _) (by omega),q7.onl (hO2.setCell a _) (by omega),hb7.trans ((hO2.setCell a _).below (Nat.le_of_lt lw)),Lib.hid (HJ.out P2 k2)⟩
          | exact ⟨h+1,P1.set a a2,by omega,rfl,by go_num,by rw [<- nc_set];exact g8.set a _,p7.onl (hO1.setCell a _) (by omega),f7.onl (hO1.setCell a _) (by omega),q7.onl (hO1.setCell a _) (by omega),hb7.trans ((hO1.setCell a _).below (Nat.le_of_lt lw)),Lib.hid (HJ.out P1 k1)⟩
     · have z1:¬ ((h:Int)<(M.length:Int)):=by omega
       have HU2:Hid (UF (Sees M M.length) M.length P/\∀ i,i<M.length->Sm P i (mt M i)):=Lib.hid ⟨HU.out.1,fun i hi=>HU.out.2 i (by omega)⟩
       clear HU
       have y1:=q7.cell 0
       go_wp2_with fail
       clear y1 z1 hlt hh
       obtain ⟨wo2,rfl⟩:∃ wo:World,wo=wr:=⟨_,rfl⟩
       go_loopg [9,51] S.length (fun gk s9 s51 wi=>∃ (x:Nat) (P:List Nat),x<=S.length/\gk=S.length-x/\s51=.int .i64 (x:Int)/\Arr wi G 3 (nc P)/\Arr wi (G+1) 22 [.slice (some ⟨G,0,none⟩) M.length M.length]/\Arr wi F 65 [fnV (G+1) F]/\Arr wi w.heap.size 24 [.slice A S.length c,.slice A2 M.length c2,.int .i64 L]/\Below w.heap.size w wi/\Hid ((UF (Sees M M.length) M.length P/\∀ i,i<M.length->Sm P i (mt M i))/\∀ i,i<x->Sm P (4*i+1) (4*i+3)))
       case atStart=>exact ⟨0,P,Nat.zero_le _,rfl,rfl,g7,p7,f7,q7,hb7,Lib.hid ⟨HU2.out,fun i hi=>by omega⟩⟩
       case round =>
        clear g7 p7 f7 q7 hb7 HU2 P
        obtain ⟨x,P,hx,rfl,rfl,g7,p7,f7,q7,hb7,HU⟩:=hrel
        by_cases hlt:x<S.length
        · have z1:(x:Int)<(S.length:Int):=by omega
          have hx1:4*x+1<M.length:=by have:=T2.out;omega
          have hx3:4*x+3<M.length:=by have:=T2.out;omega
          have HC:=Lib.hid (sees_over KK.out hlt)
          have hpl:=HU.out.1.1.fst.len
          have y3:=p7.cell 0
          have y4:wr.cell? ⟨F,0,none⟩=some (.func (.func 65) #[] #[.pointer (some ⟨G+1,0,none⟩),.pointer (some ⟨F,0,none⟩)]):=f7.cell 0
          obtain ⟨n1,a,d1⟩:=HU.out.1.1.fst.ex (4*x+1) hx1
          obtain ⟨n2,a2,d2⟩:=HU.out.1.1.fst.ex (4*x+3) hx3
          have ha:=d1.lt HU.out.1.1.fst.lt hx1
          have ha2:=d2.lt HU.out.1.1.fst.lt hx3
          have HF:=Lib.hid (fun (x n a:Nat) (hx:x<M.length) (d:Dp P n x a) (xi:Int) (hxi:(x:Int)=xi) (W:World) (P1:List Nat) (k1:Kp P P1) (ag:Arr W G 3 (nc P1)) (hO:Onl G wr W)=>show Calls Try.prog 65 #[.int .i64 xi,.pointer (some ⟨G+1,0,none⟩),.pointer (some ⟨F,0,none⟩)] W (fun e w'=>∃ P',e=.returned (.int .i64 (a:Nat))/\Kp P P'/\Arr w' G 3 (nc P')/\Onl G wr w') by
           subst hxi
           obtain ⟨n',d'⟩:=k1.dp x n a d
           refine (find_code (G+1) F G M.length (by omega) (by omega) hml n' x a P1 W (by rw [k1.len];exact hpl) (k1.lt _ HU.out.1.1.fst.lt) hx d' (p7.onl hO (by omega)) (f7.onl hO (by omega)) ag).mono ?_
           rintro e w' ⟨P',rfl,hF,ag',hO'⟩
           exact ⟨P',rfl,k1.trans hF.kp,ag',hO.trans hO'⟩)
          have HF1:=Lib.hid (HF.out (4*x+1) n1 a hx1 d1 _ rfl)
          have HF2:=Lib.hid (HF.out (4*x+3) n2 a2 hx3 d2 _ rfl)
          have HJ:=Lib.hid (fun (P1:List Nat) (k1:Kp P P1)=>by
           obtain ⟨m1,e1⟩:=k1.dp _ _ _ d1
           obtain ⟨m2,e2⟩:=k1.dp _ _ _ d2
           have:=join_any (HU.out.1.1.keep k1) (sees_symm KK.out) hx1 hx3 HC.out e1 e2
           exact (show (UF (Sees M M.length) M.length (P1.set a a2)/\∀ i,i<M.length->Sm (P1.set a a2) i (mt M i))/\∀ i,i<x+1->Sm (P1.set a a2) (4*i+1) (4*i+3) from ⟨⟨this.1,fun i hi=>this.2.2 _ _ ((HU.out.1.2 i hi).keep k1)⟩,fun i hi=>by
            rcases Nat.lt_or_ge i x with q|q
            · exact this.2.2 _ _ ((HU.out.2 i q).keep k1)
            · have hih:i=x:=by omega
              subst hih
              exact this.2.1⟩))
          have KS:=Lib.hid (fun W (hb:Onl G wr W)=>(⟨(hb.cell (Nat.succ_ne_self _)).trans y3,(hb.cell (show F≠G by omega)).trans y4,hb⟩:W.cell? ⟨G+1,0,none⟩=some (.slice (some ⟨G,0,none⟩) M.length M.length)/\W.cell? ⟨F,0,none⟩=some (.func (.func 65) #[] #[.pointer (some ⟨G+1,0,none⟩),.pointer (some ⟨F,0,none⟩)])/\Onl G wr W))
          have HZ:=Lib.hid (fun (W:World) (P1:List Nat) (x:Nat) (hx:x<M.length) (k1:Kp P P1) (ag:Arr W G 3 (nc P1))=>(⟨⟨_,(ag.cell x).trans (nc_get (by rw [k1.len];omega))⟩,ag.frozen x⟩:(∃ v,W.cell? ⟨G,x,none⟩=some v)/\W.frozen? ⟨G,x,none⟩=false))
          have z2:(a:Int)<(M.length:Int):=by omega
          have wa:IntKind.i64.wrap (4*(x:Int))=4*(x:Int):=IntWalk.i64_in _ (by omega)
          have wb:IntKind.i64.wrap (4*(x:Int)+1)=((4*x+1:Nat):Int):=(IntWalk.i64_in _ (by omega)).trans (by omega)
          have wc:IntKind.i64.wrap (4*(x:Int)+3)=((4*x+3:Nat):Int):=(IntWalk.i64_in _ (by omega)).trans (by omega)
          clear HF d1 d2 hx1 hx3 HC
          generalize 4*x+1=u1 at HF1 wb
          generalize 4*x+3=u3 at HF2 wc
          go_upto_region 17 with fail
          go_region_held3 (fun w'=>w'.cell? ⟨G+1,0,none⟩=some (.slice (some ⟨G,0,none⟩) M.length M.length)/\w'.cell? ⟨F,0,none⟩=some (.func (.func 65) #[] #[.pointer (some ⟨G+1,0,none⟩),.pointer (some ⟨F,0,none⟩)])/\Onl G wr w') ((refine KS.out _ ?_;repeat (first|exact Onl.refl _ _|exact hO2|exact hO1|refine Onl.drew ?_|refine Onl.setCell ?_ _ _)))
           (first
            | (go_at_call_of 65 (Value.int .i64 (u1:Int));(first|refine (HF1.out _ P2 k2 g9 hO2).mono ?_|(refine (HF1.out _ P (Kp.refl _) ?_ ?_).mono ?_;(focus exact g7);(focus (first|exact Onl.refl _ _|exact (Onl.refl _ _).drew|exact (Onl.refl _ _).drew.drew))));rintro e w8 ⟨P1,rfl,k1,g8,hO1⟩;obtain ⟨⟨v8,zc8⟩,zf8⟩:=HZ.out _ _ a ha k1 g8)
            | (go_at_call_of 65 (Value.int .i64 (u3:Int));(first|refine (HF2.out _ P1 k1 g8 hO1).mono ?_|(refine (HF2.out _ P (Kp.refl _) ?_ ?_).mono ?_;(focus exact g7);(focus (first|exact Onl.refl _ _|exact (Onl.refl _ _).drew|exact (Onl.refl _ _).drew.drew))));rintro e w9 ⟨P2,rfl,k2,g9,hO2⟩;obtain ⟨⟨v9,zc9⟩,zf9⟩:=HZ.out _ _ a ha k2 g9))
          all_goals
           clear wa wb wc
           go_wp2_with fail
           go_roundg (S.length-(x+1))
           case measure=>omega
           case rel =>
            first
             | exact ⟨x+1,P2.set a a2,by omega,rfl,by go_num,by rw [<- nc_set];exact g9.set a _,p7.onl (hO2.setCell a _) (by omega),f7.onl (hO2.setCell a _) (by omega),q7.onl (hO2.setCell a _) (by omega),hb7.trans ((hO2.setCell a _).below (Nat.le_of_lt lw)),Lib.hid (HJ.out P2 k2)⟩
             | exact ⟨x+1,P1.set a a2,by omega,rfl,by go_num,by rw [<- nc_set];exact g8.set a _,p7.onl (hO1.setCell a _) (by omega),f7.onl (hO1.setCell a _) (by omega),q7.onl (hO1.setCell a _) (by omega),hb7.trans ((hO1.setCell a _).below (Nat.le_of_lt lw)),Lib.hid (HJ.out P1 k1)⟩
        · have z1:¬ ((x:Int)<(S.length:Int)):=by omega
          obtain ⟨ρ,hρ⟩:=root_fun HU.out.1.1.fst
          have FT:=Lib.hid (fits_of KK.out HU.out.1.1 HU.out.1.2 (fun c hc=>HU.out.2 c (by omega)) hρ)
          have HR:=Lib.hid hρ
          have FS:=Lib.hid HU.out.1.1.fst
          clear HU hρ
          have y0:=q7.cell 0
          have y1:=q7.cell 1
          have hmk:=MK.out
          have hmm:=run_makeMapH
          go_upto_region 20 with fail
          have hW:∀ W,W=wr.alloc (.map #[] 0)->W.ownsMap Try.prog 3 (plainElem Try.prog 3) wr.heap.size 0 (.map []:DataW Unit)/\Arr W G 3 (nc P)/\Arr W (G+1) 22 [.slice (some ⟨G,0,none⟩) M.length M.length]/\Arr W F 65 [fnV (G+1) F]/\Arr W w.heap.size 24 [.slice A S.length c,.slice A2 M.length c2,.int .i64 L]/\Below w.heap.size w W/\W.heap.size=wr.heap.size+1:=by
           intro W hW
           subst hW
           exact ⟨World.ownsMap_made wr _ _ _,g7.alloc _,p7.alloc _,f7.alloc _,q7.alloc _,hb7.alloc hb7.size _,by simp⟩
          have lBm:=f7.lt
          generalize hB:wr.heap.size=Bm at *
          generalize wr.alloc (.map #[] 0)=w7 at hW ⊢
          obtain ⟨o8,g8,p8,f8,q8,hb8,hs8⟩:=hW w7 rfl
          clear hB hW g7 p7 f7 q7 hb7 y0 y1 hmm
          have y1:=q8.cell 1
          go_upto_region 21 with fail
          have hW:∀ W,W=w7.alloc (.cells (rowOf (List.replicate M.length (Value.int .i64 0))) 3)->W.ownsMap Try.prog 3 (plainElem Try.prog 3) Bm 0 (.map []:DataW Unit)/\Arr W (Bm+1) 3 (nc (numA (labA M M.length M.length) M.length 0))/\Arr W G 3 (nc P)/\Arr W (G+1) 22 [.slice (some ⟨G,0,none⟩) M.length M.length]/\Arr W F 65 [fnV (G+1) F]/\Below w.heap.size w W:=by
           intro W hW
           subst hW
           refine ⟨o8.alloc _,?_,g8.alloc _,p8.alloc _,f8.alloc _,hb8.alloc hb8.size _⟩
           rw [show nc (numA (labA M M.length M.length) M.length 0)=List.replicate M.length (Value.int .i64 0) by
            apply List.ext_getElem?
            intro i
            unfold nc numA
            simp [List.getElem?_replicate]
            by_cases h:i<M.length <;> simp [h]]
           exact Arr.newAt w7 _ _ _ hs8.symm
          generalize w7.alloc (.cells (rowOf (List.replicate M.length (Value.int .i64 0))) 3)=w9 at hW ⊢
          obtain ⟨o9,r9,g9,p9,f9,hb9⟩:=hW w9 rfl
          clear hW o8 g8 p8 f8 q8 hb8 y1 hmk hs8
          go_wp2_with fail
          clear z1 hlt hx
          obtain ⟨wo3,rfl⟩:∃ wo:World,wo=wr:=⟨_,rfl⟩
          go_loopg [12,13,14,15,77] M.length (fun gk s12 s13 s14 s15 s77 wi=>∃ (h:Nat) (P1:List Nat) (Dm:DataW Unit),h<=M.length/\gk=M.length-h/\s77=.int .i64 (h:Int)/\wi.ownsMap Try.prog 3 (plainElem Try.prog 3) Bm h Dm/\Arr wi (Bm+1) 3 (nc (numA (labA M M.length M.length) M.length h))/\Arr wi G 3 (nc P1)/\Arr wi (G+1) 22 [.slice (some ⟨G,0,none⟩) M.length M.length]/\Arr wi F 65 [fnV (G+1) F]/\Below w.heap.size w wi/\Hid (Kp P P1/\NM (labA M M.length M.length) ρ h Dm))
          case atStart=>exact ⟨0,P,_,Nat.zero_le _,rfl,rfl,o9,r9,g9,p9,f9,hb9,Lib.hid ⟨Kp.refl _,NM.start⟩⟩
          case round =>
           clear o9 r9 g9 p9 f9 hb9
           obtain ⟨h,P1,Dm,hh,rfl,rfl,o9,r9,g9,p9,f9,hb9,HN⟩:=hrel
           by_cases hlt:h<M.length
           · have z1:(h:Int)<(M.length:Int):=by omega
             obtain ⟨hrl,n,hd⟩:=HR.out h hlt
             obtain ⟨n',d'⟩:=HN.out.1.dp h n (ρ h) hd
             have HF:=Lib.hid (find_code (G+1) F G M.length (by omega) (by omega) hml n' h (ρ h) P1 wr (by rw [HN.out.1.len];exact FS.out.len) (HN.out.1.lt _ FS.out.lt) hlt d' p9 f9 g9)
             have y4:wr.cell? ⟨F,0,none⟩=some (.func (.func 65) #[] #[.pointer (some ⟨G+1,0,none⟩),.pointer (some ⟨F,0,none⟩)]):=f9.cell 0
             have NO:=Lib.hid (fun e=>NM.old FT.out HN.out.2 hlt e)
             have NN:=Lib.hid (fun e=>NM.new FT.out HN.out.2 hlt e)
             have HNS:=Lib.hid (numA_step (l:=(labA M M.length M.length)) hlt)
             have KY:=Lib.hid (keyI (r:=ρ h) (by omega))
             have HK:=Lib.hid HN.out.1
             have hsz:Maps.size Dm<=256:=by rw [HN.out.2.size];have:=rk_le (labA M M.length M.length) h;omega
             clear hd d' HN
             generalize hrr:ρ h=r at *
             have HRR:=Lib.hid hrr
             clear hrr
             generalize rk (labA M M.length M.length) (gn (labA M M.length M.length) h)=x0 at *
             go_upto_region 25 with (go_at_call 65;refine HF.out.mono ?_;rintro e w8 ⟨P2,rfl,hF2,g10,hO2⟩)
             have o10:=owns_onl o9 hO2 (by omega)
             have r10:=r9.onl hO2 (by omega)
             have p10:=p9.onl hO2 (by omega)
             have f10:=f9.onl hO2 (by omega)
             have hb10:=hb9.trans (hO2.below (Nat.le_of_lt lw))
             have HK2:=Lib.hid (HK.out.trans hF2.kp)
             clear o9 r9 g9 p9 f9 hb9 hO2 hF2 HF HK y4
             have zc:=(r10.cell h).trans (nc_get (by rw [numA_length];exact hlt))
             have zf:=r10.frozen h
             generalize gn (numA (labA M M.length M.length) M.length h) h=z0 at *
             by_cases hh1:Maps.has Dm (ky r)=true
             · have NO2:=Lib.hid (NO.out hh1)
               clear NO NN
               go_wp2_with (first
                | (at_lookup;refine wpList_lookup_own_ok_int _ rfl _ _ 97 rfl 3 3 .i64 lawI Try.underlying97 Try.underlying3 (zeroI _) Bm h Dm rfl o10 _ (ky r) rfl KY.out ?_;intro c1 hat1 hwc1;clear hat1 hwc1)
                | (at_lookup;refine wpList_lookup_own_int _ rfl _ _ 97 rfl 3 3 .i64 lawI Try.underlying97 Try.underlying3 (zeroI _) Bm h Dm rfl o10 _ (ky r) rfl KY.out ?_;intro c2 hat2 hwc2;obtain rfl:=lit_inj (NO2.out.2.symm.trans hat2);clear hat2 hwc2))
               go_roundg (M.length-(h+1))
               case measure=>omega
               case rel=>exact ⟨h+1,P2,Dm,by omega,rfl,by go_num,(owns_set o10 (p:=⟨Bm+1,h,none⟩) (by show Bm≠Bm+1;omega) _).mono (Nat.le_succ _),by rw [<- HNS.out,<- nc_set];exact r10.set h _,g10.far (p:=⟨Bm+1,h,none⟩) (by show G≠Bm+1;omega) _,p10.far (p:=⟨Bm+1,h,none⟩) (by show G+1≠Bm+1;omega) _,f10.far (p:=⟨Bm+1,h,none⟩) (by show F≠Bm+1;omega) _,hb10.setCell (p:=⟨Bm+1,h,none⟩) (by show w.heap.size<=Bm+1;omega) _,Lib.hid ⟨HK2.out,NO2.out.1⟩⟩
             · have hh2:Maps.has Dm (ky r)=false:=by simpa using hh1
               have NN2:=Lib.hid (NN.out hh2)
               clear NO NN
               go_upto_region 28 with (first
                | (at_lookup;refine wpList_lookup_own_ok_int _ rfl _ _ 97 rfl 3 3 .i64 lawI Try.underlying97 Try.underlying3 (zeroI _) Bm h Dm rfl o10 _ (ky r) rfl KY.out ?_;intro c1 hat1 hwc1;clear hat1 hwc1)
                | (at_len;refine wpList_len_own _ rfl _ 97 rfl 3 3 Try.underlying97 _ Bm h Dm rfl o10 ?_)
                | (at_mapUpdate;refine wpList_mapUpdate_own _ rfl _ _ _ 97 rfl 3 3 lawI Try.underlying97 _ Bm h Dm rfl o10 (by unfold maxLen;omega) _ _ (ky r) rfl rfl KY.out _ [] (plainElem_int Try.underlying3 (WalkArith.wf_i64 (by omega))) ?_;intro w11 o11 hg11))
               have r11:=r10.grown hg11 (by omega)
               have g11:=g10.grown hg11 (by omega)
               have p11:=p10.grown hg11 (by omega)
               have f11:=f10.grown hg11 (by omega)
               have hb11:=hb10.trans (grown_below hg11 (by omega) (Nat.lt_trans (Nat.lt_succ_self _) r10.lt))
               have zc2:=(r11.cell h).trans (nc_get (by rw [numA_length];exact hlt))
               have zf2:=r11.frozen h
               have HV:=Lib.hid (show (Dm.put (ky r) (.lit (.int .i64 (Maps.size Dm:Nat)))).atKey (ky r) (.lit (.int .i64 0))=.lit (.int .i64 (x0:Nat)) by
                have:=NN2.out.2
                rw [atKey_put_same o10.isMap (show WideAt.IsKeyLit (ky r) from trivial),<- this])
               clear r10 g10 p10 f10 hb10 o10 zc zf hg11
               generalize gn (numA (labA M M.length M.length) M.length h) h=z1' at *
               go_wp2_with (at_lookup;refine wpList_lookup_own_int _ rfl _ _ 97 rfl 3 3 .i64 lawI Try.underlying97 Try.underlying3 (zeroI _) Bm (h+1) _ rfl o11 _ (ky r) rfl KY.out ?_;intro c2 hat2 hwc2;obtain rfl:=lit_inj (HV.out.symm.trans hat2);clear hat2 hwc2)
               go_roundg (M.length-(h+1))
               case measure=>omega
               case rel=>exact ⟨h+1,P2,_,by omega,rfl,by go_num,owns_set o11 (p:=⟨Bm+1,h,none⟩) (by show Bm≠Bm+1;omega) _,by rw [<- HNS.out,<- nc_set];exact r11.set h _,g11.far (p:=⟨Bm+1,h,none⟩) (by show G≠Bm+1;omega) _,p11.far (p:=⟨Bm+1,h,none⟩) (by show G+1≠Bm+1;omega) _,f11.far (p:=⟨Bm+1,h,none⟩) (by show F≠Bm+1;omega) _,hb11.setCell (p:=⟨Bm+1,h,none⟩) (by show w.heap.size<=Bm+1;omega) _,Lib.hid ⟨HK2.out,NN2.out.1⟩⟩
           · have z1:¬ ((h:Int)<(M.length:Int)):=by omega
             have hhn:h=M.length:=by omega
             have HSZ:=Lib.hid (show Maps.size Dm=rk (labA M M.length M.length) M.length by rw [HN.out.2.size,hhn])
             have r10:Arr wr (Bm+1) 3 (nc (numA (labA M M.length M.length) M.length M.length)):=by rw [hhn] at r9;exact r9
             clear r9 HN hhn
             go_wp2_with (at_len;refine wpList_len_own _ rfl _ 97 rfl 3 3 Try.underlying97 _ Bm h Dm rfl o9 ?_)
             go_ret2
             exact ⟨Bm+1,by rw [HSZ.out];rfl,by omega,r10,hb9⟩
end Go.Proofs.Ytfnmeigpfmeomaa
namespace Go.Proofs.Ytfnmeigpfmeomaa
open Go.RowKit
set_option linter.unusedVariables false
def arcL (M:List Int):List Nat:=numA (labA M M.length M.length) M.length M.length
def colN (M:List Int) (L:Int):Nat:=rk (labA M M.length M.length) M.length+L.toNat
theorem valB_ok {S M:List Int} {L:Int} (h:valB S M L=true):Ok S M L:=by
 unfold valB at h
 exact ok_of (Bool.and_eq_true_iff.1 h).1
set_option maxHeartbeats 1000000 in
theorem Arcs_yes (vs vm:Value) (S M:List Int) (L:Int) (w:World) (hS:Ints w vs S) (hM:Ints w vm M) (hv:valB S M L=true) :
 Calls Try.prog 21 #[.agg #[vs,vm,.int .i64 L]] w fun e w'=>∃ g,e=.returned (.tuple #[.slice (some ⟨g,0,none⟩) M.length M.length,.int .i64 (colN M L:Nat),.int .i64 0])/\w.heap.size<=g/\Arr w' g 3 (nc (arcL M))/\Below w.heap.size w w':=by
 have hW:Arr (w.alloc (.cells #[vs,vm,.int .i64 L] 24)) w.heap.size 24 [vs,vm,.int .i64 L]/\Below w.heap.size w (w.alloc (.cells #[vs,vm,.int .i64 L] 24)):=⟨Arr.new w _ _,(Below.refl _ _).alloc (Nat.le_refl _) _⟩
 have HK:=Lib.hid (valB_ok hv)
 have HC:=Lib.hid (fun W (hb:Below w.heap.size w W)=>valid_code vs vm S M L W (hS.below hb) (hM.below hb))
 rw [hv] at HC
 clear hv
 have HA:=Lib.hid (fun W (hb:Below w.heap.size w W)=>arcs_code vs vm S M L W (hS.below hb) (hM.below hb) HK.out)
 have hrk:=rk_le (labA M M.length M.length) M.length
 have hml:M.length<=256:=by have:=HK.out.m;have:=HK.out.n;omega
 have hl0:=HK.out.l0
 have hl1:=HK.out.l1
 have HCN:=Lib.hid (show ((colN M L:Nat):Int)=((rk (labA M M.length M.length) M.length:Nat):Int)+L by unfold colN;omega)
 have HAL:=Lib.hid (show arcL M=numA (labA M M.length M.length) M.length M.length from rfl)
 rw [HCN.out,HAL.out]
 clear HCN HAL
 generalize rk (labA M M.length M.length) M.length=R at *
 obtain ⟨A,c,rfl,hc,hx⟩:=hS
 obtain ⟨A2,c2,rfl,hc2,hx2⟩:=hM
 clear hx hx2
 go_enter Try.func21,Try.ntmps21
 go_upto_region 1 with fail
 generalize (w.alloc (.cells #[.slice A S.length c,.slice A2 M.length c2,.int .i64 L] 24))=w4 at hW ⊢
 obtain ⟨q0,hb4⟩:=hW
 have y0:=q0.cell 0
 have y1:=q0.cell 1
 have y2:=q0.cell 2
 go_upto_region 3 with (go_at_call 11;refine (HC.out _ hb4).mono ?_;rintro e w5 ⟨rfl,hb5⟩)
 have hb6:=hb4.trans (hb5.mono hb4.size)
 have q1:=q0.below hb5 q0.lt
 clear y0 y1 y2
 have y0:=q1.cell 0
 have y1:=q1.cell 1
 have y2:=q1.cell 2
 go_upto_region 4 with (go_at_call 45;refine (HA.out _ hb6).mono ?_;rintro e w7 ⟨g,rfl,hg7,a7,hb7⟩)
 have q2:=q1.below hb7 q1.lt
 have y3:=q2.cell 2
 have wa:IntKind.i64.wrap ((R:Int)+L)=(R:Int)+L:=IntWalk.i64_in _ (by omega)
 clear y0 y1 y2
 go_quiet (fail)
 clear wa
 go_wp2_with fail
 exact bodyPost_ret (v:=.tuple #[.slice (some ⟨g,0,none⟩) M.length M.length,.int .i64 ((R:Int)+L),.int .i64 0]) (by simp [results,Try.results21,go_sem]) rfl ⟨g,rfl,Nat.le_trans hb6.size hg7,a7,bdrewN (hb6.trans (hb7.mono hb6.size)) _⟩
def addI (r:List Int) (i:Nat) (d:Int):List Int:=r.set i (gi r i+d)
theorem addI_length (r:List Int) (i:Nat) (d:Int):(addI r i d).length=r.length:=by simp [addI]
def rowM (arc:List Nat) (cols c:Nat):List Int:=addI (addI (addI (List.replicate cols 0) (gn arc (4*c+1)) 2) (gn arc (4*c)) (-1)) (gn arc (4*c+2)) (-1)
theorem rowM_length (arc:List Nat) (cols c:Nat):(rowM arc cols c).length=cols:=by simp [rowM,addI_length]
def matM (arc:List Nat) (cols n:Nat):List (List Int):=(List.range n).map (rowM arc cols)
theorem matM_length (arc:List Nat) (cols n:Nat):(matM arc cols n).length=n:=by simp [matM]
theorem matM_get {arc:List Nat} {cols n i:Nat} (h:i<n):(matM arc cols n)[i]? = some (rowM arc cols i):=by simp [matM,h]
theorem matM_succ (arc:List Nat) (cols n:Nat):matM arc cols (n+1)=matM arc cols n ++ [rowM arc cols n]:=by simp [matM,List.range_succ]
theorem addI_bd {r:List Int} {i:Nat} {d b e:Int} (h:∀ j,-b<=gi r j/\gi r j<=b) (hd:-e<=d/\d<=e) (he:0<=e):∀ j,-(b+e)<=gi (addI r i d) j/\gi (addI r i d) j<=b+e:=by
 intro j
 have hj:=h j
 have hi:=h i
 unfold addI
 rcases Nat.lt_or_ge i r.length with q|q
 · rw [gi_set _ _ _ _ q]
   split <;> omega
 · rw [List.set_eq_of_length_le q];omega
theorem gi_zeros (n j:Nat):gi (List.replicate n (0:Int)) j=0:=by
 unfold gi;rw [List.getElem?_replicate];split <;> rfl
def Mat (w:World) (v:Value) (rows:List (List Int)):Prop :=
 ∃ A c,v=.slice A rows.length c/\rows.length<=c/\∀ i row,rows[i]? = some row->∃ b o,A=some ⟨b,o,none⟩/\b<w.heap.size/\∃ u,w.cell? ⟨b,o+i,none⟩=some u/\Ints w u row
theorem Mat.below {w w':World} {v:Value} {rows:List (List Int)} (h:Mat w v rows) (hb:Below w.heap.size w w'):Mat w' v rows:=by
 obtain ⟨A,c,e,hc,hr⟩:=h
 refine ⟨A,c,e,hc,fun i row hi=>?_⟩
 obtain ⟨b,o,hA,hlt,u,hu,hI⟩:=hr i row hi
 exact ⟨b,o,hA,Nat.lt_of_lt_of_le hlt hb.size,u,(hb.cell hlt).trans hu,hI.below hb⟩
theorem Mat.drewN {w:World} {v:Value} {rows:List (List Int)} (h:Mat w v rows) (n:Nat):Mat (w.drewN n) v rows:=h
theorem Mat.nil (w:World):Mat w (.slice none 0 0) []:=⟨none,0,rfl,Nat.le_refl _,fun i row h=>by simp at h⟩
theorem Mat.at_ {w:World} {A:Option Addr} {n c i:Nat} {rows:List (List Int)} (h:Mat w (.slice A n c) rows) (hi:i<rows.length):∃ b o,A=some ⟨b,o,none⟩/\b<w.heap.size/\∃ u,w.cell? ⟨b,o+i,none⟩=some u/\Ints w u rows[i]:=by
 obtain ⟨A',c',e,hc,hr⟩:=h
 injection e with e1 e2 e3
 subst e1
 exact hr i rows[i] (List.getElem?_eq_getElem hi)
def RowsA (e:TypeId) (w:World) (lo hi:Nat) (vs:List Value) (rows:List (List Int)):Prop :=
 vs.length=rows.length/\∀ (i:Nat) (v:Value) (row:List Int),vs[i]? = some v->rows[i]? = some row->∃ b,v=.slice (some ⟨b,0,none⟩) row.length row.length/\lo<b/\b<hi/\Arr w b e (ic row)
theorem RowsA.nil (e:TypeId) (w:World) (lo hi:Nat):RowsA e w lo hi [] []:=⟨rfl,fun i v row h=>by simp at h⟩
theorem RowsA.keep {e:TypeId} {w w':World} {lo hi:Nat} {vs:List Value} {rows:List (List Int)} (h:RowsA e w lo hi vs rows) (hk:∀ b,lo<b->b<hi->b<w.heap.size->w'.heap[b]? = w.heap[b]?):RowsA e w' lo hi vs rows :=
 ⟨h.1,fun i v row h1 h2=>by
  obtain ⟨b,e,hl,hh,ha⟩:=h.2 i v row h1 h2
  exact ⟨b,e,hl,hh,(hk b hl hh ha.lt).trans ha⟩⟩
theorem RowsA.onl {e:TypeId} {w w':World} {lo hi:Nat} {vs:List Value} {rows:List (List Int)} (h:RowsA e w lo hi vs rows) (o:Onl hi w w'):RowsA e w' lo hi vs rows:=h.keep fun b _ hb _=>o.block b (by omega)
theorem RowsA.mono {e:TypeId} {w:World} {lo hi hi':Nat} {vs:List Value} {rows:List (List Int)} (h:RowsA e w lo hi vs rows) (hh:hi<=hi'):RowsA e w lo hi' vs rows :=
 ⟨h.1,fun i v row h1 h2=>by
  obtain ⟨b,e,hl,hb,ha⟩:=h.2 i v row h1 h2
  exact ⟨b,e,hl,by omega,ha⟩⟩
theorem RowsA.snoc {e:TypeId} {w:World} {lo b:Nat} {vs:List Value} {rows:List (List Int)} {row:List Int} (h:RowsA e w lo b vs rows) (hl:lo<b) (ha:Arr w b e (ic row)):RowsA e w lo (b+1) (vs ++ [.slice (some ⟨b,0,none⟩) row.length row.length]) (rows ++ [row]):=by
 refine ⟨by simp [h.1],fun i v r h1 h2=>?_⟩
 rcases Nat.lt_or_ge i vs.length with q|q
 · rw [List.getElem?_append_left q] at h1
   rw [List.getElem?_append_left (by rw [<- h.1];exact q)] at h2
   exact (h.mono (Nat.le_succ _)).2 i v r h1 h2
 · rw [List.getElem?_append_right q] at h1
   rw [List.getElem?_append_right (by rw [<- h.1];exact q)] at h2
   have hi:i-vs.length=0:=by
    have:=(List.getElem?_eq_some_iff.1 h1).1;simp at this;omega
   rw [hi] at h1
   rw [<- h.1,hi] at h2
   simp at h1 h2
   subst h1 h2
   exact ⟨b,rfl,hl,Nat.lt_succ_self _,ha⟩
theorem Ints.of_ic {w:World} {b:Nat} {t:TypeId} {xs:List Int} (h:Arr w b t (ic xs)):Ints w (.slice (some ⟨b,0,none⟩) xs.length xs.length) xs:=Ints.of_arr h
theorem RowsA.mat {e t:TypeId} {w:World} {lo hi:Nat} {vs:List Value} {rows:List (List Int)} (h:RowsA e w lo hi vs rows) {R:Nat} (hR:Arr w R t vs):Mat w (.slice (some ⟨R,0,none⟩) rows.length rows.length) rows:=by
 refine ⟨_,_,rfl,Nat.le_refl _,fun i row hi=>⟨R,0,rfl,hR.lt,?_⟩⟩
 have hl:i<vs.length:=by rw [h.1];exact (List.getElem?_eq_some_iff.1 hi).1
 obtain ⟨b,e,_,_,ha⟩:=h.2 i vs[i] row (List.getElem?_eq_getElem hl) hi
 refine ⟨vs[i],?_,?_⟩
 · rw [Nat.zero_add,hR.cell,List.getElem?_eq_getElem hl]
 · rw [e];exact Ints.of_ic ha
end Go.Proofs.Ytfnmeigpfmeomaa
