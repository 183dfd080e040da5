/- Colorings of systems of half-edges: slides (plain). -/
import Derived.Test.YtfnmeigpfmeomaaZfKjn
import Derived.BigQuiet
import Derived.Test.YtfnmeigpfmeomaaZfTwo
import Derived.Test.YtfnmeigpfmeomaaZfShelf
namespace Go.Proofs.Ytfnmeigpfmeomaa
set_option linter.unusedVariables false
structure Sld (n:Nat) (α β T:Nat->Nat) (A B C oA oA' uA uA' oB oB' mB mB' mC mC' uC uC':Nat):Prop where
 hA:A<n
 hB:B<n
 hC:C<n
 ab:A≠B
 ac:A≠C
 bc:B≠C
 sA:Slt A oA oA' uA uA'
 sB:Slt B oB oB' mB mB'
 sC:Slt C mC mC' uC uC'
 e1:α oA=oB
 e2:α uA=uC
 e3:α mB=mC
 f1:β oA'=oB'
 f2:β uA'=uC'
 f3:β mB'=mC'
 t1:T oA'=oB
 t2:T oB'=oA
 t3:T uA'=uC
 t4:T uC'=uA
 t5:T mB'=mC
 t6:T mC'=mB
 tt:∀ h,h/4≠A->h/4≠B->h/4≠C->T h=h
 q:∀ h,h<4*n->(h/4≠A/\h/4≠B/\h/4≠C\/h=oA'\/h=oB'\/h=uA'\/h=uC'\/h=mB'\/h=mC')->β (T h)=T (α h)
section
variable {n m:Nat} {α β T:Nat->Nat} {A B C oA oA' uA uA' oB oB' mB mB' mC mC' uC uC':Nat}
theorem Slt.all {c o o' u u':Nat} (s:Slt c o o' u u'):∀ j,j/4=c->j=o\/j=o'\/j=u\/j=u':=by
 obtain ⟨⟨rfl,rfl⟩|⟨rfl,rfl⟩,⟨rfl,rfl⟩|⟨rfl,rfl⟩⟩:=s <;> exact fun j hj=>by omega
theorem Slt.ne2 {c o o' u u':Nat} (s:Slt c o o' u u'):o'≠u'/\o≠u'/\u≠u':=by
 obtain ⟨⟨rfl,rfl⟩|⟨rfl,rfl⟩,⟨rfl,rfl⟩|⟨rfl,rfl⟩⟩:=s <;> refine ⟨by omega,by omega,by omega⟩
theorem Sld.ni (s:Sld n α β T A B C oA oA' uA uA' oB oB' mB mB' mC mC' uC uC') {h:Nat} (w:h/4≠A/\h/4≠B/\h/4≠C\/h=oA'\/h=oB'\/h=uA'\/h=uC'\/h=mB'\/h=mC'):h≠oA/\h≠oB/\h≠uA/\h≠uC/\h≠mB/\h≠mC:=by
 obtain ⟨A1,A2,A3,A4⟩:=s.sA.at_
 obtain ⟨B1,B2,B3,B4⟩:=s.sB.at_
 obtain ⟨C1,C2,C3,C4⟩:=s.sC.at_
 have ab:∀ {x y},x/4=A->y/4=B->x≠y:=fun hx hy e=>s.ab (by rw [<- hx,<- hy,e])
 have ac:∀ {x y},x/4=A->y/4=C->x≠y:=fun hx hy e=>s.ac (by rw [<- hx,<- hy,e])
 have bc:∀ {x y},x/4=B->y/4=C->x≠y:=fun hx hy e=>s.bc (by rw [<- hx,<- hy,e])
 obtain ⟨a1,a2,a3,a4,a5⟩:=s.sA.ne
 obtain ⟨b1,b2,b3,b4,b5⟩:=s.sB.ne
 obtain ⟨c1,c2,c3,c4,c5⟩:=s.sC.ne
 rcases w with ⟨w1,w2,w3⟩|rfl|rfl|rfl|rfl|rfl|rfl
 · exact ⟨fun e=>w1 (by rw [e];exact A1),fun e=>w2 (by rw [e];exact B1),fun e=>w1 (by rw [e];exact A3),fun e=>w3 (by rw [e];exact C3),fun e=>w2 (by rw [e];exact B3),fun e=>w3 (by rw [e];exact C1)⟩
 · exact ⟨a1,ab A2 B1,a2,ac A2 C3,ab A2 B3,ac A2 C1⟩
 · exact ⟨(ab A1 B2).symm,b1,(ab A3 B2).symm,bc B2 C3,b2,bc B2 C1⟩
 · exact ⟨a3,ab A4 B1,a4,ac A4 C3,ab A4 B3,ac A4 C1⟩
 · exact ⟨(ac A1 C4).symm,(bc B1 C4).symm,(ac A3 C4).symm,c4,(bc B3 C4).symm,c3⟩
 · exact ⟨(ab A1 B4).symm,b3,(ab A3 B4).symm,bc B4 C3,b4,bc B4 C1⟩
 · exact ⟨(ac A1 C2).symm,(bc B1 C2).symm,(ac A3 C2).symm,c2,(bc B3 C2).symm,c1⟩
theorem Sld.inα (s:Sld n α β T A B C oA oA' uA uA' oB oB' mB mB' mC mC' uC uC') (k:Inv2 (4*n) α) {g:Nat} (hg:g<4*n) (w:g/4≠A/\g/4≠B/\g/4≠C\/g=oA'\/g=oB'\/g=uA'\/g=uC'\/g=mB'\/g=mC'):α g/4≠A/\α g/4≠B/\α g/4≠C\/α g=oA'\/α g=oB'\/α g=uA'\/α g=uC'\/α g=mB'\/α g=mC':=by
 obtain ⟨A1,A2,A3,A4⟩:=s.sA.at_
 obtain ⟨B1,B2,B3,B4⟩:=s.sB.at_
 have lA:∀ {x},x/4=A->x<4*n:=fun h=>by have:=s.hA;omega
 have lB:∀ {x},x/4=B->x<4*n:=fun h=>by have:=s.hB;omega
 obtain ⟨w1,w2,w3,w4,w5,w6⟩:=s.ni w
 have r1:α oB=oA:=by rw [<- s.e1,k.inv _ (lA A1)]
 have r2:α uC=uA:=by rw [<- s.e2,k.inv _ (lA A3)]
 have r3:α mC=mB:=by rw [<- s.e3,k.inv _ (lB B3)]
 have nin:∀ u v,α u=v->α g=u->g=v:=fun u v e e2=>by rw [<- k.inv g hg,e2,e]
 by_cases wA:α g/4=A
 · rcases s.sA.all _ wA with e|e|e|e
   · exact absurd (nin _ _ s.e1 e) w2
   · exact .inr (.inl e)
   · exact absurd (nin _ _ s.e2 e) w4
   · exact .inr (.inr (.inr (.inl e)))
 by_cases wB:α g/4=B
 · rcases s.sB.all _ wB with e|e|e|e
   · exact absurd (nin _ _ r1 e) w1
   · exact .inr (.inr (.inl e))
   · exact absurd (nin _ _ s.e3 e) w6
   · exact .inr (.inr (.inr (.inr (.inr (.inl e)))))
 by_cases wC:α g/4=C
 · rcases s.sC.all _ wC with e|e|e|e
   · exact absurd (nin _ _ r3 e) w5
   · exact .inr (.inr (.inr (.inr (.inr (.inr e)))))
   · exact absurd (nin _ _ r2 e) w3
   · exact .inr (.inr (.inr (.inr (.inl e))))
 exact .inl ⟨wA,wB,wC⟩
def slF (m:Nat) (x:Nat->Nat) (oA uA uA' mB' mC mC' uC uC' h:Nat):Nat :=
 if h=mC\/h=mC' then x mB' else if h=uA then x uC' else if h=uC then x uA' else if h=uA'\/h=uC' then (2*x oA+(m-x uC'))%m else x h
theorem Sld.fewer (s:Sld n α β T A B C oA oA' uA uA' oB oB' mB mB' mC mC' uC uC') (k:Inv2 (4*n) α) (k2:Inv2 (4*n) β) (hm:0<m):Fewer m (4*n) (4*n) (Fox n α m) (Fox n β m):=by
 obtain ⟨A1,A2,A3,A4⟩:=s.sA.at_
 obtain ⟨B1,B2,B3,B4⟩:=s.sB.at_
 obtain ⟨C1,C2,C3,C4⟩:=s.sC.at_
 have ab:∀ {x y},x/4=A->y/4=B->x≠y:=fun hx hy e=>s.ab (by rw [<- hx,<- hy,e])
 have ac:∀ {x y},x/4=A->y/4=C->x≠y:=fun hx hy e=>s.ac (by rw [<- hx,<- hy,e])
 have bc:∀ {x y},x/4=B->y/4=C->x≠y:=fun hx hy e=>s.bc (by rw [<- hx,<- hy,e])
 have lA:∀ {x},x/4=A->x<4*n:=fun h=>by have:=s.hA;omega
 have lB:∀ {x},x/4=B->x<4*n:=fun h=>by have:=s.hB;omega
 have lC:∀ {x},x/4=C->x<4*n:=fun h=>by have:=s.hC;omega
 obtain ⟨a1,a2,a3,a4,a5⟩:=s.sA.ne
 obtain ⟨c1,c2,c3,c4,c5⟩:=s.sC.ne
 obtain ⟨a6,a7,a8⟩:=s.sA.ne2
 obtain ⟨c6,c7,c8⟩:=s.sC.ne2
 have F:∀ x:Nat->Nat,∃ y:Nat->Nat,(∀ h,y h=slF m x oA uA uA' mB' mC mC' uC uC' h)/\y mC=x mB'/\y mC'=x mB'/\y uA=x uC'/\y uC=x uA'/\y uA'=(2*x oA+(m-x uC'))%m/\y uC'=(2*x oA+(m-x uC'))%m/\y oA=x oA/\y oA'=x oA'/\(∀ h,h/4≠A->h/4≠C->y h=x h):=by
  intro x
  refine ⟨_,fun h=>rfl,?_,?_,?_,?_,?_,?_,?_,?_,fun h h1 h2=>?_⟩ <;> unfold slF
  · rw [if_pos (.inl rfl)]
  · rw [if_pos (.inr rfl)]
  · rw [if_neg (fun w=>w.elim (ac A3 C1) (ac A3 C2)),if_pos rfl]
  · rw [if_neg (fun w=>w.elim c5.symm c2.symm),if_neg (ac A3 C3).symm,if_pos rfl]
  · rw [if_neg (fun w=>w.elim (ac A4 C1) (ac A4 C2)),if_neg a8.symm,if_neg (ac A4 C3),if_pos (.inl rfl)]
  · rw [if_neg (fun w=>w.elim c7.symm c6.symm),if_neg (ac A3 C4).symm,if_neg c8.symm,if_pos (.inr rfl)]
  · rw [if_neg (fun w=>w.elim (ac A1 C1) (ac A1 C2)),if_neg a5,if_neg (ac A1 C3),if_neg (fun w=>w.elim a7 (ac A1 C4))]
  · rw [if_neg (fun w=>w.elim (ac A2 C1) (ac A2 C2)),if_neg a2,if_neg (ac A2 C3),if_neg (fun w=>w.elim a6 (ac A2 C4))]
  · rw [if_neg (fun w=>by rcases w with e|e;exact h2 (by rw [e];exact C1);exact h2 (by rw [e];exact C2)),if_neg (fun e=>h1 (by rw [e];exact A3)),if_neg (fun e=>h2 (by rw [e];exact C3)),if_neg (fun w=>by rcases w with e|e;exact h1 (by rw [e];exact A4);exact h2 (by rw [e];exact C4))]
 have G:∀ x:Nat->Nat,Fox n α m x->x oB=x oA/\x uC=x uA/\x mC=x mB/\x oA'=x oA/\x oB'=x oA/\x mC'=x mB/\(m:Int) ∣ 2*(x oA:Int)-(x uA:Int)-(x uA':Int)/\(m:Int) ∣ 2*(x oA:Int)-(x mB:Int)-(x mB':Int)/\(m:Int) ∣ 2*(x mB:Int)-(x uA:Int)-(x uC':Int):=by
  rintro x ⟨p1,p2⟩
  have h1:x oB=x oA:=by rw [<- s.e1];exact p1 _ (lA A1)
  have h2:x uC=x uA:=by rw [<- s.e2];exact p1 _ (lA A3)
  have h3:x mC=x mB:=by rw [<- s.e3];exact p1 _ (lB B3)
  obtain ⟨qA,rA⟩:=s.sA.cr.1 (p2 A s.hA)
  obtain ⟨qB,rB⟩:=s.sB.cr.1 (p2 B s.hB)
  obtain ⟨qC,rC⟩:=s.sC.cr.1 (p2 C s.hC)
  exact ⟨h1,h2,h3,qA.symm,by rw [<- qB,h1],by rw [<- qC,h3],rA,by rw [h1] at rB;exact rB,by rw [h3,h2] at rC;exact rC⟩
 refine ⟨fun x=>slF m x oA uA uA' mB' mC mC' uC uC',fun x hx hp=>?_,fun x z hx hz hp hq e j hj=>?_⟩
 · obtain ⟨y,hy,y1,y2,y3,y4,y5,y6,y7,y8,y9⟩:=F x
   obtain ⟨g1,g2,g3,g4,g5,g6,g7,g8,g9⟩:=G x hp
   have hyf:slF m x oA uA uA' mB' mC mC' uC uC'=y:=funext fun h=>(hy h).symm
   simp only [hyf]
   obtain ⟨p1,p2⟩:=hp
   have offB:∀ {h},h/4=B->y h=x h:=fun hB=>y9 _ (fun e=>s.ab (by rw [<- e,hB])) (fun e=>s.bc (by rw [<- hB,e]))
   have yT:∀ h,(h/4≠A/\h/4≠B/\h/4≠C\/h=oA'\/h=oB'\/h=uA'\/h=uC'\/h=mB'\/h=mC')->y (T h)=x h:=by
    intro h w
    rcases w with ⟨w1,w2,w3⟩|rfl|rfl|rfl|rfl|rfl|rfl
    · rw [s.tt h w1 w2 w3,y9 h w1 w3]
    · rw [s.t1,offB B1,g1,g4]
    · rw [s.t2,y7,g5]
    · rw [s.t3,y4]
    · rw [s.t4,y3]
    · rw [s.t5,y1]
    · rw [s.t6,offB B3,g6]
   refine ⟨Fox.mk' (fun h hh=>?_) (fun d hd=>?_),fun j hj=>?_⟩
   · -- the edges
     have out:∀ g,g<4*n->(g/4≠A/\g/4≠B/\g/4≠C\/g=oA'\/g=oB'\/g=uA'\/g=uC'\/g=mB'\/g=mC')->y (β (T g))=y (T g):=by
      intro g hg w
      have hα:=s.inα k hg w
      rw [s.q g hg w,yT _ hα,yT g w,p1 g hg]
     by_cases wA:h/4=A
     · rcases s.sA.all _ wA with rfl|rfl|rfl|rfl
       · have:=out oB' (lB B2) (.inr (.inr (.inl rfl)))
         rwa [s.t2] at this
       · rw [s.f1,offB B2,y8,g5,g4]
       · have:=out uC' (lC C4) (.inr (.inr (.inr (.inr (.inl rfl)))))
         rwa [s.t4] at this
       · rw [s.f2,y5,y6]
     by_cases wB:h/4=B
     · rcases s.sB.all _ wB with rfl|rfl|rfl|rfl
       · have:=out oA' (lA A2) (.inr (.inl rfl))
         rwa [s.t1] at this
       · rw [<- s.f1,k2.inv _ (lA A2),s.f1,y8,offB B2,g4,g5]
       · have:=out mC' (lC C2) (.inr (.inr (.inr (.inr (.inr (.inr rfl))))))
         rwa [s.t6] at this
       · rw [s.f3,y2,offB B4]
     by_cases wC:h/4=C
     · rcases s.sC.all _ wC with rfl|rfl|rfl|rfl
       · have:=out mB' (lB B4) (.inr (.inr (.inr (.inr (.inr (.inl rfl))))))
         rwa [s.t5] at this
       · rw [<- s.f3,k2.inv _ (lB B4),s.f3,y2,offB B4]
       · have:=out uA' (lA A4) (.inr (.inr (.inr (.inl rfl))))
         rwa [s.t3] at this
       · rw [<- s.f2,k2.inv _ (lA A4),s.f2,y5,y6]
     have:=out h hh (.inl ⟨wA,wB,wC⟩)
     rwa [s.tt h wA wB wC] at this
   · by_cases wA:d=A
     · subst wA
       refine s.sA.cr.2 ⟨by rw [y7,y8,g4],?_⟩
       rw [y7,y3,y5,show ∀ a b c:Int,a-b-c=a-c-b from fun a b c=>by omega]
       exact dvd_under (hx _ (lC C4))
     · by_cases wC:d=C
       · subst wC
         refine s.sC.cr.2 ⟨by rw [y1,y2],?_⟩
         rw [y1,y4,y6]
         have hw:=dvd_under (m:=m) (o:=x oA) (hx uC' (lC C4))
         have h1:=Int.dvd_add hw g7
         have h2:=Int.dvd_sub h1 (Int.dvd_add g8 g8)
         have h3:=Int.dvd_sub h2 g9
         refine (show ∀ a b:Int,a=b->(m:Int) ∣ a->(m:Int) ∣ b from fun a b e h=>e ▸ h) _ _ ?_ h3
         omega
       · exact CrP.of (x:=x) (p2 d hd) fun j hj=>y9 j (by rw [hj];exact wA) (by rw [hj];exact wC)
   · rw [hy j]
     unfold slF
     split
     · exact hx _ (lB B4)
     · split
       · exact hx _ (lC C4)
       · split
         · exact hx _ (lA A4)
         · split
           · exact Nat.mod_lt _ hm
           · exact hx j hj
 · obtain ⟨y,hy,y1,y2,y3,y4,y5,y6,y7,y8,y9⟩:=F x
   obtain ⟨v,hv,v1,v2,v3,v4,v5,v6,v7,v8,v9⟩:=F z
   have ee:∀ j,j<4*n->y j=v j:=fun j hj=>by rw [hy,hv];exact e j hj
   obtain ⟨g1,g2,g3,g4,g5,g6,g7,g8,g9⟩:=G x hp
   obtain ⟨r1,r2,r3,r4,r5,r6,r7,r8,r9⟩:=G z hq
   have offB:∀ {h},h/4=B->x h=z h:=fun {h} hB=>by
    have h1:=ee h (lB hB)
    rwa [y9 _ (fun e=>s.ab (by rw [<- e,hB])) (fun e=>s.bc (by rw [<- hB,e])),v9 _ (fun e=>s.ab (by rw [<- e,hB])) (fun e=>s.bc (by rw [<- hB,e]))] at h1
   have i1:x oA=z oA:=by rw [<- y7,<- v7];exact ee _ (lA A1)
   have i2:x uA'=z uA':=by rw [<- y4,<- v4];exact ee _ (lC C3)
   have i3:x uC'=z uC':=by rw [<- y3,<- v3];exact ee _ (lA A3)
   have i4:x mB=z mB:=offB B3
   have i5:x uA=z uA:=eq_of_dvd (hx _ (lA A3)) (hz _ (lA A3)) (by
    have:=Int.dvd_sub r7 g7
    rw [i1,i2] at this
    rwa [show 2*(z oA:Int)-(z uA:Int)-(z uA':Int)-(2*(z oA:Int)-(x uA:Int)-(z uA':Int))=(x uA:Int)-(z uA:Int) by omega] at this)
   by_cases wA:j/4=A
   · rcases s.sA.all j wA with rfl|rfl|rfl|rfl
     · exact i1
     · rw [g4,r4];exact i1
     · exact i5
     · exact i2
   · by_cases wC:j/4=C
     · rcases s.sC.all j wC with rfl|rfl|rfl|rfl
       · rw [g3,r3];exact i4
       · rw [g6,r6];exact i4
       · rw [g2,r2];exact i5
       · exact i3
     · have:=ee j hj
       rwa [y9 j wA wC,v9 j wA wC] at this
def slT (oA oA' uA uA' oB oB' mB mB' mC mC' uC uC' h:Nat):Nat :=
 if h=oA then oB' else if h=oB then oA' else if h=uA then uC' else if h=uC then uA' else if h=mB then mC' else if h=mC then mB' else h
theorem Slt.flip {c o o' u u':Nat} (s:Slt c o o' u u'):Slt c o' o u' u:=by
 obtain ⟨h1,h2⟩:=s
 exact ⟨h1.elim (fun h=>.inr ⟨h.2,h.1⟩) (fun h=>.inl ⟨h.2,h.1⟩),h2.elim (fun h=>.inr ⟨h.2,h.1⟩) (fun h=>.inl ⟨h.2,h.1⟩)⟩
theorem Sld.back (s:Sld n α β T A B C oA oA' uA uA' oB oB' mB mB' mC mC' uC uC') (k:Inv2 (4*n) α):Sld n β α (slT oA oA' uA uA' oB oB' mB mB' mC mC' uC uC') A B C oA' oA uA' uA oB' oB mB' mB mC' mC uC' uC:=by
 obtain ⟨A1,A2,A3,A4⟩:=s.sA.at_
 obtain ⟨B1,B2,B3,B4⟩:=s.sB.at_
 obtain ⟨C1,C2,C3,C4⟩:=s.sC.at_
 have ab:∀ {x y},x/4=A->y/4=B->x≠y:=fun hx hy e=>s.ab (by rw [<- hx,<- hy,e])
 have ac:∀ {x y},x/4=A->y/4=C->x≠y:=fun hx hy e=>s.ac (by rw [<- hx,<- hy,e])
 have bc:∀ {x y},x/4=B->y/4=C->x≠y:=fun hx hy e=>s.bc (by rw [<- hx,<- hy,e])
 have lA:∀ {x},x/4=A->x<4*n:=fun h=>by have:=s.hA;omega
 have lB:∀ {x},x/4=B->x<4*n:=fun h=>by have:=s.hB;omega
 have lC:∀ {x},x/4=C->x<4*n:=fun h=>by have:=s.hC;omega
 obtain ⟨a1,a2,a3,a4,a5⟩:=s.sA.ne
 obtain ⟨b1,b2,b3,b4,b5⟩:=s.sB.ne
 obtain ⟨c1,c2,c3,c4,c5⟩:=s.sC.ne
 have t1:slT oA oA' uA uA' oB oB' mB mB' mC mC' uC uC' oA=oB':=by unfold slT;rw [if_pos rfl]
 have t2:slT oA oA' uA uA' oB oB' mB mB' mC mC' uC uC' oB=oA':=by unfold slT;rw [if_neg (ab A1 B1).symm,if_pos rfl]
 have t3:slT oA oA' uA uA' oB oB' mB mB' mC mC' uC uC' uA=uC':=by unfold slT;rw [if_neg a5.symm,if_neg (ab A3 B1),if_pos rfl]
 have t4:slT oA oA' uA uA' oB oB' mB mB' mC mC' uC uC' uC=uA':=by unfold slT;rw [if_neg (ac A1 C3).symm,if_neg (bc B1 C3).symm,if_neg (ac A3 C3).symm,if_pos rfl]
 have t5:slT oA oA' uA uA' oB oB' mB mB' mC mC' uC uC' mB=mC':=by unfold slT;rw [if_neg (ab A1 B3).symm,if_neg b5.symm,if_neg (ab A3 B3).symm,if_neg (bc B3 C3),if_pos rfl]
 have t6:slT oA oA' uA uA' oB oB' mB mB' mC mC' uC uC' mC=mB':=by unfold slT;rw [if_neg (ac A1 C1).symm,if_neg (bc B1 C1).symm,if_neg (ac A3 C1).symm,if_neg c5,if_neg (bc B3 C1).symm,if_pos rfl]
 have tt:∀ h,h≠oA->h≠oB->h≠uA->h≠uC->h≠mB->h≠mC->slT oA oA' uA uA' oB oB' mB mB' mC mC' uC uC' h=h:=fun h h1 h2 h3 h4 h5 h6=>by unfold slT;rw [if_neg h1,if_neg h2,if_neg h3,if_neg h4,if_neg h5,if_neg h6]
 refine ⟨s.hA,s.hB,s.hC,s.ab,s.ac,s.bc,s.sA.flip,s.sB.flip,s.sC.flip,s.f1,s.f2,s.f3,s.e1,s.e2,s.e3,t1,t2,t3,t4,t5,t6,fun h h1 h2 h3=>?_,fun h hh w=>?_⟩
 · obtain ⟨w1,w2,w3,w4,w5,w6⟩:=s.ni (.inl ⟨h1,h2,h3⟩)
   exact tt h w1 w2 w3 w4 w5 w6
 · have r1:α oB=oA:=by rw [<- s.e1,k.inv _ (lA A1)]
   have r2:α uC=uA:=by rw [<- s.e2,k.inv _ (lA A3)]
   have r3:α mC=mB:=by rw [<- s.e3,k.inv _ (lB B3)]
   have back:∀ g,(g/4≠A/\g/4≠B/\g/4≠C\/g=oA'\/g=oB'\/g=uA'\/g=uC'\/g=mB'\/g=mC')->slT oA oA' uA uA' oB oB' mB mB' mC mC' uC uC' (T g)=g:=by
    intro g w
    rcases w with ⟨w1,w2,w3⟩|rfl|rfl|rfl|rfl|rfl|rfl
    · obtain ⟨v1,v2,v3,v4,v5,v6⟩:=s.ni (.inl ⟨w1,w2,w3⟩)
      rw [s.tt g w1 w2 w3,tt g v1 v2 v3 v4 v5 v6]
    · rw [s.t1,t2]
    · rw [s.t2,t1]
    · rw [s.t3,t4]
    · rw [s.t4,t3]
    · rw [s.t5,t6]
    · rw [s.t6,t5]
   have fin:∀ g,g<4*n->(g/4≠A/\g/4≠B/\g/4≠C\/g=oA'\/g=oB'\/g=uA'\/g=uC'\/g=mB'\/g=mC')->α (slT oA oA' uA uA' oB oB' mB mB' mC mC' uC uC' (T g))=slT oA oA' uA uA' oB oB' mB mB' mC mC' uC uC' (β (T g)):=by
    intro g hg w
    rw [s.q g hg w,back g w,back (α g) (s.inα k hg w)]
   rcases w with ⟨w1,w2,w3⟩|rfl|rfl|rfl|rfl|rfl|rfl
   · have:=fin h hh (.inl ⟨w1,w2,w3⟩)
     rwa [s.tt h w1 w2 w3] at this
   · have:=fin oB' (lB B2) (.inr (.inr (.inl rfl)))
     rwa [s.t2] at this
   · have:=fin oA' (lA A2) (.inr (.inl rfl))
     rwa [s.t1] at this
   · have:=fin uC' (lC C4) (.inr (.inr (.inr (.inr (.inl rfl)))))
     rwa [s.t4] at this
   · have:=fin uA' (lA A4) (.inr (.inr (.inr (.inl rfl))))
     rwa [s.t3] at this
   · have:=fin mC' (lC C2) (.inr (.inr (.inr (.inr (.inr (.inr rfl))))))
     rwa [s.t6] at this
   · have:=fin mB' (lB B4) (.inr (.inr (.inr (.inr (.inr (.inl rfl))))))
     rwa [s.t5] at this
theorem Sld.alike (s:Sld n α β T A B C oA oA' uA uA' oB oB' mB mB' mC mC' uC uC') (k:Inv2 (4*n) α) (k2:Inv2 (4*n) β) (hm:0<m):Alike m (4*n) (4*n) (Fox n α m) (Fox n β m) :=
 ⟨s.fewer k k2 hm,(s.back k).fewer k2 k hm⟩
end
def clsF (α:Nat->Nat) (a b:Nat):Nat->Nat:=if α a=b then α else jnF α (α a) (α b)
def lp (α:Nat->Nat) (a b:Nat):Nat:=if α a=b then 1 else 0
section
variable {n m C a b:Nat} {α:Nat->Nat} {dead cx:List Nat} {rest:List (Nat × Nat)}
theorem Mtc.close (k:Mtc n α dead) (ha:a<4*n) (hb:b<4*n) (had:a ∉ dead) (hbd:b ∉ dead) (hab:a≠b):Mtc n (clsF α a b) (a :: b :: dead):=by
 unfold clsF
 by_cases h:α a=b
 · rw [if_pos h];exact k.loop ha had h
 · rw [if_neg h];exact k.join ha hb had hbd hab h
theorem close_any (k:Mtc n α dead) (ha:a<4*n) (hb:b<4*n) (had:a ∉ dead) (hbd:b ∉ dead) (hab:a≠b) (hax:a/4∈cx) (hbx:b/4∈cx) (hdn:∀ h∈dead,h<4*n) (hr4:∀ p∈rest,p.1<4*n/\p.2<4*n) (hr:∀ p∈rest,p.1≠a/\p.1≠b/\p.2≠a/\p.2≠b) (hC:4*n<=C) (hm:0<m) :
 Alike m C (C+lp α a b) (Sy n α dead cx ((a,b) :: rest) m) (Sy n (clsF α a b) (a :: b :: dead) cx rest m):=by
 unfold clsF lp
 by_cases h:α a=b
 · rw [if_pos h,if_pos h];exact close_loop k ha hb had hbd hab hax hbx hdn hr4 hr h hC hm
 · rw [if_neg h,if_neg h];exact close_edge k ha hb had hbd hab hax hbx hr h hC hm
end
theorem Mtc.of {n:Nat} {β:Nat->Nat} (k:Inv2 (4*n) β):Mtc n β []:=fun h hh _=>⟨k.lt h hh,by simp,k.inv h hh,k.ne h hh⟩
theorem Mtc.die {n a b:Nat} {α:Nat->Nat} {dead:List Nat} (k:Mtc n α dead) (ha:a<4*n) (had:a ∉ dead) (he:α a=b):Mtc n α (a :: b :: dead):=k.loop ha had he
def sk (c j:Nat):Nat:=if j<4*c then j else j+4
def us (c h:Nat):Nat:=if h<4*c then h else h-4
theorem drop1 {n m k c:Nat} {α α':Nat->Nat} {dead:List Nat} (hc:c<n+1) (hd:∀ h,h∈dead ↔ h/4=c) (hα:∀ j,j<4*n->α j<4*n/\α' (sk c j)=sk c (α j)) (hm:0<m) :
 Alike m (4*(n+1)+k) (4*n+k) (Sy (n+1) α' dead [c] [] m) (Fox n α m):=by
 refine drop_alike (σ:=sk c) (τ:=us c) (fun j hj=>?_) (fun h hh hx=>?_) (fun h hx=>?_) hα (fun d hd'=>?_) (fun d hd' hx=>?_) hm
 · rw [hd]
   unfold sk us
   by_cases w:j<4*c
   · rw [if_pos w,if_pos w];omega
   · rw [if_neg w,if_neg (by omega)];omega
 · rw [hd] at hx
   unfold sk us
   by_cases w:h<4*c
   · rw [if_pos w,if_pos w];omega
   · rw [if_neg w,if_neg (by omega)];omega
 · have:=(hd h).1 hx;omega
 · by_cases w:d<c
   · refine ⟨d,by omega,by simp;omega,fun s hs=>?_⟩
     unfold sk;rw [if_pos (by omega)]
   · refine ⟨d+1,by omega,by simp;omega,fun s hs=>?_⟩
     unfold sk;rw [if_neg (by omega)];omega
 · have hx':d≠c:=by simpa using hx
   by_cases w:d<c
   · refine ⟨d,by omega,fun s hs=>?_⟩
     unfold sk;rw [if_pos (by omega)]
   · refine ⟨d-1,by omega,fun s hs=>?_⟩
     unfold sk;rw [if_neg (by omega)];omega
theorem r1_count {n m c o o' u u' a b:Nat} {α β:Nat->Nat} (k:Inv2 (4*(n+1)) β) (hαl:∀ h,h<4*n->α h<4*n) (hc:c<n+1) (s:Slt c o o' u u') (he:β o=u) (hab:(a=o'/\b=u')\/(a=u'/\b=o'))
 (hα:∀ j,j<4*n->clsF β a b (sk c j)=sk c (α j)) (hm:0<m):nFox (n+1) β m=nFox n α m*m ^ lp β a b:=by
 obtain ⟨f1,f2,f3,f4⟩:=s.at_
 obtain ⟨g1,g2,g3,g4,g5⟩:=s.ne
 obtain ⟨g6,g7,g8⟩:=s.ne2
 have ho:o<4*(n+1):=by omega
 have ho':o'<4*(n+1):=by omega
 have hu':u'<4*(n+1):=by omega
 have hall:=s.all
 have k1:Mtc (n+1) β [o,u]:=(Mtc.of k).die ho (by simp) he
 have h1:=kink_alike k hc s he hm
 have key:∀ x y:Nat,(x=o'/\y=u')\/(x=u'/\y=o')->Alike m (4*(n+1)) (4*(n+1)+lp β x y) (Fox (n+1) β m) (Sy (n+1) (clsF β x y) [x,y,o,u] [c] [] m):=by
  rintro x y (⟨rfl,rfl⟩|⟨rfl,rfl⟩)
  · exact h1.trans (close_any k1 ho' hu' (by simp;exact ⟨g1,g2⟩) (by simp;exact ⟨g3,g4⟩) g6 (by simp;exact f2) (by simp;exact f4) (fun h hh=>by simp at hh;omega) (fun p hp=>absurd hp (by simp)) (fun p hp=>absurd hp (by simp)) (Nat.le_refl _) hm)
  · exact h1.trans ((Alike.iff fun x=>Sy.arc_symm).trans (close_any k1 hu' ho' (by simp;exact ⟨g3,g4⟩) (by simp;exact ⟨g1,g2⟩) g6.symm (by simp;exact f4) (by simp;exact f2) (fun h hh=>by simp at hh;omega) (fun p hp=>absurd hp (by simp)) (fun p hp=>absurd hp (by simp)) (Nat.le_refl _) hm))
 have h2:=(key a b hab).trans (drop1 (k:=lp β a b) (α:=α) hc (fun h=>?_) (fun j hj=>⟨hαl j hj,hα j hj⟩) hm)
 · have h3:=Alike.count (k1:=0) hm h2 k.lt hαl
   rw [Nat.pow_zero,Nat.mul_one] at h3
   exact h3
 · have hx:h∈[a,b,o,u] ↔ h=o\/h=o'\/h=u\/h=u':=by
    simp only [List.mem_cons,List.not_mem_nil,or_false]
    rcases hab with ⟨rfl,rfl⟩|⟨rfl,rfl⟩
    · constructor
      · rintro (e|e|e|e)
        · exact .inr (.inl e)
        · exact .inr (.inr (.inr e))
        · exact .inl e
        · exact .inr (.inr (.inl e))
      · rintro (e|e|e|e)
        · exact .inr (.inr (.inl e))
        · exact .inl e
        · exact .inr (.inr (.inr e))
        · exact .inr (.inl e)
    · constructor
      · rintro (e|e|e|e)
        · exact .inr (.inr (.inr e))
        · exact .inr (.inl e)
        · exact .inl e
        · exact .inr (.inr (.inl e))
      · rintro (e|e|e|e)
        · exact .inr (.inr (.inl e))
        · exact .inr (.inl e)
        · exact .inr (.inr (.inr e))
        · exact .inl e
   rw [hx]
   constructor
   · rintro (rfl|rfl|rfl|rfl)
     · exact f1
     · exact f2
     · exact f3
     · exact f4
   · exact fun e=>by
      rcases hall h e with e|e|e|e
      · exact .inl e
      · exact .inr (.inl e)
      · exact .inr (.inr (.inl e))
      · exact .inr (.inr (.inr e))
def sk2 (a b j:Nat):Nat:=if j<4*a then j else if j+4<4*b then j+4 else j+8
def us2 (a b h:Nat):Nat:=if h<4*a then h else if h<4*b then h-4 else h-8
theorem drop2 {n m k a b:Nat} {α α':Nat->Nat} {dead cx:List Nat} (hab:a<b) (hb:b<n+2) (hd:∀ h,h∈dead ↔ h/4=a\/h/4=b) (hcx:∀ c,c∈cx ↔ c=a\/c=b) (hα:∀ j,j<4*n->α j<4*n/\α' (sk2 a b j)=sk2 a b (α j)) (hm:0<m) :
 Alike m (4*(n+2)+k) (4*n+k) (Sy (n+2) α' dead cx [] m) (Fox n α m):=by
 refine drop_alike (σ:=sk2 a b) (τ:=us2 a b) (fun j hj=>?_) (fun h hh hx=>?_) (fun h hx=>?_) hα (fun d hd'=>?_) (fun d hd' hx=>?_) hm
 · rw [hd]
   unfold sk2 us2
   by_cases w:j<4*a
   · rw [if_pos w,if_pos w];omega
   · rw [if_neg w]
     by_cases v:j+4<4*b
     · rw [if_pos v,if_neg (by omega),if_pos (by omega)];omega
     · rw [if_neg v,if_neg (by omega),if_neg (by omega)];omega
 · rw [hd] at hx
   unfold sk2 us2
   by_cases w:h<4*a
   · rw [if_pos w,if_pos w];omega
   · rw [if_neg w]
     by_cases v:h<4*b
     · rw [if_pos v,if_neg (by omega),if_pos (by omega)];omega
     · rw [if_neg v,if_neg (by omega),if_neg (by omega)];omega
 · have:=(hd h).1 hx;omega
 · by_cases w:d<a
   · refine ⟨d,by omega,by rw [hcx];omega,fun s hs=>?_⟩
     unfold sk2;rw [if_pos (by omega)]
   · by_cases v:d+1<b
     · refine ⟨d+1,by omega,by rw [hcx];omega,fun s hs=>?_⟩
       unfold sk2;rw [if_neg (by omega),if_pos (by omega)];omega
     · refine ⟨d+2,by omega,by rw [hcx];omega,fun s hs=>?_⟩
       unfold sk2;rw [if_neg (by omega),if_neg (by omega)];omega
 · rw [hcx] at hx
   by_cases w:d<a
   · refine ⟨d,by omega,fun s hs=>?_⟩
     unfold sk2;rw [if_pos (by omega)]
   · by_cases v:d<b
     · refine ⟨d-1,by omega,fun s hs=>?_⟩
       unfold sk2;rw [if_neg (by omega),if_pos (by omega)];omega
     · refine ⟨d-2,by omega,fun s hs=>?_⟩
       unfold sk2;rw [if_neg (by omega),if_neg (by omega)];omega
set_option maxHeartbeats 1000000 in
theorem r2_count {n m a b c1 c2 o1 o1' u1 u1' o2 o2' u2 u2' x x2 y y2:Nat} {α β:Nat->Nat} (k:Inv2 (4*(n+2)) β) (hαl:∀ h,h<4*n->α h<4*n) (hab:a<b) (hb:b<n+2) (hcc:(c1=a/\c2=b)\/(c1=b/\c2=a)) (s1:Slt c1 o1 o1' u1 u1') (s2:Slt c2 o2 o2' u2 u2') (h1:β o1=o2) (h2:β u1=u2)
 (hx:(x=o1'/\x2=o2'/\y=u1'/\y2=u2')\/(x=o2'/\x2=o1'/\y=u1'/\y2=u2')\/(x=u1'/\x2=u2'/\y=o1'/\y2=o2')\/(x=u2'/\x2=u1'/\y=o1'/\y2=o2'))
 (hα:∀ j,j<4*n->clsF (clsF β x x2) y y2 (sk2 a b j)=sk2 a b (α j)) (hm:0<m):nFox (n+2) β m=nFox n α m*m ^ (lp β x x2+lp (clsF β x x2) y y2):=by
 have eqv:∀ z:Nat,(z=a\/z=b) ↔ (z=c1\/z=c2):=fun z=>by
  rcases hcc with ⟨rfl,rfl⟩|⟨rfl,rfl⟩
  · exact Iff.rfl
  · exact Or.comm
 have hc1:c1<n+2:=by omega
 have hc2:c2<n+2:=by omega
 have hne:c1≠c2:=by omega
 have l1:∀ {z},z/4=c1->z<4*(n+2):=fun h=>by omega
 have l2:∀ {z},z/4=c2->z<4*(n+2):=fun h=>by omega
 obtain ⟨f1,f2,f3,f4⟩:=s1.at_
 obtain ⟨a1,a2,a3,a4⟩:=s2.at_
 obtain ⟨g1,g2,g3,g4,g5⟩:=s1.ne
 obtain ⟨g6,g7,g8⟩:=s1.ne2
 obtain ⟨b1,b2,b3,b4,b5⟩:=s2.ne
 obtain ⟨b6,b7,b8⟩:=s2.ne2
 have cc:∀ {x y},x/4=c1->y/4=c2->x≠y:=fun hx hy e=>hne (by rw [<- hx,<- hy,e])
 have ho1:o1<4*(n+2):=l1 f1
 have hu1:u1<4*(n+2):=l1 f3
 have all1:=s1.all
 have all2:=s2.all
 have no1:Non o1' o1 o2 u1 u2:=.of g1 (cc f2 a1) g2 (cc f2 a3)
 have nu1:Non u1' o1 o2 u1 u2:=.of g3 (cc f4 a1) g4 (cc f4 a3)
 have no2:Non o2' o1 o2 u1 u2:=.of (cc f1 a2).symm b1 (cc f3 a2).symm b2
 have nu2:Non u2' o1 o2 u1 u2:=.of (cc f1 a4).symm b3 (cc f3 a4).symm b4
 have nin:∀ {h},Non h o1 o2 u1 u2->h ∉ [o1,o2,u1,u2]:=fun {h} w v=>w (by simpa using v)
 have k1:Mtc (n+2) β [o1,o2,u1,u2]:=by
  have e1:=(Mtc.of k).die hu1 (by simp) h2
  exact e1.die ho1 (by simp;exact ⟨g5,cc f1 a3⟩) h1
 have hdn:∀ h∈[o1,o2,u1,u2],h<4*(n+2):=fun h hh=>by
  simp only [List.mem_cons,List.not_mem_nil,or_false] at hh
  rcases hh with rfl|rfl|rfl|rfl
  · exact l1 f1
  · exact l2 a1
  · exact l1 f3
  · exact l2 a3
 have h3:=lens_alike k hc1 hc2 hne s1 s2 h1 h2 hm
 have m1:∀ {z},z/4=c1->z/4∈[c1,c2]:=fun h=>by rw [h];simp
 have m2:∀ {z},z/4=c2->z/4∈[c1,c2]:=fun h=>by rw [h];simp
 have key:∀ {x x2 y y2:Nat},x<4*(n+2)->x2<4*(n+2)->y<4*(n+2)->y2<4*(n+2)->x ∉ [o1,o2,u1,u2]->x2 ∉ [o1,o2,u1,u2]->y ∉ [o1,o2,u1,u2]->y2 ∉ [o1,o2,u1,u2]->x≠x2->y≠y2->(y≠x/\y≠x2/\y2≠x/\y2≠x2)->x/4∈[c1,c2]->x2/4∈[c1,c2]->y/4∈[c1,c2]->y2/4∈[c1,c2] ->
  Alike m (4*(n+2)) (4*(n+2)+(lp β x x2+lp (clsF β x x2) y y2)) (Sy (n+2) β [o1,o2,u1,u2] [c1,c2] [(x,x2),(y,y2)] m) (Sy (n+2) (clsF (clsF β x x2) y y2) (y :: y2 :: x :: x2 :: [o1,o2,u1,u2]) [c1,c2] [] m):=by
  intro x x2 y y2 l1 l2 l3 l4 d1 d2 d3 d4 e1 e2 e3 q1 q2 q3 q4
  have t1:=close_any (m:=m) (cx:=[c1,c2]) (rest:=[(y,y2)]) k1 l1 l2 d1 d2 e1 q1 q2 hdn (fun p hp=>by rw [List.mem_singleton.1 hp];exact ⟨l3,l4⟩) (fun p hp=>by rw [List.mem_singleton.1 hp];exact e3) (Nat.le_refl _) hm
  have kk:=k1.close l1 l2 d1 d2 e1
  have t2:=close_any (m:=m) (cx:=[c1,c2]) (rest:=[]) (C:=4*(n+2)+lp β x x2) kk l3 l4 (by simp only [List.mem_cons] at d3 ⊢;exact fun w=>by rcases w with w|w|w;exact e3.1 w;exact e3.2.1 w;exact d3 w) (by simp only [List.mem_cons] at d4 ⊢;exact fun w=>by rcases w with w|w|w;exact e3.2.2.1 w;exact e3.2.2.2 w;exact d4 w) e2 q3 q4 (fun h hh=>by
   rcases List.mem_cons.1 hh with e|e
   · rw [e];exact l1
   · rcases List.mem_cons.1 e with e|e
     · rw [e];exact l2
     · exact hdn h e) (fun p hp=>absurd hp (by simp)) (fun p hp=>absurd hp (by simp)) (by omega) hm
  have t3:=t1.trans t2
  rwa [Nat.add_assoc] at t3
 have mem:∀ h,(h∈y :: y2 :: x :: x2 :: [o1,o2,u1,u2]) ↔ h/4=a\/h/4=b:=by
  intro h
  rw [eqv]
  simp only [List.mem_cons,List.not_mem_nil,or_false]
  constructor
  · intro w
    have w2:h=o1\/h=o2\/h=u1\/h=u2\/h=o1'\/h=o2'\/h=u1'\/h=u2':=by
     clear key k1 h3 nin no1 nu1 no2 nu2 hdn cc l1 l2 hα eqv f1 f2 f3 f4 a1 a2 a3 a4 g1 g2 g3 g4 g5 g6 g7 g8 b1 b2 b3 b4 b5 b6 b7 b8 s1 s2 all1 all2 hcc hne hc1 hc2 hab hb
     rcases hx with ⟨rfl,rfl,rfl,rfl⟩|⟨rfl,rfl,rfl,rfl⟩|⟨rfl,rfl,rfl,rfl⟩|⟨rfl,rfl,rfl,rfl⟩ <;> (rcases w with e|e|e|e|e|e|e|e <;> simp [e])
    rcases w2 with rfl|rfl|rfl|rfl|rfl|rfl|rfl|rfl
    · exact .inl f1
    · exact .inr a1
    · exact .inl f3
    · exact .inr a3
    · exact .inl f2
    · exact .inr a2
    · exact .inl f4
    · exact .inr a4
  · intro w
    have w2:h=o1\/h=o2\/h=u1\/h=u2\/h=o1'\/h=o2'\/h=u1'\/h=u2':=by
     rcases w with w|w
     · rcases all1 h w with e|e|e|e <;> simp [e]
     · rcases all2 h w with e|e|e|e <;> simp [e]
    clear key k1 h3 nin no1 nu1 no2 nu2 hdn cc l1 l2 hα eqv f1 f2 f3 f4 a1 a2 a3 a4 g1 g2 g3 g4 g5 g6 g7 g8 b1 b2 b3 b4 b5 b6 b7 b8 s1 s2 all1 all2 hcc hne hc1 hc2 hab hb
    rcases hx with ⟨rfl,rfl,rfl,rfl⟩|⟨rfl,rfl,rfl,rfl⟩|⟨rfl,rfl,rfl,rfl⟩|⟨rfl,rfl,rfl,rfl⟩ <;> (rcases w2 with e|e|e|e|e|e|e|e <;> simp [e])
 have tot:Alike m (4*(n+2)) (4*(n+2)+(lp β x x2+lp (clsF β x x2) y y2)) (Fox (n+2) β m) (Sy (n+2) (clsF (clsF β x x2) y y2) (y :: y2 :: x :: x2 :: [o1,o2,u1,u2]) [c1,c2] [] m):=by
  have sw:∀ {z z2:Nat} {r:Nat × Nat} {v:Nat->Nat},Sy (n+2) β [o1,o2,u1,u2] [c1,c2] [(z,z2),r] m v ↔ Sy (n+2) β [o1,o2,u1,u2] [c1,c2] [r,(z,z2)] m v:=Sy.perm (fun _=>Iff.rfl) (fun _=>Iff.rfl) (fun p=>by simp only [List.mem_cons,List.not_mem_nil,or_false];exact Or.comm)
  rcases hx with ⟨rfl,rfl,rfl,rfl⟩|⟨rfl,rfl,rfl,rfl⟩|⟨rfl,rfl,rfl,rfl⟩|⟨rfl,rfl,rfl,rfl⟩
  · exact h3.trans (key (l1 f2) (l2 a2) (l1 f4) (l2 a4) (nin no1) (nin no2) (nin nu1) (nin nu2) (cc f2 a2) (cc f4 a4) ⟨g6.symm,cc f4 a2,(cc f2 a4).symm,b6.symm⟩ (m1 f2) (m2 a2) (m1 f4) (m2 a4))
  · exact (h3.trans (Alike.iff fun v=>Sy.arc_symm)).trans (key (l2 a2) (l1 f2) (l1 f4) (l2 a4) (nin no2) (nin no1) (nin nu1) (nin nu2) (cc f2 a2).symm (cc f4 a4) ⟨cc f4 a2,g6.symm,b6.symm,(cc f2 a4).symm⟩ (m2 a2) (m1 f2) (m1 f4) (m2 a4))
  · exact (h3.trans (Alike.iff fun v=>sw)).trans (key (l1 f4) (l2 a4) (l1 f2) (l2 a2) (nin nu1) (nin nu2) (nin no1) (nin no2) (cc f4 a4) (cc f2 a2) ⟨g6,cc f2 a4,(cc f4 a2).symm,b6⟩ (m1 f4) (m2 a4) (m1 f2) (m2 a2))
  · exact ((h3.trans (Alike.iff fun v=>sw)).trans (Alike.iff fun v=>Sy.arc_symm)).trans (key (l2 a4) (l1 f4) (l1 f2) (l2 a2) (nin nu2) (nin nu1) (nin no1) (nin no2) (cc f4 a4).symm (cc f2 a2) ⟨cc f2 a4,g6,b6,(cc f4 a2).symm⟩ (m2 a4) (m1 f4) (m1 f2) (m2 a2))
 have h4:=tot.trans (drop2 (k:=lp β x x2+lp (clsF β x x2) y y2) (α:=α) hab hb mem (fun c=>by simp only [List.mem_cons,List.not_mem_nil,or_false];exact (eqv c).symm) (fun j hj=>⟨hαl j hj,hα j hj⟩) hm)
 have h5:=Alike.count (k1:=0) hm h4 k.lt hαl
 rw [Nat.pow_zero,Nat.mul_one] at h5
 exact h5
theorem ok_inv2 {S M:List Int} {L:Int} (k:Ok S M L):Inv2 (4*S.length) (mt M) :=
 ⟨fun h hh=>by have:=k.lt h (by have:=k.m;omega);have:=k.m;omega,fun h hh=>k.inv h (by have:=k.m;omega),fun h hh=>k.ne h (by have:=k.m;omega)⟩
theorem mt_jnL {M:List Int} {x y:Nat} (hx:x<M.length) (hy:y<M.length):mt (jnL M x y)=jnF (mt M) x y:=by
 funext h
 unfold jnL jnF
 rw [mt_set,mt_set,List.length_set]
 simp only [hx,hy,and_true]
theorem mt_app {M Z:List Int} {h:Nat} (hh:h<M.length):mt (M ++ Z) h=mt M h:=by
 unfold mt
 rw [List.getElem?_append_left hh]
def MvQ (S M:List Int) (L:Int) (S' M':List Int) (L':Int):Prop:=valB S M L=true->valB S' M' L'=true->∀ m,0<m->nFox S.length (mt M) m*m ^ L.toNat=nFox S'.length (mt M') m*m ^ L'.toNat
theorem jn_1 (α:Nat->Nat) (u v:Nat):jnF α u v v=u:=by unfold jnF;rw [if_pos rfl]
theorem jn_2 (α:Nat->Nat) {u v:Nat} (h:u≠v):jnF α u v u=v:=by unfold jnF;rw [if_neg h,if_pos rfl]
theorem jn_3 (α:Nat->Nat) {u v h:Nat} (h1:h≠u) (h2:h≠v):jnF α u v h=α h:=by unfold jnF;rw [if_neg h2,if_neg h1]
theorem sk_low {n j:Nat} (h:j<4*n):sk n j=j:=by unfold sk;rw [if_pos h]
theorem sk2_low {n j:Nat} (h:j<4*n):sk2 n (n+1) j=j:=by unfold sk2;rw [if_pos h]
section
variable {S M:List Int} {L:Int}
theorem curl_edge {sg:Int} {X i0 o0 i1 o1:Nat} (hs:Slt S.length o0 i0 i1 o1\/Slt S.length i1 o1 o0 i0) (hX:X<M.length):MvQ S M L (S ++ [sg]) (jnL (jnL (jnL (M ++ List.replicate 4 (0:Int)) o0 i1) o1 (mt M X)) X i0) L:=by
 intro hv hv' m hm
 have k:=valB_ok hv
 have k':=ok_inv2 (valB_ok hv')
 have hml:=k.m
 have hY:=k.lt X hX
 have hne:=k.ne X hX
 have hinv:=k.inv X hX
 rw [List.length_append,List.length_singleton] at k' ⊢
 have hl:(M ++ List.replicate 4 (0:Int)).length=4*S.length+4:=by simp;omega
 have at4:i0/4=S.length/\o0/4=S.length/\i1/4=S.length/\o1/4=S.length/\i0≠o0/\i1≠o1/\i0≠i1/\i0≠o1/\o0≠i1/\o0≠o1:=by
  rcases hs with s|s
  · obtain ⟨f1,f2,f3,f4⟩:=s.at_
    obtain ⟨g1,g2,g3,g4,g5⟩:=s.ne
    obtain ⟨g6,g7,g8⟩:=s.ne2
    exact ⟨f2,f1,f3,f4,g1,g4.symm,g2,g6,g5,g7⟩
  · obtain ⟨f1,f2,f3,f4⟩:=s.at_
    obtain ⟨g1,g2,g3,g4,g5⟩:=s.ne
    obtain ⟨g6,g7,g8⟩:=s.ne2
    exact ⟨f4,f3,f1,f2,g4,g1.symm,g3,g6.symm,g5.symm,g2.symm⟩
 obtain ⟨f1,f2,f3,f4,g1,g2,g3,g4,g5,g6⟩:=at4
 generalize hYd:mt M X=Y at *
 have hb:mt (jnL (jnL (jnL (M ++ List.replicate 4 (0:Int)) o0 i1) o1 Y) X i0)=jnF (jnF (jnF (mt (M ++ List.replicate 4 (0:Int))) o0 i1) o1 Y) X i0:=by
  rw [mt_jnL (by rw [jnL_length,jnL_length,hl];omega) (by rw [jnL_length,jnL_length,hl];omega),mt_jnL (by rw [jnL_length,hl];omega) (by rw [jnL_length,hl];omega),mt_jnL (by rw [hl];omega) (by rw [hl];omega)]
 rw [hb] at k' ⊢
 have big:∀ {z w:Nat},z/4=S.length->w<M.length->z≠w:=fun h1 h2=>by omega
 have e1:jnF (jnF (jnF (mt (M ++ List.replicate 4 (0:Int))) o0 i1) o1 Y) X i0 o0=i1:=by
  rw [jn_3 _ (big f2 hX) g1.symm,jn_3 _ g6 (big f2 hY),jn_2 _ g5]
 have e2:jnF (jnF (jnF (mt (M ++ List.replicate 4 (0:Int))) o0 i1) o1 Y) X i0 i0=X:=jn_1 _ _ _
 have e3:jnF (jnF (jnF (mt (M ++ List.replicate 4 (0:Int))) o0 i1) o1 Y) X i0 o1=Y:=by
  rw [jn_3 _ (big f4 hX) g4.symm,jn_2 _ (big f4 hY)]
 have hcl:∀ j,j<4*S.length->clsF (jnF (jnF (jnF (mt (M ++ List.replicate 4 (0:Int))) o0 i1) o1 Y) X i0) i0 o1 (sk S.length j)=sk S.length (mt M j):=by
  intro j hj
  have hj':mt M j<4*S.length:=by have:=k.lt j (by omega);omega
  rw [sk_low hj,sk_low hj']
  unfold clsF
  rw [e2,if_neg (big f4 hX).symm,e3]
  have hXY:X≠Y:=fun e=>hne e.symm
  by_cases w1:j=X
  · rw [w1,jn_2 _ hXY,hYd]
  · by_cases w2:j=Y
    · rw [w2,jn_1,hinv]
    · rw [jn_3 _ w1 w2,jn_3 _ w1 (by omega),jn_3 _ (by omega) w2,jn_3 _ (by omega) (by omega),mt_app (by omega)]
 have hlp:lp (jnF (jnF (jnF (mt (M ++ List.replicate 4 (0:Int))) o0 i1) o1 Y) X i0) i0 o1=0:=by
  unfold lp
  rw [e2,if_neg (big f4 hX).symm]
 have hlt:∀ h,h<4*S.length->mt M h<4*S.length:=fun h hh=>by have:=k.lt h (by omega);omega
 have e1':jnF (jnF (jnF (mt (M ++ List.replicate 4 (0:Int))) o0 i1) o1 Y) X i0 i1=o0:=by have:=k'.inv o0 (by omega);rwa [e1] at this
 rcases hs with s|s
 · have:=r1_count (α:=mt M) k' hlt (by omega) s e1 (.inl ⟨rfl,rfl⟩) hcl hm
   rw [this,hlp,Nat.pow_zero,Nat.mul_one]
 · have:=r1_count (α:=mt M) k' hlt (by omega) s e1' (.inr ⟨rfl,rfl⟩) hcl hm
   rw [this,hlp,Nat.pow_zero,Nat.mul_one]
theorem pow_less {m a:Nat} {L:Int} (h:0<=L-1):a*m ^ L.toNat=a*m ^ 1*m ^ (L-1).toNat:=by
 rw [Nat.mul_assoc,<- Nat.pow_add,show 1+(L-1).toNat=L.toNat by omega]
theorem curl_loop {sg:Int} {i0 o0 i1 o1:Nat} (hs:Slt S.length o0 i0 i1 o1\/Slt S.length i1 o1 o0 i0):MvQ S M L (S ++ [sg]) (jnL (jnL (M ++ List.replicate 4 (0:Int)) o0 i1) o1 i0) (L-1):=by
 intro hv hv' m hm
 have k:=valB_ok hv
 have hL:=(valB_ok hv').l0
 have k':=ok_inv2 (valB_ok hv')
 have hml:=k.m
 rw [List.length_append,List.length_singleton] at k' ⊢
 have hl:(M ++ List.replicate 4 (0:Int)).length=4*S.length+4:=by simp;omega
 have at4:i0/4=S.length/\o0/4=S.length/\i1/4=S.length/\o1/4=S.length/\i0≠o0/\i1≠o1/\i0≠i1/\i0≠o1/\o0≠i1/\o0≠o1:=by
  rcases hs with s|s
  · obtain ⟨f1,f2,f3,f4⟩:=s.at_
    obtain ⟨g1,g2,g3,g4,g5⟩:=s.ne
    obtain ⟨g6,g7,g8⟩:=s.ne2
    exact ⟨f2,f1,f3,f4,g1,g4.symm,g2,g6,g5,g7⟩
  · obtain ⟨f1,f2,f3,f4⟩:=s.at_
    obtain ⟨g1,g2,g3,g4,g5⟩:=s.ne
    obtain ⟨g6,g7,g8⟩:=s.ne2
    exact ⟨f4,f3,f1,f2,g4,g1.symm,g3,g6.symm,g5.symm,g2.symm⟩
 obtain ⟨f1,f2,f3,f4,g1,g2,g3,g4,g5,g6⟩:=at4
 have hb:mt (jnL (jnL (M ++ List.replicate 4 (0:Int)) o0 i1) o1 i0)=jnF (jnF (mt (M ++ List.replicate 4 (0:Int))) o0 i1) o1 i0:=by
  rw [mt_jnL (by rw [jnL_length,hl];omega) (by rw [jnL_length,hl];omega),mt_jnL (by rw [hl];omega) (by rw [hl];omega)]
 rw [hb] at k' ⊢
 have e1:jnF (jnF (mt (M ++ List.replicate 4 (0:Int))) o0 i1) o1 i0 o0=i1:=by
  rw [jn_3 _ g6 g1.symm,jn_2 _ g5]
 have e2:jnF (jnF (mt (M ++ List.replicate 4 (0:Int))) o0 i1) o1 i0 i0=o1:=jn_1 _ _ _
 have hcl:∀ j,j<4*S.length->clsF (jnF (jnF (mt (M ++ List.replicate 4 (0:Int))) o0 i1) o1 i0) i0 o1 (sk S.length j)=sk S.length (mt M j):=by
  intro j hj
  have hj':mt M j<4*S.length:=by have:=k.lt j (by omega);omega
  rw [sk_low hj,sk_low hj']
  unfold clsF
  rw [e2,if_pos rfl,jn_3 _ (by omega) (by omega),jn_3 _ (by omega) (by omega),mt_app (by omega)]
 have hlp:lp (jnF (jnF (mt (M ++ List.replicate 4 (0:Int))) o0 i1) o1 i0) i0 o1=1:=by
  unfold lp
  rw [e2,if_pos rfl]
 have hlt:∀ h,h<4*S.length->mt M h<4*S.length:=fun h hh=>by have:=k.lt h (by omega);omega
 have e1':jnF (jnF (mt (M ++ List.replicate 4 (0:Int))) o0 i1) o1 i0 i1=o0:=by have:=k'.inv o0 (by omega);rwa [e1] at this
 rcases hs with s|s
 · have:=r1_count (α:=mt M) k' hlt (by omega) s e1 (.inl ⟨rfl,rfl⟩) hcl hm
   rw [this,hlp];exact pow_less hL
 · have:=r1_count (α:=mt M) k' hlt (by omega) s e1' (.inr ⟨rfl,rfl⟩) hcl hm
   rw [this,hlp];exact pow_less hL
end
end Go.Proofs.Ytfnmeigpfmeomaa
namespace Go.Proofs.Ytfnmeigpfmeomaa
open Go.RowKit
set_option linter.unusedVariables false
set_option maxHeartbeats 400000 in
theorem turn2_code (h:Nat) (w:World) (hh:h<1000) :
 Calls Try.prog 52 #[.int .i64 h,.int .i64 2] w fun e w'=>e=.returned (.int .i64 (opp h:Nat))/\w=w':=by
 have u0:¬ ((h:Int)<0):=by omega
 rcases (by omega:h%4=0\/h%4=1\/h%4=2\/h%4=3) with q|q|q|q
 · have q1:(h:Int)%4=0:=by omega
   go_enter Try.func52,Try.ntmps52
   go_wp2_with fail
   go_ret
   exact ⟨congrArg (fun z=>Ending.returned (Value.int .i64 z)) (by unfold opp;go_num),rfl⟩
 · have q1:(h:Int)%4=1:=by omega
   go_enter Try.func52,Try.ntmps52
   go_wp2_with fail
   go_ret
   exact ⟨congrArg (fun z=>Ending.returned (Value.int .i64 z)) (by unfold opp;go_num),rfl⟩
 · have q1:(h:Int)%4=2:=by omega
   go_enter Try.func52,Try.ntmps52
   go_wp2_with fail
   go_ret
   exact ⟨congrArg (fun z=>Ending.returned (Value.int .i64 z)) (by unfold opp;go_num),rfl⟩
 · have q1:(h:Int)%4=3:=by omega
   go_enter Try.func52,Try.ntmps52
   go_wp2_with fail
   go_ret
   exact ⟨congrArg (fun z=>Ending.returned (Value.int .i64 z)) (by unfold opp;go_num),rfl⟩
set_option maxHeartbeats 400000 in
theorem opposite_any (h:Nat) (w:World) (hh:h<1000) :
 Calls Try.prog 55 #[.int .i64 h] w fun e w'=>e=.returned (.int .i64 (opp h:Nat))/\w=w':=by
 have K:=turn2_code h w hh
 go_enter Try.func55,Try.ntmps55
 go_wp2_with (go_at_call 52;refine K.mono ?_;rintro e w5 ⟨rfl,rfl⟩)
 go_ret
 exact ⟨rfl,rfl⟩
theorem ints_mt {w:World} {A:Option Addr} {n c h:Nat} {M:List Int} (hM:Ints w (.slice A n c) M) (hh:h<M.length) (h0:0<=M[h]):∃ b o,A=some ⟨b,o,none⟩/\b<w.heap.size/\w.cell? ⟨b,o+h,none⟩=some (.int .i64 (mt M h:Nat)):=by
 obtain ⟨b,o,e1,e2,e3⟩:=hM.at_ hh
 refine ⟨b,o,e1,e2,?_⟩
 rw [e3,mt_cast hh h0]
set_option maxHeartbeats 400000 in
theorem next_any (vm:Value) (M:List Int) (h:Nat) (w:World) (hM:Ints w vm M) (hh:h<M.length) (h0:0<=M[h]) (hl:mt M h<1000) :
 Calls Try.prog 44 #[vm,.int .i64 h] w fun e w'=>e=.returned (.int .i64 (turnN (mt M h) 3:Nat))/\w=w':=by
 have K:=turn_code (mt M h) w hl
 have hM0:=hM
 obtain ⟨A,c,rfl,hc,hx⟩:=hM
 clear hx
 obtain ⟨b,o,rfl,hb,y0⟩:=ints_mt hM0 hh h0
 generalize mt M h=q at *
 have z1:(h:Int)<(M.length:Int):=by omega
 go_enter Try.func44,Try.ntmps44
 go_wp2_with (go_at_call 52;refine K.mono ?_;rintro e w5 ⟨rfl,rfl⟩)
 go_ret
 exact ⟨rfl,rfl⟩
set_option maxHeartbeats 2000000 in
theorem moutgoing_any (vs vm:Value) (S M:List Int) (L:Int) (x:Nat) (w:World) (hS:Ints w vs S) (hM:Ints w vm M) (hx:x<4*S.length) (hn:S.length<=1000) :
 Calls Try.prog 53 #[.agg #[vs,vm,.int .i64 L],.int .i64 (x:Nat)] w fun e w'=>SomeB e/\Below w.heap.size w w':=by
 have hW:Arr (w.alloc (.cells #[vs,vm,.int .i64 L] 24)) w.heap.size 24 [vs,vm,.int .i64 L]/\Below w.heap.size w (w.alloc (.cells #[vs,vm,.int .i64 L] 24)):=⟨Arr.new w _ _,(Below.refl _ _).alloc (Nat.le_refl _) _⟩
 obtain ⟨A,c,rfl,hc,hxS⟩:=hS
 obtain ⟨A2,c2,rfl,hc2,hx2⟩:=hM
 clear hx2
 obtain ⟨b,o,hA,hcell⟩:=hxS (x/4) (gi S (x/4)) (by unfold gi;rw [List.getElem?_eq_getElem (by omega)];rfl)
 subst hA
 clear hxS
 have hb:b<w.heap.size:=block_lt_of_cell hcell
 have hc1:=fun W (hb2:Below w.heap.size w W)=>(hb2.cell (p:=⟨b,o+x/4,none⟩) hb).trans hcell
 generalize gi S (x/4)=s at *
 obtain ⟨k,hk⟩:∃ k,k=x/4:=⟨_,rfl⟩
 have e4:(x:Int)/4=(k:Int):=by omega
 have z1:(k:Int)<(S.length:Int):=by omega
 rw [<- hk] at hcell hc1
 have HC:=Lib.hid hc1
 clear hk hc1 hcell
 go_enter Try.func53,Try.ntmps53
 go_upto_region 1 with fail
 generalize (w.alloc (.cells #[.slice (some ⟨b,o,none⟩) S.length c,.slice A2 M.length c2,.int .i64 L] 24))=w4 at hW ⊢
 obtain ⟨q0,hb4⟩:=hW
 have y0:=q0.cell 0
 have y1:=HC.out w4 hb4
 clear HC
 rcases (by omega:x%4=0\/x%4=1\/x%4=2\/x%4=3) with q|q|q|q
 · have q1:(x:Int)%4=0:=by omega
   go_wp2_with fail
   all_goals
    go_ret
    exact ⟨⟨_,rfl⟩,hb4⟩
 · have q1:(x:Int)%4=1:=by omega
   go_wp2_with fail
   all_goals
    go_ret
    exact ⟨⟨_,rfl⟩,hb4⟩
 · have q1:(x:Int)%4=2:=by omega
   go_wp2_with fail
   all_goals
    go_ret
    exact ⟨⟨_,rfl⟩,hb4⟩
 · have q1:(x:Int)%4=3:=by omega
   go_wp2_with fail
   all_goals
    go_ret
    exact ⟨⟨_,rfl⟩,hb4⟩
set_option maxHeartbeats 1000000 in
theorem forward_any (vs vm:Value) (S M:List Int) (L x:Int) (w:World) (hS:Ints w vs S) (hM:Ints w vm M) (hx:x<4*(S.length:Int)) (hn:S.length<=1000) :
 Calls Try.prog 58 #[.agg #[vs,vm,.int .i64 L],.int .i64 x] w fun e w'=>SomeB e/\Below w.heap.size w w':=by
 have hW:Arr (w.alloc (.cells #[vs,vm,.int .i64 L] 24)) w.heap.size 24 [vs,vm,.int .i64 L]/\Below w.heap.size w (w.alloc (.cells #[vs,vm,.int .i64 L] 24)):=⟨Arr.new w _ _,(Below.refl _ _).alloc (Nat.le_refl _) _⟩
 have HO:=Lib.hid (fun (k:Nat) (hk:k<4*S.length) W (hb:Below w.heap.size w W)=>moutgoing_any vs vm S M L k W (hS.below hb) (hM.below hb) hk hn)
 obtain ⟨A,c,rfl,hc,hx1⟩:=hS
 obtain ⟨A2,c2,rfl,hc2,hx2⟩:=hM
 clear hx1 hx2
 by_cases h1:x = -1
 · have z1:(x == -1)=true:=by simp [h1]
   go_enter Try.func58,Try.ntmps58
   go_wp2_with fail
   go_ret
   exact ⟨⟨_,rfl⟩,hW.2⟩
 · have z1:(x == -1)=false:=by simp [h1]
   by_cases h2:0<=x
   · obtain ⟨k,rfl⟩:∃ k:Nat,x=(k:Int):=⟨x.toNat,by omega⟩
     have HO1:=Lib.hid (HO.out k (by omega))
     clear HO h1
     go_enter Try.func58,Try.ntmps58
     go_upto_region 1 with fail
     generalize (w.alloc (.cells #[.slice A S.length c,.slice A2 M.length c2,.int .i64 L] 24))=w4 at hW ⊢
     obtain ⟨q0,hb4⟩:=hW
     have y0:=q0.cell 0
     have y1:=q0.cell 1
     have y2:=q0.cell 2
     go_wp2_with (go_at_call 53;refine (HO1.out _ hb4).mono ?_;rintro e w5 ⟨⟨o,rfl⟩,hb5⟩)
     go_ret
     exact ⟨⟨_,rfl⟩,hb4.trans (hb5.mono hb4.size)⟩
   · go_enter Try.func58,Try.ntmps58
     go_wp2_with fail
     go_ret
     exact ⟨⟨_,rfl⟩,hW.2⟩
set_option maxHeartbeats 400000 in
theorem place_any (c first side:Nat) (w:World) (hc:c<1000) (h1:first<4) (h2:side<4) :
 Calls Try.prog 35 #[.int .i64 c,.int .i64 first,.int .i64 side] w fun e w'=>e=.returned (.int .i64 (4*c+(side+4-first)%4:Nat))/\w=w':=by
 obtain ⟨k,hk⟩:∃ k:Nat,k=(side+4-first)%4:=⟨_,rfl⟩
 have e1:((side:Int)-(first:Int)+4)%4=(k:Int):=by omega
 have hk4:k<4:=by omega
 rw [<- hk]
 clear hk
 go_enter Try.func35,Try.ntmps35
 go_wp2_with fail
 go_ret
 exact ⟨congrArg (fun z=>Ending.returned (Value.int .i64 z)) (by go_num),rfl⟩
def w2 (w:World) (b:Nat) (i1 i2:Nat) (a1 a2:Int):World:=(w.setCell ⟨b,i1,none⟩ (.int .i64 a1)).setCell ⟨b,i2,none⟩ (.int .i64 a2)
theorem Onl.w2 {g:Nat} {a w:World} (h:Onl g a w) (i1 i2:Nat) (a1 a2:Int):Onl g a (Go.Proofs.Ytfnmeigpfmeomaa.w2 w g i1 i2 a1 a2):=(h.setCell i1 _).setCell i2 _
theorem join_facts {A:Option Addr} {n c base:Nat} {M:List Int} {x y:Nat} {w:World} (h:OwnI 3 base w (.slice A n c) M) (hx:x<M.length) (hy:y<M.length) :
 ∃ b,A=some ⟨b,0,none⟩/\base<=b/\n=M.length/\(∀ i,w.frozen? ⟨b,i,none⟩=false)/\(∀ i,i<M.length->w.cell? ⟨b,i,none⟩=some (.int .i64 (M[i]?.getD 0)))/\OwnI 3 base (w2 w b x y (y:Nat) (x:Nat)) (.slice A n c) (jnL M x y):=by
 obtain ⟨b,hA,hb,hn,hcx,hf0,hs1⟩:=h.setAt hx
 have same:∀ k,some (⟨b,0,none⟩:Addr)=some ⟨k,0,none⟩->k=b:=fun k e=>by injection e with e;injection e with e _;exact e.symm
 obtain ⟨k2,hk2,_,_,_,_,g2⟩:=(hs1 (y:Nat)).setAt (i:=y) (by simpa using hy)
 rw [hA] at hk2
 have e2:=same k2 hk2
 rw [e2] at g2
 refine ⟨b,hA,hb,hn,fun i=>?_,fun i hi=>?_,g2 (x:Nat)⟩
 rotate_left
 · obtain ⟨k5,hk5,_,_,hc5,_,_⟩:=h.setAt hi
   rw [hA] at hk5
   have e5:=same k5 hk5
   rw [e5] at hc5
   rw [hc5,List.getElem?_eq_getElem hi];rfl
 rcases h.2 with ⟨h1,h0⟩|⟨g,cap,cur,hv,_,hh,r⟩
 · injection h1 with h1;rw [hA] at h1;cases h1
 · injection hv with hv
   rw [hA] at hv
   have eg:=same g hv
   subst eg
   exact frozen_of_row w g i _ 3 hh
def JnR (base:Nat) (A:Option Addr) (n c:Nat) (M:List Int) (w w':World):Prop:=OwnI 3 base w' (.slice A n c) M/\∃ b,A=some ⟨b,0,none⟩/\base<=b/\Onl b w w'
set_option maxHeartbeats 1000000 in
theorem mjoin_any (A:Option Addr) (n c base:Nat) (M:List Int) (x y:Nat) (w:World) (h:OwnI 3 base w (.slice A n c) M) (hx:x<M.length) (hy:y<M.length) (hl:M.length<=1000) :
 Calls Try.prog 27 #[.slice A n c,.int .i64 (x:Nat),.int .i64 (y:Nat)] w fun e w'=>e=.returned (.tuple #[])/\JnR base A n c (jnL M x y) w w':=by
 obtain ⟨b,rfl,hb,rfl,hf,hcc,hF⟩:=join_facts h hx hy
 have HF:=Lib.hid hF
 clear hF h
 have z1:(x:Int)<(M.length:Int):=by omega
 have z2:(y:Int)<(M.length:Int):=by omega
 have f0:=hf x
 have f1:=hf y
 have c0:=hcc x hx
 have c1:=hcc y hy
 clear hf hcc
 generalize M[x]?.getD 0=vp at *
 generalize M[y]?.getD 0=vq at *
 by_cases d:x=y
 · subst d
   go_enter Try.func27,Try.ntmps27
   go_wp2_with fail
   go_end0
   exact ⟨rfl,HF.out,b,rfl,hb,(Onl.refl b w).w2 x x _ _⟩
 · have d':y≠x:=fun e=>d e.symm
   go_enter Try.func27,Try.ntmps27
   go_wp2_with fail
   go_end0
   exact ⟨rfl,HF.out,b,rfl,hb,(Onl.refl b w).w2 x y _ _⟩
theorem mk_zeros (n:Nat) (hn:n<=1000000) (W:World):(Instr.makeSlice 22 (.int .i64 (n:Int)) (.int .i64 (n:Int))).run Try.prog W=.ok (.slice (some ⟨W.heap.size,0,none⟩) n n) (W.alloc (.cells (rowOf (List.replicate n (.int .i64 0))) 3)):=by
 obtain ⟨i,hi,hz,hs,hb⟩:=info_parts info_int
 exact run_make_one (P:=Try.prog) 22 3 i (.int .i64 0) Try.underlying22 hi hz hs rfl (by omega) n hn W
theorem mk_zeros4 (n:Nat) (hn:n<=200000) (W:World):(Instr.makeSlice 22 (.int .i64 (4*(n:Int))) (.int .i64 (4*(n:Int)))).run Try.prog W=.ok (.slice (some ⟨W.heap.size,0,none⟩) (4*n) (4*n)) (W.alloc (.cells (rowOf (List.replicate (4*n) (.int .i64 0))) 3)):=by
 have:=mk_zeros (4*n) (by omega) W
 rwa [show ((4*n:Nat):Int)=4*(n:Int) from by omega] at this
theorem OwnI.zeros {base n:Nat} {w:World} (hb:base<=w.heap.size) (hn:n<=1000000):OwnI 3 base (w.alloc (.cells (rowOf (List.replicate n (.int .i64 0))) 3)) (.slice (some ⟨w.heap.size,0,none⟩) n n) (List.replicate n (0:Int)):=by
 unfold OwnI
 rw [List.length_replicate]
 exact ⟨by simp,.inr ⟨w.heap.size,n,_,rfl,hb,heap_alloc_new w _,Nat.le_refl _,by unfold maxLen;omega,by simp [rowOf],by simp [rowOf]⟩⟩
set_option maxHeartbeats 4000000 in
set_option maxRecDepth 100000 in
theorem grown_any (vs vm vk:Value) (S M K:List Int) (L:Int) (w:World) (hS:Ints w vs S) (hM:Ints w vm M) (hK:Ints w vk K) (la:S.length<=1000) (lma:M.length<=1000) (lb:K.length<=100) :
 Calls Try.prog 26 #[.agg #[vs,vm,.int .i64 L],vk] w fun e w'=>∃ v1 v2,e=.returned (.agg #[v1,v2,.int .i64 L])/\OwnI 3 w.heap.size w' v1 (S ++ K)/\OwnI 3 w.heap.size w' v2 (M ++ (List.replicate (4*K.length) (0:Int)))/\(∀ k,v1.ownBlock=some k->v2.ownBlock≠some k)/\Below w.heap.size w w':=by
 have hW:∀ W,W=(w.alloc (.cells #[vs,vm,.int .i64 L] 24)).alloc (.cells #[.slice none 0 0,.slice none 0 0,.int .i64 0] 24)->Arr W w.heap.size 24 [vs,vm,.int .i64 L]/\Arr W (w.heap.size+1) 24 [.slice none 0 0,.slice none 0 0,.int .i64 0]/\Below w.heap.size w W/\W.heap.size=w.heap.size+2:=by
  intro W hW
  subst hW
  exact ⟨(Arr.new _ _ [_,_,_]).alloc _,Arr.newAt (w.alloc _) _ [_,_,_] _ (by simp),((Below.refl _ _).alloc (Nat.le_refl _) _).alloc (by simp) _,by simp⟩
 have GSA:=Lib.hid (fun W (hb:Below w.heap.size w W)=>hS.below hb)
 have GMA:=Lib.hid (fun W (hb:Below w.heap.size w W)=>hM.below hb)
 have GKA:=Lib.hid (fun W (hb:Below w.heap.size w W)=>hK.below hb)
 obtain ⟨A,c,rfl,hc,hx⟩:=hS
 obtain ⟨A2,c2,rfl,hc2,hx2⟩:=hM
 obtain ⟨A3,c3,rfl,hc3,hx3⟩:=hK
 clear hx hx2 hx3
 go_enter Try.func26,Try.ntmps26
 go_upto_region 1 with fail
 generalize ((w.alloc (.cells #[.slice A S.length c,.slice A2 M.length c2,.int .i64 L] 24)).alloc (.cells #[.slice none 0 0,.slice none 0 0,.int .i64 0] 24))=w3 at hW ⊢
 obtain ⟨qa,qr,hb3,hs3⟩:=hW w3 rfl
 clear hW
 obtain ⟨H,hH⟩:∃ H,H=w3.heap.size:=⟨_,rfl⟩
 have HSA:=Lib.hid (fun W (hb:Below H w3 W)=>GSA.out W (hb3.trans (hb.mono (by rw [hH];exact hb3.size))))
 have HMA:=Lib.hid (fun W (hb:Below H w3 W)=>GMA.out W (hb3.trans (hb.mono (by rw [hH];exact hb3.size))))
 have HKA:=Lib.hid (fun W (hb:Below H w3 W)=>GKA.out W (hb3.trans (hb.mono (by rw [hH];exact hb3.size))))
 clear GSA GMA GKA
 subst hH
 refine wp_region_phis 16 (by kernel_rfl) (by kernel_rfl) (by kernel_rfl) (by kernel_rfl) (by kernel_rfl) rfl (by kernel_rfl) (phiT (fun i=>([some (.pointer (some ⟨w.heap.size,0,none⟩)),some (.slice A S.length c),some (.slice A3 K.length c3),none,none,some (.pointer (some ⟨w.heap.size,1,none⟩)),some (.slice A2 M.length c2),some (.slice A3 K.length c3),some (.int .i64 (K.length:Int)),some (.int .i64 (4*(K.length:Int))),none,none,none,some (.pointer (some ⟨w.heap.size,2,none⟩)),some (.int .i64 L),none,some (undef)]:List (Option Value)).getD i none) (fun i v w=>(if i=3 then (fun (v:Value) (w:World)=>∃ b,v=.slice (some ⟨b,0,none⟩) 2 2/\Arr w b 22 [.slice A S.length c,.slice A3 K.length c3]) v w else (if i=4 then (fun (v:Value) (w:World)=>OwnI 3 w3.heap.size w v (S ++ K)) v w else (if i=10 then (fun (v:Value) (w:World)=>OwnI 3 w3.heap.size w v ((List.replicate (4*K.length) (0:Int)))) v w else (if i=11 then (fun (v:Value) (w:World)=>∃ b u,v=.slice (some ⟨b,0,none⟩) 2 2/\Arr w b 22 [.slice A2 M.length c2,u]/\OwnI 3 w3.heap.size w u (List.replicate (4*K.length) (0:Int))) v w else (if i=12 then (fun (v:Value) (w:World)=>OwnI 3 w3.heap.size w v (M ++ (List.replicate (4*K.length) (0:Int)))) v w else (if i=15 then (fun (v:Value) (w:World)=>∃ v1 v2,v=.agg #[v1,v2,.int .i64 L]/\OwnI 3 w3.heap.size w v1 (S ++ K)/\OwnI 3 w3.heap.size w v2 (M ++ (List.replicate (4*K.length) (0:Int)))/\∀ k,v1.ownBlock=some k->v2.ownBlock≠some k) v w else True)))))))) (fun i v w w' h hb=>?_) (fun i=>decide (i=4) || decide (i=12)) (fun i v w hi h k hk=>?_) (fun _ W=>∃ v1 v2,Arr W (w.heap.size+1) 24 [v1,v2,.int .i64 L]/\OwnI 3 w3.heap.size W v1 (S ++ K)/\OwnI 3 w3.heap.size W v2 (M ++ (List.replicate (4*K.length) (0:Int)))/\(∀ k,v1.ownBlock=some k->v2.ownBlock≠some k)/\Below w.heap.size w3 W) ⟨?_,?_,?_,?_,?_,?_,?_,?_,?_,?_,?_,?_,?_,?_,?_,?_,?_,trivial⟩ ?_
 · unfold phiT at h ⊢
   split
   · next u hu=>rw [hu] at h;exact h
   · next hu =>
     rw [hu] at h
     simp only at h ⊢
     by_cases q3:i=3
     · rw [if_pos q3] at h ⊢;exact (by obtain ⟨b,e,h1⟩:=(show ∃ b,v=.slice (some ⟨b,0,none⟩) 2 2/\Arr w b 22 [.slice A S.length c,.slice A3 K.length c3] from h);exact ⟨b,e,h1.below hb h1.lt⟩)
     · rw [if_neg q3] at h ⊢
       by_cases q4:i=4
       · rw [if_pos q4] at h ⊢;exact (show OwnI 3 w3.heap.size w v (S ++ K) from h).below hb (Nat.le_refl _)
       · rw [if_neg q4] at h ⊢
         by_cases q10:i=10
         · rw [if_pos q10] at h ⊢;exact (show OwnI 3 w3.heap.size w v ((List.replicate (4*K.length) (0:Int))) from h).below hb (Nat.le_refl _)
         · rw [if_neg q10] at h ⊢
           by_cases q11:i=11
           · rw [if_pos q11] at h ⊢;exact (by obtain ⟨b,u,e,h1,h2⟩:=(show ∃ b u,v=.slice (some ⟨b,0,none⟩) 2 2/\Arr w b 22 [.slice A2 M.length c2,u]/\OwnI 3 w3.heap.size w u (List.replicate (4*K.length) (0:Int)) from h);exact ⟨b,u,e,h1.below hb h1.lt,h2.below hb (Nat.le_refl _)⟩)
           · rw [if_neg q11] at h ⊢
             by_cases q12:i=12
             · rw [if_pos q12] at h ⊢;exact (show OwnI 3 w3.heap.size w v (M ++ (List.replicate (4*K.length) (0:Int))) from h).below hb (Nat.le_refl _)
             · rw [if_neg q12] at h ⊢
               by_cases q15:i=15
               · rw [if_pos q15] at h ⊢;exact (by obtain ⟨v1,v2,e,h1,h2,h3⟩:=(show ∃ v1 v2,v=.agg #[v1,v2,.int .i64 L]/\OwnI 3 w3.heap.size w v1 (S ++ K)/\OwnI 3 w3.heap.size w v2 (M ++ (List.replicate (4*K.length) (0:Int)))/\∀ k,v1.ownBlock=some k->v2.ownBlock≠some k from h);exact ⟨v1,v2,e,h1.below hb (Nat.le_refl _),h2.below hb (Nat.le_refl _),h3⟩)
               · rw [if_neg q15] at h ⊢
                 trivial
 · simp only [Bool.or_eq_true,decide_eq_true_eq,Bool.false_eq_true] at hi
   rcases hi with rfl|rfl
   · have h2:(fun (v:Value) (w:World)=>OwnI 3 w3.heap.size w v (S ++ K)) v w:=h
     exact h2.ltB k hk
   · have h2:(fun (v:Value) (w:World)=>OwnI 3 w3.heap.size w v (M ++ (List.replicate (4*K.length) (0:Int)))) v w:=h
     exact h2.ltB k hk
 · intro x w1 bA hbel hdep hdap hold hb
   refine ⟨fun _=>?_,fun h=>absurd h (by decide)⟩
   have e2:bA.tmps[2]?.getD undef=.pointer (some ⟨w.heap.size,0,none⟩):=hb 2
   refine phf_run (.pointer (some ⟨w.heap.size,0,none⟩)) rfl ?_ rfl
   clear hb hdep hdap hold
   go_simp
 · intro x w1 bA hbel hdep hdap hold hb
   refine ⟨fun _=>?_,fun h=>absurd h (by decide)⟩
   have e5:bA.tmps[5]?.getD undef=.pointer (some ⟨w.heap.size,0,none⟩):=(hb 5).trans (hdep 0 (by decide))
   have u0:=(qa.below hbel qa.lt).cell 0
   refine phf_run (.slice A S.length c) rfl ?_ rfl
   clear hb hdep hdap hold
   go_simp
 · intro x w1 bA hbel hdep hdap hold hb
   refine ⟨fun _=>?_,fun h=>absurd h (by decide)⟩
   have e1:bA.tmps[1]?.getD undef=.slice A3 K.length c3:=hb 1
   refine phf_run (.slice A3 K.length c3) rfl ?_ rfl
   clear hb hdep hdap hold
   go_simp
 · intro x w1 bA hbel hdep hdap hold hb
   refine ⟨fun _=>?_,fun h=>absurd h (by decide)⟩
   have e6:bA.tmps[6]?.getD undef=.slice A S.length c:=(hb 6).trans (hdep 1 (by decide))
   have e7:bA.tmps[7]?.getD undef=.slice A3 K.length c3:=(hb 7).trans (hdep 2 (by decide))
   refine phf_make (.slice (some ⟨w1.heap.size,0,none⟩) 2 2) (w1.alloc (.cells #[.slice A S.length c,.slice A3 K.length c3] 22)) ?_ ((Below.refl _ _).alloc (Nat.le_refl _) _) ((show ∃ b,Value.slice (some ⟨w1.heap.size,0,none⟩) 2 2=.slice (some ⟨b,0,none⟩) 2 2/\Arr _ b 22 [.slice A S.length c,.slice A3 K.length c3] from ⟨_,rfl,Arr.new _ _ [_,_]⟩)) (fun h=>Bool.noConfusion h)
   clear hb hdep hdap hold
   go_simp
 · intro x w1 bA hbel hdep hdap hold hb
   refine ⟨fun _=>?_,fun h=>absurd h (by decide)⟩
   have p8:=hdep 3 (by decide)
   have e8:bA.tmps[8]?.getD undef=x 3:=hb 8
   generalize x 3=x8 at *
   have P8:=Lib.hid (show (fun (v:Value) (w:World)=>∃ b,v=.slice (some ⟨b,0,none⟩) 2 2/\Arr w b 22 [.slice A S.length c,.slice A3 K.length c3]) x8 w1 from p8)
   clear p8
   obtain ⟨b,rfl,hab⟩:=P8.out
   have HC:=Lib.hid (concat_any b _ _ S K w1 hab (HSA.out _ hbel) (HKA.out _ hbel) la (by omega))
   refine phf_call ?_ (HC.out.mono fun e w' ⟨v,he,ho,hb'⟩=>⟨v,he,hb',ho.base hbel.size,fun _=>ho.block⟩)
   clear hb hdep hdap hold
   go_simp
 · intro x w1 bA hbel hdep hdap hold hb
   refine ⟨fun _=>?_,fun h=>absurd h (by decide)⟩
   have e2:bA.tmps[2]?.getD undef=.pointer (some ⟨w.heap.size,0,none⟩):=hb 2
   refine phf_run (.pointer (some ⟨w.heap.size,1,none⟩)) rfl ?_ rfl
   clear hb hdep hdap hold
   go_simp
 · intro x w1 bA hbel hdep hdap hold hb
   refine ⟨fun _=>?_,fun h=>absurd h (by decide)⟩
   have e10:bA.tmps[10]?.getD undef=.pointer (some ⟨w.heap.size,1,none⟩):=(hb 10).trans (hdep 5 (by decide))
   have u0:=(qa.below hbel qa.lt).cell 1
   refine phf_run (.slice A2 M.length c2) rfl ?_ rfl
   clear hb hdep hdap hold
   go_simp
 · intro x w1 bA hbel hdep hdap hold hb
   refine ⟨fun _=>?_,fun h=>absurd h (by decide)⟩
   have e1:bA.tmps[1]?.getD undef=.slice A3 K.length c3:=hb 1
   refine phf_run (.slice A3 K.length c3) rfl ?_ rfl
   clear hb hdep hdap hold
   go_simp
 · intro x w1 bA hbel hdep hdap hold hb
   refine ⟨fun _=>?_,fun h=>absurd h (by decide)⟩
   have e12:bA.tmps[12]?.getD undef=.slice A3 K.length c3:=(hb 12).trans (hdep 7 (by decide))
   refine phf_run (.int .i64 (K.length:Int)) rfl ?_ rfl
   clear hb hdep hdap hold
   go_simp
 · intro x w1 bA hbel hdep hdap hold hb
   refine ⟨fun _=>?_,fun h=>absurd h (by decide)⟩
   have e13:bA.tmps[13]?.getD undef=.int .i64 (K.length:Int):=(hb 13).trans (hdep 8 (by decide))
   have cw:IntKind.i64.wrap (4*(K.length:Int))=4*(K.length:Int):=IntWalk.i64_in _ (by omega)
   refine phf_run (.int .i64 (4*(K.length:Int))) rfl ?_ rfl
   clear hb hdep hdap hold
   go_simp
 · intro x w1 bA hbel hdep hdap hold hb
   refine ⟨fun _=>?_,fun h=>absurd h (by decide)⟩
   have e14:bA.tmps[14]?.getD undef=.int .i64 (4*(K.length:Int)):=(hb 14).trans (hdep 9 (by decide))
   have hmk:=mk_zeros4 K.length (by omega) w1
   refine phf_make (.slice (some ⟨w1.heap.size,0,none⟩) (4*K.length) (4*K.length)) (w1.alloc (.cells (rowOf (List.replicate (4*K.length) (.int .i64 0))) 3)) ?_ ((Below.refl _ _).alloc (Nat.le_refl _) _) ((OwnI.zeros hbel.size (by omega))) (fun h=>Bool.noConfusion h)
   clear hb hdep hdap hold
   go_simp
 · intro x w1 bA hbel hdep hdap hold hb
   refine ⟨fun _=>?_,fun h=>absurd h (by decide)⟩
   have e11:bA.tmps[11]?.getD undef=.slice A2 M.length c2:=(hb 11).trans (hdep 6 (by decide))
   have p15:=hdep 10 (by decide)
   have e15:bA.tmps[15]?.getD undef=x 10:=hb 15
   generalize x 10=x15 at *
   have P15:=Lib.hid (show (fun (v:Value) (w:World)=>OwnI 3 w3.heap.size w v ((List.replicate (4*K.length) (0:Int)))) x15 w1 from p15)
   clear p15
   have HZ:=Lib.hid P15.out
   obtain ⟨AZ,cZ,rfl⟩:=P15.out.form
   refine phf_make (.slice (some ⟨w1.heap.size,0,none⟩) 2 2) (w1.alloc (.cells #[.slice A2 M.length c2,.slice AZ (List.replicate (4*K.length) (0:Int)).length cZ] 22)) ?_ ((Below.refl _ _).alloc (Nat.le_refl _) _) (⟨_,_,rfl,Arr.new _ _ [_,_],HZ.out.alloc _⟩) (fun h=>Bool.noConfusion h)
   clear hb hdep hdap hold
   go_simp
 · intro x w1 bA hbel hdep hdap hold hb
   refine ⟨fun _=>?_,fun h=>absurd h (by decide)⟩
   have p16:=hdep 11 (by decide)
   have e16:bA.tmps[16]?.getD undef=x 11:=hb 16
   generalize x 11=x16 at *
   have P16:=Lib.hid (show (fun (v:Value) (w:World)=>∃ b u,v=.slice (some ⟨b,0,none⟩) 2 2/\Arr w b 22 [.slice A2 M.length c2,u]/\OwnI 3 w3.heap.size w u (List.replicate (4*K.length) (0:Int))) x16 w1 from p16)
   clear p16
   obtain ⟨b,u,rfl,hab,hu⟩:=P16.out
   have HC:=Lib.hid (concat_any b _ _ M (List.replicate (4*K.length) (0:Int)) w1 hab (HMA.out _ hbel) hu.ints lma (by simp;omega))
   refine phf_call ?_ (HC.out.mono fun e w' ⟨v,he,ho,hb'⟩=>⟨v,he,hb',ho.base hbel.size,fun _=>ho.block⟩)
   clear hb hdep hdap hold
   go_simp
 · intro x w1 bA hbel hdep hdap hold hb
   refine ⟨fun _=>?_,fun h=>absurd h (by decide)⟩
   have e2:bA.tmps[2]?.getD undef=.pointer (some ⟨w.heap.size,0,none⟩):=hb 2
   refine phf_run (.pointer (some ⟨w.heap.size,2,none⟩)) rfl ?_ rfl
   clear hb hdep hdap hold
   go_simp
 · intro x w1 bA hbel hdep hdap hold hb
   refine ⟨fun _=>?_,fun h=>absurd h (by decide)⟩
   have e18:bA.tmps[18]?.getD undef=.pointer (some ⟨w.heap.size,2,none⟩):=(hb 18).trans (hdep 13 (by decide))
   have u0:=(qa.below hbel qa.lt).cell 2
   refine phf_run (.int .i64 L) rfl ?_ rfl
   clear hb hdep hdap hold
   go_simp
 · intro x w1 bA hbel hdep hdap hold hb
   refine ⟨fun _=>?_,fun h=>absurd h (by decide)⟩
   have ap9_17:=hdap 4 (by decide) 12 (by decide) (by decide) rfl rfl
   have ap17_9:=hdap 12 (by decide) 4 (by decide) (by decide) rfl rfl
   have p9:=hdep 4 (by decide)
   have e9:bA.tmps[9]?.getD undef=x 4:=hb 9
   generalize x 4=x9 at *
   have P9:=Lib.hid (show (fun (v:Value) (w:World)=>OwnI 3 w3.heap.size w v (S ++ K)) x9 w1 from p9)
   clear p9
   have p17:=hdep 12 (by decide)
   have e17:bA.tmps[17]?.getD undef=x 12:=hb 17
   generalize x 12=x17 at *
   have P17:=Lib.hid (show (fun (v:Value) (w:World)=>OwnI 3 w3.heap.size w v (M ++ (List.replicate (4*K.length) (0:Int)))) x17 w1 from p17)
   clear p17
   have e19:bA.tmps[19]?.getD undef=.int .i64 L:=(hb 19).trans (hdep 14 (by decide))
   obtain ⟨B1,n1,rfl⟩:=P9.out.form
   obtain ⟨B2,n2,rfl⟩:=P17.out.form
   refine phf_make (_) (w1) ?_ (Below.refl _ _) (⟨_,_,rfl,P9.out,P17.out,ap9_17⟩) (fun h=>Bool.noConfusion h)
   clear hb hdep hdap hold
   go_simp
 · intro x w1 bA hbel hdep hdap hold hb
   refine ⟨fun h=>absurd h (by decide),fun _ hall=>?_⟩
   have e4:bA.tmps[4]?.getD undef=.pointer (some ⟨w.heap.size+1,0,none⟩):=hb 4
   have e20:bA.tmps[20]?.getD undef=x 15:=hb 20
   have p8:=Lib.hid (show (fun (v:Value) (w:World)=>∃ b,v=.slice (some ⟨b,0,none⟩) 2 2/\Arr w b 22 [.slice A S.length c,.slice A3 K.length c3]) (x 3) w1 from hall 3 (by decide))
   have p9:=Lib.hid (show (fun (v:Value) (w:World)=>OwnI 3 w3.heap.size w v (S ++ K)) (x 4) w1 from hall 4 (by decide))
   have p15:=Lib.hid (show (fun (v:Value) (w:World)=>OwnI 3 w3.heap.size w v ((List.replicate (4*K.length) (0:Int)))) (x 10) w1 from hall 10 (by decide))
   have p16:=Lib.hid (show (fun (v:Value) (w:World)=>∃ b u,v=.slice (some ⟨b,0,none⟩) 2 2/\Arr w b 22 [.slice A2 M.length c2,u]/\OwnI 3 w3.heap.size w u (List.replicate (4*K.length) (0:Int))) (x 11) w1 from hall 11 (by decide))
   have p17:=Lib.hid (show (fun (v:Value) (w:World)=>OwnI 3 w3.heap.size w v (M ++ (List.replicate (4*K.length) (0:Int)))) (x 12) w1 from hall 12 (by decide))
   have p20:=Lib.hid (show (fun (v:Value) (w:World)=>∃ v1 v2,v=.agg #[v1,v2,.int .i64 L]/\OwnI 3 w3.heap.size w v1 (S ++ K)/\OwnI 3 w3.heap.size w v2 (M ++ (List.replicate (4*K.length) (0:Int)))/\∀ k,v1.ownBlock=some k->v2.ownBlock≠some k) (x 15) w1 from hall 15 (by decide))
   clear hb hdep hdap hold
   obtain ⟨v1,v2,e20b,o1,o2,o3⟩:=p20.out
   rw [e20b] at e20
   have O1:=Lib.hid o1
   have O2:=Lib.hid o2
   obtain ⟨B1,n1,rfl⟩:=o1.form
   obtain ⟨B2,n2,rfl⟩:=o2.form
   have ag:=qr.below hbel qr.lt
   have c0:=ag.cell 0
   have c1:=ag.cell 1
   have c2:=ag.cell 2
   have f0:=ag.frozen 0
   have f1:=ag.frozen 1
   have f2:=ag.frozen 2
   have AG:=Lib.hid ag
   clear ag o1 o2 p8 p9 p15 p16 p17 p20
   have hg1:=O1.out.apart AG.out (by decide)
   have hg2:=O2.out.apart AG.out (by decide)
   refine phs_store (n:=16) (x:=x) (R:=fun _ W=>∃ v1 v2,Arr W (w.heap.size+1) 24 [v1,v2,.int .i64 L]/\OwnI 3 w3.heap.size W v1 (S ++ K)/\OwnI 3 w3.heap.size W v2 (M ++ (List.replicate (4*K.length) (0:Int)))/\(∀ k,v1.ownBlock=some k->v2.ownBlock≠some k)/\Below w.heap.size w3 W) (((w1.setCell ⟨w.heap.size+1,0,none⟩ (.slice B1 (S ++ K).length n1)).setCell ⟨w.heap.size+1,1,none⟩ (.slice B2 (M ++ (List.replicate (4*K.length) (0:Int))).length n2)).setCell ⟨w.heap.size+1,2,none⟩ (.int .i64 L)) ?_ rfl (fun v=>⟨_,_,((AG.out.set 0 _).set 1 _).set 2 _,((O1.out.far hg1 _).far hg1 _).far hg1 _,((O2.out.far hg2 _).far hg2 _).far hg2 _,o3,(((hbel.mono hb3.size).setCell (p:=⟨w.heap.size+1,0,none⟩) (by simp) _).setCell (p:=⟨w.heap.size+1,1,none⟩) (by simp) _).setCell (p:=⟨w.heap.size+1,2,none⟩) (by simp) _⟩)
   clear e20b
   go_simp
 intro x w5 hR
 obtain ⟨v1,v2,ag,o1,o2,o3,hb5⟩:=hR
 have O1:=Lib.hid (o1.base (b2:=w.heap.size) (by omega))
 have O2:=Lib.hid (o2.base (b2:=w.heap.size) (by omega))
 have O3:=Lib.hid o3
 have HRES:=Lib.hid ag
 have HB:=Lib.hid (hb3.trans hb5)
 clear o1 o2 o3 ag hb5 hb3
 simp only [putAll,dstOf,Act.put,List.map_cons,List.map_nil,List.setIfInBounds_toArray,List.set_cons_succ,List.set_cons_zero,Nat.reduceAdd]
 go_wp2_with fail
 refine bodyPost_ret (v:=.agg #[v1,v2,.int .i64 L]) (results_c Try.results26 _ _ (w.heap.size+1) 24 _ _ rfl HRES.out Try.underlying24 rfl info_diag) rfl ?_
 exact ⟨_,_,rfl,O1.out,O2.out,O3.out,HB.out⟩
theorem info_move:(Try.prog.info? 26).map (·.size)=some 5:=by kernel_rfl
theorem results_cct {P:Program} {fn:Func} {p q u:Tmp} {ty ty2:TypeId} (h:fn.results=#[.cell p ty,.cell q ty2,.tmp u]) (tmps:Array Value) (w:World) (g g2:Nat) (t t2:TypeId) (cs cs2:List Value) (d d2:TypeDesc)
 (hp:tmps.getD p undef=.pointer (some ⟨g,0,none⟩)) (hg:Arr w g t cs) (hq:tmps.getD q undef=.pointer (some ⟨g2,0,none⟩)) (hg2:Arr w g2 t2 cs2)
 (hu:P.underlying ty=some d) (hd:(match d with | .struct _ | .array _ _=>true|_=>false)=true) (hi:(P.info? ty).map (·.size)=some (rowOf cs).size)
 (hu2:P.underlying ty2=some d2) (hd2:(match d2 with | .struct _ | .array _ _=>true|_=>false)=true) (hi2:(P.info? ty2).map (·.size)=some (rowOf cs2).size) :
 (results fn tmps).run P w=.ok (.tuple #[.agg (rowOf cs),.agg (rowOf cs2),tmps.getD u undef]) w:=by
 have hp':tmps[p]?.getD undef=.pointer (some ⟨g,0,none⟩):=by simpa using hp
 have hq':tmps[q]?.getD undef=.pointer (some ⟨g2,0,none⟩):=by simpa using hq
 simp only [results,h]
 simp [hp',hq',Result.andThen,asAddr,run_loadVar_row w g t ty (rowOf cs) (0,0) d hg hu hd hi,run_loadVar_row w g2 t2 ty2 (rowOf cs2) (0,0) d2 hg2 hu2 hd2 hi2]
def MvV (v:Value):Prop:=∃ (a b c d:Int) (o:Bool),v=.agg #[.int .i64 a,.int .i64 b,.int .i64 c,.int .i64 d,.bool o]
def MvE (P:List Int->List Int->Int->Prop) (e:Ending) (w:World):Prop:=∃ v1 v2 S M L mv k,e=.returned (.tuple #[.agg #[v1,v2,.int .i64 L],mv,.int .i64 k])/\MvV mv/\OwnI 3 0 w v1 S/\OwnI 3 0 w v2 M/\(k=0->P S M L)
theorem MvE.err {P:List Int->List Int->Int->Prop} {w:World} {k:Int} (hk:k≠0):MvE P (.returned (.tuple #[.agg #[.slice none 0 0,.slice none 0 0,.int .i64 0],.agg #[.int .i64 0,.int .i64 0,.int .i64 0,.int .i64 0,.bool false],.int .i64 k])) w :=
 ⟨_,_,[],[],0,_,k,rfl,⟨0,0,0,0,false,rfl⟩,OwnI.nil 3 0 w,OwnI.nil 3 0 w,fun e=>absurd e hk⟩
theorem OwnI.onl2 {e:TypeId} {base g:Nat} {w w':World} {v:Value} {xs:List Int} (h:OwnI e base w v xs) (o:Onl g w w') (hne:v.ownBlock≠some g):OwnI e base w' v xs:=by
 refine ⟨h.1,?_⟩
 rcases h.2 with h0|⟨k,cap,cur,rfl,hk,hh,r⟩
 · exact .inl h0
 · exact .inr ⟨k,cap,cur,rfl,hk,by rw [o.block k (fun e=>hne (by rw [<- e];rfl))];exact hh,r⟩
theorem JnR.below {B n c:Nat} {A:Option Addr} {M:List Int} {w w':World} (j:JnR B A n c M w w'):Below B w w':=by
 obtain ⟨_,b,_,hb,o⟩:=j
 exact o.below hb
theorem JnR.arr {B n c g:Nat} {A:Option Addr} {M:List Int} {w w':World} {t:TypeId} {cs:List Value} (j:JnR B A n c M w w') (h:Arr w g t cs) (hg:g<B):Arr w' g t cs:=h.below j.below hg
structure CuS (B g:Nat) (W:World) (v1:Value) (A:Option Addr) (n c:Nat) (S M:List Int) (L:Int):Prop where
 own1:OwnI 3 B W v1 S
 own2:OwnI 3 B W (.slice A n c) M
 ap:∀ k,v1.ownBlock=some k->(Value.slice A n c).ownBlock≠some k
 box:Arr W g 24 [v1,.slice A n c,.int .i64 L]
theorem CuS.join {B g n c:Nat} {A:Option Addr} {v1:Value} {S M M2:List Int} {L:Int} {W W2:World} (s:CuS B g W v1 A n c S M L) (j:JnR B A n c M2 W W2):CuS B g W2 v1 A n c S M2 L:=by
 obtain ⟨h1,b,hA,hb,o⟩:=j
 have hne:v1.ownBlock≠some b:=fun e=>s.ap b e (by rw [hA];rfl)
 have hg:g≠b:=fun e=>(s.own2.apart s.box (by decide)) (by rw [hA,e];rfl)
 exact ⟨s.own1.onl2 o hne,h1,s.ap,s.box.onl o hg⟩
theorem CuS.loops {B g n c:Nat} {A:Option Addr} {v1:Value} {S M:List Int} {L L2:Int} {W:World} (s:CuS B g W v1 A n c S M L):CuS B g (W.setCell ⟨g,2,none⟩ (.int .i64 L2)) v1 A n c S M L2 :=
 ⟨s.own1.far (s.own1.apart s.box (by decide)) _,s.own2.far (s.own2.apart s.box (by decide)) _,s.ap,s.box.set 2 _⟩
theorem CuS.below {B B2 g n c:Nat} {A:Option Addr} {v1:Value} {S M:List Int} {L:Int} {W W2:World} (s:CuS B g W v1 A n c S M L) (hb:Below B2 W W2) (h:W.heap.size<=B2):CuS B g W2 v1 A n c S M L :=
 ⟨s.own1.below hb h,s.own2.below hb h,s.ap,s.box.below hb (Nat.lt_of_lt_of_le s.box.lt h)⟩
theorem CuS.start {B n c:Nat} {A:Option Addr} {v1:Value} {S M:List Int} {W:World} (o1:OwnI 3 B W v1 S) (o2:OwnI 3 B W (.slice A n c) M) (o3:∀ k,v1.ownBlock=some k->(Value.slice A n c).ownBlock≠some k) (L:Int) :
 CuS B W.heap.size (W.alloc (.cells #[v1,.slice A n c,.int .i64 L] 24)) v1 A n c S M L :=
 ⟨o1.alloc _,o2.alloc _,o3,Arr.new _ _ [_,_,_]⟩
theorem CuS.drew {B g n c:Nat} {A:Option Addr} {v1:Value} {S M:List Int} {L:Int} {W:World} (s:CuS B g W v1 A n c S M L):CuS B g W.drew v1 A n c S M L:=⟨s.own1.drew,s.own2.drew,s.ap,s.box⟩
theorem OwnI.stored {B r q:Nat} {v:Value} {xs:List Int} {W:World} (h:OwnI 3 B W v xs) (hr:r<B) (hq:q<B) (a b c d e f g i:Value) :
 OwnI 3 B ((((((((W.setCell ⟨r,0,none⟩ a).setCell ⟨r,1,none⟩ b).setCell ⟨r,2,none⟩ c).setCell ⟨q,0,none⟩ d).setCell ⟨q,1,none⟩ e).setCell ⟨q,2,none⟩ f).setCell ⟨q,3,none⟩ g).setCell ⟨q,4,none⟩ i) v xs:=by
 have n1:v.ownBlock≠some r:=fun e=>by have:=h.block _ e;omega
 have n2:v.ownBlock≠some q:=fun e=>by have:=h.block _ e;omega
 exact ((((((((h.far n1 _).far n1 _).far n1 _).far n2 _).far n2 _).far n2 _).far n2 _).far n2 _)
theorem below_stored {B r q:Nat} {W W0:World} (h:Below B W0 W) (hr:B<=r) (hq:B<=q) (a b c d e f g i:Value) :
 Below B W0 ((((((((W.setCell ⟨r,0,none⟩ a).setCell ⟨r,1,none⟩ b).setCell ⟨r,2,none⟩ c).setCell ⟨q,0,none⟩ d).setCell ⟨q,1,none⟩ e).setCell ⟨q,2,none⟩ f).setCell ⟨q,3,none⟩ g).setCell ⟨q,4,none⟩ i) :=
 (((((((h.setCell (p:=⟨r,0,none⟩) hr _).setCell (p:=⟨r,1,none⟩) hr _).setCell (p:=⟨r,2,none⟩) hr _).setCell (p:=⟨q,0,none⟩) hq _).setCell (p:=⟨q,1,none⟩) hq _).setCell (p:=⟨q,2,none⟩) hq _).setCell (p:=⟨q,3,none⟩) hq _).setCell (p:=⟨q,4,none⟩) hq _
theorem Arr.stored {r q:Nat} {W:World} {x0 x1 x2 y0 y1 y2 y3 y4:Value} {t u:TypeId} (h:Arr W r t [x0,x1,x2]) (h2:Arr W q u [y0,y1,y2,y3,y4]) (hne:r≠q) (a b c d e f g i:Value) :
 Arr ((((((((W.setCell ⟨r,0,none⟩ a).setCell ⟨r,1,none⟩ b).setCell ⟨r,2,none⟩ c).setCell ⟨q,0,none⟩ d).setCell ⟨q,1,none⟩ e).setCell ⟨q,2,none⟩ f).setCell ⟨q,3,none⟩ g).setCell ⟨q,4,none⟩ i) r t [a,b,c] /\
 Arr ((((((((W.setCell ⟨r,0,none⟩ a).setCell ⟨r,1,none⟩ b).setCell ⟨r,2,none⟩ c).setCell ⟨q,0,none⟩ d).setCell ⟨q,1,none⟩ e).setCell ⟨q,2,none⟩ f).setCell ⟨q,3,none⟩ g).setCell ⟨q,4,none⟩ i) q u [d,e,f,g,i]:=by
 have hne':q≠r:=fun e=>hne e.symm
 have k1:=((h.set 0 a).set 1 b).set 2 c
 have k2:=(((((k1.far (p:=⟨q,0,none⟩) hne d).far (p:=⟨q,1,none⟩) hne e).far (p:=⟨q,2,none⟩) hne f).far (p:=⟨q,3,none⟩) hne g).far (p:=⟨q,4,none⟩) hne i)
 have k3:=((h2.far (p:=⟨r,0,none⟩) hne' a).far (p:=⟨r,1,none⟩) hne' b).far (p:=⟨r,2,none⟩) hne' c
 have k4:=((((k3.set 0 d).set 1 e).set 2 f).set 3 g).set 4 i
 exact ⟨k2,k4⟩
theorem mjoin_i (A:Option Addr) (n c base:Nat) (M:List Int) (x y:Int) (xn yn:Nat) (ex:x=(xn:Int)) (ey:y=(yn:Int)) (w:World) (h:OwnI 3 base w (.slice A n c) M) (hx:xn<M.length) (hy:yn<M.length) (hl:M.length<=1000) :
 Calls Try.prog 27 #[.slice A n c,.int .i64 x,.int .i64 y] w fun e w'=>e=.returned (.tuple #[])/\JnR base A n c (jnL M xn yn) w w':=by
 subst ex ey
 exact mjoin_any A n c base M xn yn w h hx hy hl
def ltC (q:Int):List Int->Nat
 | []=>0
 | c :: l=>(if c<q then 1 else 0)+ltC q l
theorem ltC_snoc (q:Int) (l:List Int) (c:Int):ltC q (l ++ [c])=ltC q l+if c<q then 1 else 0:=by
 induction l with
 | nil=>simp [ltC]
 | cons a l ih=>simp only [List.cons_append,ltC,ih];omega
theorem ltC_le (q:Int):∀ l:List Int,ltC q l<=l.length
 | []=>Nat.le_refl _
 | c :: l=>by simp only [ltC,List.length_cons];have:=ltC_le q l;split <;> omega
def shI (G:List Int) (h:Int):Int:=h-4*(ltC (h/4) G:Int)
set_option maxHeartbeats 2000000 in
theorem shifted_any (vg:Value) (G:List Int) (h:Nat) (w:World) (hG:Ints w vg G) (hh:h<1000) (hl:G.length<=10) :
 Calls Try.prog 30 #[.int .i64 h,vg] w fun e w'=>e=.returned (.int .i64 (shI G h))/\w=w':=by
 have hG0:=hG
 obtain ⟨A,c,rfl,hc,hx⟩:=hG
 have HX:=Lib.hid hG0
 clear hx hG0
 obtain ⟨q,hq⟩:∃ q:Int,q=(h:Int)/4:=⟨_,rfl⟩
 have HS:=Lib.hid (show shI G h=(h:Int)-4*(ltC q G:Int) by unfold shI;rw [hq])
 have hq0:(h:Int)/4=q:=hq.symm
 clear hq
 go_enter Try.func30,Try.ntmps30
 go_wp2_with fail
 go_loopg [5,7,10] G.length (fun gk s5 s7 s10 wr=>∃ (k:Nat),k<=G.length/\gk=G.length-k/\s5=.int .i64 (4*(ltC q (G.take k):Int))/\s10=.int .i64 (k:Int)/\w=wr)
 case atStart=>exact ⟨0,Nat.zero_le _,rfl,rfl,rfl,rfl⟩
 case round =>
  obtain ⟨k,hk,rfl,rfl,rfl,rfl⟩:=hrel
  have hle:=ltC_le q (G.take k)
  rw [List.length_take,Nat.min_eq_left hk] at hle
  by_cases hlt:k<G.length
  · obtain ⟨b,o,rfl,hb,hcell⟩:=HX.out.at_ hlt
    have hsn:=ltC_snoc q (G.take k) G[k]
    rw [List.take_append_getElem hlt] at hsn
    generalize G[k]=y at *
    have z1:(k:Int)<(G.length:Int):=by omega
    by_cases hy:y<q
    · rw [if_pos hy] at hsn
      obtain ⟨a,ha⟩:∃ a,a=ltC q (G.take k):=⟨_,rfl⟩
      obtain ⟨a2,ha2⟩:∃ a,a=ltC q (G.take (k+1)):=⟨_,rfl⟩
      have HA2:=Lib.hid ha2
      rw [<- ha2,<- ha] at hsn
      rw [<- ha] at hle ⊢
      clear ha ha2
      go_wp2_with fail
      go_roundg (G.length-(k+1))
      case measure=>omega
      case rel=>exact ⟨k+1,by omega,rfl,by rw [<- HA2.out];go_num,by go_num,rfl⟩
    · rw [if_neg hy] at hsn
      obtain ⟨a,ha⟩:∃ a,a=ltC q (G.take k):=⟨_,rfl⟩
      obtain ⟨a2,ha2⟩:∃ a,a=ltC q (G.take (k+1)):=⟨_,rfl⟩
      have HA2:=Lib.hid ha2
      rw [<- ha2,<- ha] at hsn
      rw [<- ha] at hle ⊢
      clear ha ha2
      go_wp2_with fail
      go_roundg (G.length-(k+1))
      case measure=>omega
      case rel=>exact ⟨k+1,by omega,rfl,by rw [<- HA2.out];go_num,by go_num,rfl⟩
  · obtain rfl:k=G.length:=by omega
    rw [List.take_length] at hle ⊢
    obtain ⟨a,ha⟩:∃ a,a=ltC q G:=⟨_,rfl⟩
    have HA:=Lib.hid ha
    rw [<- ha] at hle ⊢
    clear ha hlt hk
    go_wp2_with fail
    go_ret
    exact ⟨congrArg (fun z=>Ending.returned (Value.int .i64 z)) (by rw [HS.out,<- HA.out]),rfl⟩
def clL (M:List Int) (a b:Nat):List Int:=if mt M a=b then M else jnL M (mt M a) (mt M b)
theorem clL_length (M:List Int) (a b:Nat):(clL M a b).length=M.length:=by unfold clL;split;rfl;exact jnL_length _ _ _
set_option maxHeartbeats 2000000 in
set_option maxRecDepth 100000 in
theorem closed_any (A:Option Addr) (n c base:Nat) (M:List Int) (a b:Nat) (w:World) (h:OwnI 3 base w (.slice A n c) M) (ha:a<M.length) (hb:b<M.length) (h0:∀ i (hi:i<M.length),0<=M[i]) (hm:∀ i,i<M.length->mt M i<M.length) (hl:M.length<=1000) :
 Calls Try.prog 29 #[.slice A n c,.int .i64 (a:Nat),.int .i64 (b:Nat)] w fun e w'=>e=.returned (.int .i64 (lp (mt M) a b:Nat))/\JnR base A n c (clL M a b) w w':=by
 obtain ⟨g,rfl,hg,rfl,_,hcc,_⟩:=join_facts h ha hb
 have KJ:=Lib.hid (fun W (hW:OwnI 3 base W (.slice (some ⟨g,0,none⟩) M.length c) M)=>mjoin_any (some ⟨g,0,none⟩) M.length c base M (mt M a) (mt M b) W hW (hm a ha) (hm b hb) hl)
 have c0:=hcc a ha
 have c1:=hcc b hb
 rw [List.getElem?_eq_getElem ha] at c0
 rw [List.getElem?_eq_getElem hb] at c1
 simp only [Option.getD_some] at c0 c1
 rw [mt_cast ha (h0 a ha)] at c0
 rw [mt_cast hb (h0 b hb)] at c1
 have HO:=Lib.hid h
 have HL:=Lib.hid (show clL M a b=if mt M a=b then M else jnL M (mt M a) (mt M b) from rfl)
 have HP:=Lib.hid (show lp (mt M) a b=if mt M a=b then 1 else 0 from rfl)
 have za:(a:Int)<(M.length:Int):=by omega
 have zb:(b:Int)<(M.length:Int):=by omega
 clear hcc h h0 hm
 generalize clL M a b=CL at *
 generalize lp (mt M) a b=LP at *
 generalize mt M a=p at *
 generalize mt M b=q at *
 by_cases e:p=b
 · have hp:=HP.out
   rw [if_pos e] at hp
   have hcl:=HL.out
   rw [if_pos e] at hcl
   subst e hp hcl
   go_enter Try.func29,Try.ntmps29
   go_wp2_with fail
   go_ret
   exact ⟨rfl,HO.out,g,rfl,hg,Onl.refl g w⟩
 · have hp:=HP.out
   rw [if_neg e] at hp
   have hcl:=HL.out
   rw [if_neg e] at hcl
   subst hp
   have HCL:=Lib.hid hcl
   clear hcl HL HP
   have ez:¬ ((p:Int)=(b:Int)):=by omega
   go_enter Try.func29,Try.ntmps29
   go_upto_region 3 with fail
   go_still_tail 9,(by kernel_rfl)
   change wpList _ _ _ _ _ w.drew
   have HOd:=Lib.hid HO.out.drew
   clear c0 c1 HO
   have HD:=Lib.hid (Onl.refl g w).drew
   generalize w.drew=wd at *
   go_wp2_with (go_at_call 27;refine (KJ.out _ HOd.out).mono ?_;rintro e w5 ⟨rfl,hj⟩)
   go_ret
   refine ⟨rfl,?_⟩
   obtain ⟨j1,g2,hA,hg2,o⟩:=hj
   injection hA with hA
   injection hA with hA _
   subst hA
   rw [HCL.out]
   exact ⟨j1,g,rfl,hg,HD.out.trans o⟩
def enI (x:Int):List Value:=[.int .i64 x]
theorem elI:ElA Try.prog 3 1 enI:=by
 obtain ⟨i,hi,hz,hs,hb⟩:=info_parts info_int
 exact ⟨⟨i,_,8,hi,hz,hs,hb,rfl,by decide⟩,by decide,fun _=>rfl,fun x q hq=>by simp only [enI,List.mem_singleton] at hq;subst hq;rfl⟩
theorem flat_enI (xs:List Int):xs.flatMap enI=xs.map (Value.int .i64):=by
 induction xs with
 | nil=>rfl
 | cons x xs ih=>rw [List.flatMap_cons,ih];rfl
theorem OwnI.toA {base:Nat} {w:World} {v:Value} {xs:List Int} (h:OwnI 3 base w v xs):OwnA 3 1 enI base w v xs:=by
 unfold OwnA;rw [flat_enI];exact h
theorem OwnA.toI {base:Nat} {w:World} {v:Value} {xs:List Int} (h:OwnA 3 1 enI base w v xs):OwnI 3 base w v xs:=by
 unfold OwnA at h;rw [flat_enI] at h;exact h
structure ShS (B g:Nat) (W:World) (v1 v2:Value) (S M:List Int) (L:Int):Prop where
 own1:OwnI 3 B W v1 S
 own2:OwnI 3 B W v2 M
 ap:∀ k,v1.ownBlock=some k->v2.ownBlock≠some k
 box:Arr W g 24 [v1,v2,.int .i64 L]
 hg:B<=g
theorem ShS.below {B B2 g:Nat} {v1 v2:Value} {S M:List Int} {L:Int} {W W2:World} (s:ShS B g W v1 v2 S M L) (hb:Below B2 W W2) (h:W.heap.size<=B2):ShS B g W2 v1 v2 S M L :=
 ⟨s.own1.below hb h,s.own2.below hb h,s.ap,s.box.below hb (Nat.lt_of_lt_of_le s.box.lt h),s.hg⟩
theorem ShS.app1 {B g:Nat} {v1 v2 v':Value} {S M S2:List Int} {L:Int} {W W2:World} (s:ShS B g W v1 v2 S M L) (h1:OwnA 3 1 enI B W2 v' S2) (h3:∀ k,k<W.heap.size->v1.ownBlock≠some k->W2.heap[k]? = W.heap[k]?) (h4:v'.ownBlock=v1.ownBlock\/v'.ownBlock=some W.heap.size) :
 ShS B g (W2.setCell ⟨g,0,none⟩ v') v' v2 S2 M L:=by
 have n1:=s.own1.apart s.box (by decide)
 have n2:=s.own2.apart s.box (by decide)
 have hb2:Arr W2 g 24 [v1,v2,.int .i64 L]:=(h3 g s.box.lt n1).trans s.box
 have o2:OwnI 3 B W2 v2 M:=(s.own2.toA.keepK fun k hk=>h3 k (s.own2.ltB k hk) fun e=>s.ap k e hk).toI
 have n1':=h1.toI.apart hb2 (by decide)
 refine ⟨h1.toI.far n1' _,o2.far n2 _,fun k hk=>?_,hb2.set 0 _,s.hg⟩
 rcases h4 with e|e
 · exact s.ap k (by rw [<- e];exact hk)
 · intro h
   have:=s.own2.ltB k h
   rw [e] at hk
   injection hk with hk
   omega
theorem ShS.app2 {B g:Nat} {v1 v2 v':Value} {S M M2:List Int} {L:Int} {W W2:World} (s:ShS B g W v1 v2 S M L) (h1:OwnA 3 1 enI B W2 v' M2) (h3:∀ k,k<W.heap.size->v2.ownBlock≠some k->W2.heap[k]? = W.heap[k]?) (h4:v'.ownBlock=v2.ownBlock\/v'.ownBlock=some W.heap.size) :
 ShS B g (W2.setCell ⟨g,1,none⟩ v') v1 v' S M2 L:=by
 have n1:=s.own1.apart s.box (by decide)
 have n2:=s.own2.apart s.box (by decide)
 have hb2:Arr W2 g 24 [v1,v2,.int .i64 L]:=(h3 g s.box.lt n2).trans s.box
 have o1:OwnI 3 B W2 v1 S:=(s.own1.toA.keepK fun k hk=>h3 k (s.own1.ltB k hk) fun e=>s.ap k hk e).toI
 have n2':=h1.toI.apart hb2 (by decide)
 refine ⟨o1.far n1 _,h1.toI.far n2' _,fun k hk=>?_,hb2.set 1 _,s.hg⟩
 rcases h4 with e|e
 · rw [e];exact s.ap k hk
 · intro h
   have:=s.own1.ltB k hk
   rw [e] at h
   injection h with h
   omega
def SomeI (e:Ending):Prop:=∃ k:Int,e=.returned (.int .i64 k)
set_option maxHeartbeats 2000000 in
theorem curlable_any (vs vm:Value) (S M:List Int) (L kd X Y sg:Int) (ov:Bool) (w:World) (hS:Ints w vs S) (hM:Ints w vm M) (hx:X<4*(S.length:Int)) (hn:S.length<=1000) :
 Calls Try.prog 25 #[.agg #[vs,vm,.int .i64 L],.agg #[.int .i64 kd,.int .i64 X,.int .i64 Y,.int .i64 sg,.bool ov]] w fun e w'=>SomeI e/\Below w.heap.size w w':=by
 have hW:∀ W,W=(w.alloc (.cells #[vs,vm,.int .i64 L] 24)).alloc (.cells #[.int .i64 kd,.int .i64 X,.int .i64 Y,.int .i64 sg,.bool ov] 26)->Arr W w.heap.size 24 [vs,vm,.int .i64 L]/\Arr W (w.heap.size+1) 26 [.int .i64 kd,.int .i64 X,.int .i64 Y,.int .i64 sg,.bool ov]/\Below w.heap.size w W/\W.heap.size=w.heap.size+2:=by
  intro W hW
  subst hW
  exact ⟨(Arr.new _ _ [_,_,_]).alloc _,Arr.newAt (w.alloc _) _ [_,_,_,_,_] _ (by simp),((Below.refl _ _).alloc (Nat.le_refl _) _).alloc (by simp) _,by simp⟩
 have HO:=Lib.hid (fun (k:Nat) (hk:k<4*S.length) W (hb:Below w.heap.size w W)=>moutgoing_any vs vm S M L k W (hS.below hb) (hM.below hb) hk hn)
 obtain ⟨A,c,rfl,hc,hx1⟩:=hS
 obtain ⟨A2,c2,rfl,hc2,hx2⟩:=hM
 clear hx1 hx2
 go_enter Try.func25,Try.ntmps25
 go_upto_region 1 with fail
 generalize ((w.alloc (.cells #[.slice A S.length c,.slice A2 M.length c2,.int .i64 L] 24)).alloc (.cells #[.int .i64 kd,.int .i64 X,.int .i64 Y,.int .i64 sg,.bool ov] 26))=w3 at hW ⊢
 obtain ⟨qa,qm,hb3,hs3⟩:=hW w3 rfl
 clear hW
 have y0:=qa.cell 0
 have y1:=qa.cell 1
 have y2:=qa.cell 2
 have m1:=qm.cell 1
 by_cases h1:0<=X
 · obtain ⟨k,rfl⟩:∃ k:Nat,X=(k:Int):=⟨X.toNat,by omega⟩
   have HO1:=Lib.hid (HO.out k (by omega))
   clear HO hx
   have h2:¬ ((k:Int)<0):=by omega
   go_wp2_with (go_at_call 53;refine (HO1.out _ hb3).mono ?_;rintro e w5 ⟨⟨o,rfl⟩,hb5⟩;have z0:=(qa.below hb5 qa.lt).cell 0;have z1:=(qm.below hb5 qm.lt).cell 1;have HB:=Lib.hid (hb3.trans (hb5.mono hb3.size));clear hb5;cases o)
   all_goals
    go_ret
    exact ⟨⟨_,rfl⟩,HB.out⟩
 · have h2:X<0:=by omega
   clear HO hx
   go_wp2_with fail
   all_goals
    go_ret
    exact ⟨⟨_,rfl⟩,hb3⟩
theorem ints_cell {w:World} {A:Option Addr} {n c h:Nat} {M:List Int} (hM:Ints w (.slice A n c) M) (hh:h<M.length):∃ b o z,A=some ⟨b,o,none⟩/\b<w.heap.size/\w.cell? ⟨b,o+h,none⟩=some (.int .i64 z):=by
 obtain ⟨b,o,e1,e2,e3⟩:=hM.at_ hh
 exact ⟨b,o,_,e1,e2,e3⟩
set_option maxHeartbeats 4000000 in
set_option maxRecDepth 100000 in
theorem near_any (vs vm vl vp:Value) (S M LL PP:List Int) (L:Int) (x y:Nat) (w:World) (hS:Ints w vs S) (hM:Ints w vm M) (hL:Ints w vl LL) (hP:Ints w vp PP) (hm:M.length=4*S.length) (hl:LL.length=4*S.length) (hp:PP.length=S.length) (hx:x<4*S.length) (hy:y<4*S.length) (hn:S.length<=7) :
 Calls Try.prog 57 #[.agg #[vs,vm,.int .i64 L,vl,vp],.int .i64 (x:Nat),.int .i64 (y:Nat)] w fun e w'=>SomeB e/\Below w.heap.size w w':=by
 have hW:Arr (w.alloc (.cells #[vs,vm,.int .i64 L,vl,vp] 42)) w.heap.size 42 [vs,vm,.int .i64 L,vl,vp]/\Below w.heap.size w (w.alloc (.cells #[vs,vm,.int .i64 L,vl,vp] 42)):=⟨Arr.new w _ [_,_,_,_,_],(Below.refl _ _).alloc (Nat.le_refl _) _⟩
 have hM1:=hM.below hW.2
 have hL1:=hL.below hW.2
 have hP1:=hP.below hW.2
 obtain ⟨A,cs,rfl,hcs,hx0⟩:=hS
 obtain ⟨A2,c2,rfl,hc2,hx2⟩:=hM
 obtain ⟨A3,c3,rfl,hc3,hx3⟩:=hL
 obtain ⟨A4,c4,rfl,hc4,hx4⟩:=hP
 clear hx0 hx2 hx3 hx4
 obtain ⟨bm,om,m1,hA2,_,ym⟩:=ints_cell hM1 (h:=x) (by omega)
 subst hA2
 obtain ⟨bl,ol,l1,hA3,_,yl1⟩:=ints_cell hL1 (h:=x) (by omega)
 subst hA3
 obtain ⟨bl',ol',l2,hA3,_,yl2⟩:=ints_cell hL1 (h:=y) (by omega)
 injection hA3 with hA3
 injection hA3 with hA3 hA3'
 subst hA3 hA3'
 obtain ⟨k1,hk1⟩:∃ k,k=x/4:=⟨_,rfl⟩
 obtain ⟨k2,hk2⟩:∃ k,k=y/4:=⟨_,rfl⟩
 obtain ⟨bp,op,p1,hA4,_,yp1⟩:=ints_cell hP1 (h:=k1) (by omega)
 subst hA4
 obtain ⟨bp',op',p2,hA4,_,yp2⟩:=ints_cell hP1 (h:=k2) (by omega)
 injection hA4 with hA4
 injection hA4 with hA4 hA4'
 subst hA4 hA4'
 have e1:(x:Int)/4=(k1:Int):=by omega
 have e2:(y:Int)/4=(k2:Int):=by omega
 have z1:(x:Int)<(M.length:Int):=by omega
 have z2:(x:Int)<(LL.length:Int):=by omega
 have z3:(y:Int)<(LL.length:Int):=by omega
 have z4:(k1:Int)<(PP.length:Int):=by omega
 have z5:(k2:Int)<(PP.length:Int):=by omega
 clear hm hl hp hk1 hk2 hM1 hL1 hP1 hc2 hc3 hc4 hcs
 go_enter Try.func57,Try.ntmps57
 go_upto_region 1 with fail
 generalize (w.alloc (.cells #[.slice A S.length cs,.slice (some ⟨bm,om,none⟩) M.length c2,.int .i64 L,.slice (some ⟨bl,ol,none⟩) LL.length c3,.slice (some ⟨bp,op,none⟩) PP.length c4] 42))=w3 at *
 obtain ⟨q,hb⟩:=hW
 have s1:=q.cell 1
 have s3:=q.cell 3
 have s4:=q.cell 4
 have HB:=Lib.hid hb
 clear q hb
 by_cases t1:l1=l2
 · have u1:(l1==l2)=true:=by simpa using t1
   clear t1
   go_quiet (fail)
   go_wp2_with fail
   go_ret
   exact ⟨⟨_,rfl⟩,bdrewN HB.out _⟩
 · have u1:(l1==l2)=false:=by simpa using t1
   clear t1
   by_cases t2:p1=p2
   · have u2:(p1 != p2)=false:=by simpa using t2
     clear t2
     go_quiet (fail)
     go_wp2_with fail
     go_ret
     exact ⟨⟨_,rfl⟩,bdrewN HB.out _⟩
   · have u2:(p1 != p2)=true:=by simpa using t2
     clear t2
     go_quiet (fail)
     go_wp2_with fail
     go_ret
     exact ⟨⟨_,rfl⟩,bdrewN HB.out _⟩
set_option maxHeartbeats 4000000 in
set_option maxRecDepth 100000 in
theorem pokeable_any (vs vm vl vp:Value) (S M LL PP:List Int) (L kd X Y sg:Int) (ov:Bool) (w:World) (hS:Ints w vs S) (hM:Ints w vm M) (hL:Ints w vl LL) (hP:Ints w vp PP) (hm:M.length=4*S.length) (hl:LL.length=4*S.length) (hp:PP.length=S.length) (hX:X<4*(S.length:Int)) (hY:Y<4*(S.length:Int)) (hn:S.length<=7) :
 Calls Try.prog 32 #[.agg #[vs,vm,.int .i64 L,vl,vp],.agg #[.int .i64 kd,.int .i64 X,.int .i64 Y,.int .i64 sg,.bool ov]] w fun e w'=>SomeI e/\Below w.heap.size w w':=by
 have hW:∀ W,W=(w.alloc (.cells #[vs,vm,.int .i64 L,vl,vp] 42)).alloc (.cells #[.int .i64 kd,.int .i64 X,.int .i64 Y,.int .i64 sg,.bool ov] 26)->Arr W w.heap.size 42 [vs,vm,.int .i64 L,vl,vp]/\Arr W (w.heap.size+1) 26 [.int .i64 kd,.int .i64 X,.int .i64 Y,.int .i64 sg,.bool ov]/\Below w.heap.size w W:=by
  intro W hW
  subst hW
  exact ⟨(Arr.new _ _ [_,_,_,_,_]).alloc _,Arr.newAt (w.alloc _) _ [_,_,_,_,_] _ (by simp),((Below.refl _ _).alloc (Nat.le_refl _) _).alloc (by simp) _⟩
 have KN:=Lib.hid (fun (x y:Nat) (hx:x<4*S.length) (hy:y<4*S.length) W (hb:Below w.heap.size w W)=>near_any vs vm vl vp S M LL PP L x y W (hS.below hb) (hM.below hb) (hL.below hb) (hP.below hb) hm hl hp hx hy hn)
 obtain ⟨A,cs,rfl,hcs,hx0⟩:=hS
 obtain ⟨A2,c2,rfl,hc2,hx2⟩:=hM
 obtain ⟨A3,c3,rfl,hc3,hx3⟩:=hL
 obtain ⟨A4,c4,rfl,hc4,hx4⟩:=hP
 clear hx0 hx2 hx3 hx4 hm hl hp hc2 hc3 hc4 hcs
 go_enter Try.func32,Try.ntmps32
 go_upto_region 1 with fail
 have HW:=hW _ rfl
 clear hW
 generalize ((w.alloc (.cells #[.slice A S.length cs,.slice A2 M.length c2,.int .i64 L,.slice A3 LL.length c3,.slice A4 PP.length c4] 42)).alloc (.cells #[.int .i64 kd,.int .i64 X,.int .i64 Y,.int .i64 sg,.bool ov] 26))=w3 at HW ⊢
 have s0:=HW.1.cell 0
 have s1:=HW.1.cell 1
 have s2:=HW.1.cell 2
 have s3:=HW.1.cell 3
 have s4:=HW.1.cell 4
 have m1:=HW.2.1.cell 1
 have m2:=HW.2.1.cell 2
 have m3:=HW.2.1.cell 3
 have HB:=Lib.hid HW.2.2
 have HS:=Lib.hid (fun W (hb:Below w3.heap.size w3 W)=>HW.1.below hb HW.1.lt)
 clear HW
 by_cases hx:0<=X/\0<=Y
 · obtain ⟨hx1,hx2⟩:=hx
   obtain ⟨x,rfl⟩:∃ k:Nat,X=(k:Int):=⟨X.toNat,by omega⟩
   obtain ⟨y,rfl⟩:∃ k:Nat,Y=(k:Int):=⟨Y.toNat,by omega⟩
   have KN1:=Lib.hid (KN.out x y (by omega) (by omega) w3 HB.out)
   clear KN
   have d1:¬ ((x:Int)<0):=by omega
   have d2:¬ ((y:Int)<0):=by omega
   go_wp2_with (go_at_call 57;refine KN1.out.mono ?_;rintro e w5 ⟨⟨o,rfl⟩,hb5⟩;have t0:=(HS.out w5 hb5).cell 0;have HB5:=Lib.hid (HB.out.trans (hb5.mono HB.out.size));clear hb5;cases o)
   all_goals
    go_ret
    first
     | exact ⟨⟨_,rfl⟩,HB.out⟩
     | exact ⟨⟨_,rfl⟩,HB5.out⟩
 · clear KN HS
   by_cases hx1:X<0
   · have d1:¬ (0<=X):=by omega
     clear hx
     go_wp2_with fail
     all_goals
      go_ret
      exact ⟨⟨_,rfl⟩,HB.out⟩
   · have d1:Y<0:=by omega
     have d2:¬ (0<=Y):=by omega
     have d3:0<=X:=by omega
     clear hx
     go_wp2_with fail
     all_goals
      go_ret
      exact ⟨⟨_,rfl⟩,HB.out⟩
end Go.Proofs.Ytfnmeigpfmeomaa
