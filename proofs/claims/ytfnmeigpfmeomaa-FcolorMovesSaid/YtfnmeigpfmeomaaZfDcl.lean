/- Colorings of systems of half-edges: the slide of a triangle (plain). -/
import Derived.Test.YtfnmeigpfmeomaaZfUnk
import Derived.Deep.DeepCutAuto
import Derived.Test.YtfnmeigpfmeomaaZfPkb
import Derived.Test.YtfnmeigpfmeomaaZfShelf
namespace Go.Proofs.Ytfnmeigpfmeomaa
set_option linter.unusedVariables false
structure Trg (M:List Int) (h i j:Nat):Prop where
 hi:i=turnN (mt M h) 3
 hj:j=turnN (mt M i) 3
 hh:turnN (mt M j) 3=h
 d1:h/4≠i/4
 d2:i/4≠j/4
 d3:h/4≠j/4
def trI (M:List Int) (h i j:Nat):List Nat:=[h,mt M h,i,mt M i,j,mt M j]
def trO (M:List Int) (h i j z:Nat):Bool:=decide (opp z∈trI M h i j)
def trT (M:List Int) (h i j z:Nat):Nat:=if opp z∈trI M h i j then mt M (opp z) else z
def slL (M:List Int) (T:Nat->Nat) (out:Nat->Bool):Nat->List Int
 | 0=>M
 | u+1=>if out u=true then jnL (slL M T out u) (T u) (T (mt M u)) else slL M T out u
theorem slL_length (M:List Int) (T:Nat->Nat) (out:Nat->Bool):∀ u,(slL M T out u).length=M.length
 | 0=>rfl
 | u+1=>by
  rw [slL]
  split
  · rw [jnL_length];exact slL_length M T out u
  · exact slL_length M T out u
theorem slL_mt {M:List Int} {T:Nat->Nat} {out:Nat->Bool} {N:Nat} (hl:M.length=N) (k:Inv2 N (mt M)) (NI:Nat->Prop) (ho:∀ v,v<N->out v=true->NI v) (ha:∀ v,v<N->NI v->NI (mt M v)) (ht:∀ v,v<N->T v<N) (hi:∀ a b,a<N->b<N->NI a->NI b->T a=T b->a=b) :
 ∀ u,u<=N->(∀ v,v<u->out v=true->mt (slL M T out u) (T v)=T (mt M v)/\mt (slL M T out u) (T (mt M v))=T v)/\∀ z,(∀ v,v<N->out v=true->z≠T v/\z≠T (mt M v))->mt (slL M T out u) z=mt M z
 | 0,_=>⟨fun v hv=>absurd hv (Nat.not_lt_zero _),fun z _=>rfl⟩
 | u+1,hu=>by
  obtain ⟨h1,h2⟩:=slL_mt hl k NI ho ha ht hi u (by omega)
  rw [slL]
  by_cases w:out u=true
  · rw [if_pos w]
    have hul:u<N:=by omega
    have hau:=k.lt u hul
    have nu:=ho u hul w
    have nau:=ha u hul nu
    rw [mt_jnL (by rw [slL_length,hl];exact ht u hul) (by rw [slL_length,hl];exact ht _ hau)]
    refine ⟨fun v hv hov=>?_,fun z hz=>?_⟩
    · have hvl:v<N:=by omega
      have hav:=k.lt v hvl
      have nv:=ho v hvl hov
      have nav:=ha v hvl nv
      have old:v≠u->mt (slL M T out u) (T v)=T (mt M v)/\mt (slL M T out u) (T (mt M v))=T v:=fun e=>h1 v (by omega) hov
      constructor
      · unfold jnF
        by_cases c1:T v=T (mt M u)
        · rw [if_pos c1]
          have e:=hi _ _ hvl hau nv nau c1
          rw [e,k.inv u hul]
        · rw [if_neg c1]
          by_cases c2:T v=T u
          · rw [if_pos c2]
            have e:=hi _ _ hvl hul nv nu c2
            rw [e]
          · rw [if_neg c2]
            exact (old (fun e=>c2 (by rw [e]))).1
      · unfold jnF
        by_cases c1:T (mt M v)=T (mt M u)
        · rw [if_pos c1]
          have e:=hi _ _ hav hau nav nau c1
          have e2:v=u:=by rw [<- k.inv v hvl,e,k.inv u hul]
          rw [e2]
        · rw [if_neg c1]
          by_cases c2:T (mt M v)=T u
          · rw [if_pos c2]
            have e:=hi _ _ hav hul nav nu c2
            rw [<- e,k.inv v hvl]
          · rw [if_neg c2]
            exact (old (fun e=>c1 (by rw [e]))).2
    · obtain ⟨z1,z2⟩:=hz u hul w
      rw [jn_3 _ z1 z2]
      exact h2 z hz
  · rw [if_neg w]
    refine ⟨fun v hv hov=>h1 v ?_ hov,h2⟩
    have:v≠u:=fun e=>w (by rw [<- e];exact hov)
    omega
theorem opp_opp (z:Nat):opp (opp z)=z:=by unfold opp;omega
theorem opp_div (z:Nat):opp z/4=z/4:=by unfold opp;omega
theorem opp_mod (z:Nat):opp z%2=z%2:=by unfold opp;omega
theorem opp_ne (z:Nat):opp z≠z:=by unfold opp;omega
structure TrF (M M2:List Int) (n X1 X2 X3 a1 b1 a2 b2 a3 b3:Nat):Prop where
 k:Inv2 (4*n) (mt M)
 x1:X1<n
 x2:X2<n
 x3:X3<n
 d12:X1≠X2
 d23:X2≠X3
 d13:X1≠X3
 wa1:a1/4=X1
 wb1:b1/4=X2
 wa2:a2/4=X2
 wb2:b2/4=X3
 wa3:a3/4=X3
 wb3:b3/4=X1
 e1:mt M a1=b1
 e2:mt M a2=b2
 e3:mt M a3=b3
 p1:a1%2≠b3%2
 p2:a2%2≠b1%2
 p3:a3%2≠b2%2
 f1:mt M2 (opp a1)=opp b1/\mt M2 (opp b1)=opp a1
 f2:mt M2 (opp a2)=opp b2/\mt M2 (opp b2)=opp a2
 f3:mt M2 (opp a3)=opp b3/\mt M2 (opp b3)=opp a3
section
variable {M M2:List Int} {n X1 X2 X3 a1 b1 a2 b2 a3 b3:Nat} {T:Nat->Nat}
theorem TrF.sld12 (t:TrF M M2 n X1 X2 X3 a1 b1 a2 b2 a3 b3) (o1:a1%2=1/\b1%2=1) (u2:a2%2=0/\b2%2=0)
 (ti:T (opp a1)=b1/\T (opp b1)=a1/\T (opp a2)=b2/\T (opp b2)=a2/\T (opp a3)=b3/\T (opp b3)=a3) (tt:∀ z,z/4≠X1->z/4≠X2->z/4≠X3->T z=z)
 (q:∀ z,z<4*n->z ∉ [a1,b1,a2,b2,a3,b3]->mt M2 (T z)=T (mt M z)) :
 Sld n (mt M) (mt M2) T X2 X1 X3 b1 (opp b1) a2 (opp a2) a1 (opp a1) b3 (opp b3) a3 (opp a3) b2 (opp b2):=by
 have lt1:∀ {z},z/4=X1->z<4*n:=fun h=>by have:=t.x1;omega
 have lt2:∀ {z},z/4=X2->z<4*n:=fun h=>by have:=t.x2;omega
 have lt3:∀ {z},z/4=X3->z<4*n:=fun h=>by have:=t.x3;omega
 have hb3:b3%2=0:=by have:=t.p1;omega
 have ha3:a3%2=1:=by have:=t.p3;omega
 refine ⟨t.x2,t.x1,t.x3,fun e=>t.d12 e.symm,t.d23,t.d13,slt_of t.wb1 t.wa2 o1.2 u2.1,slt_of t.wa1 t.wb3 o1.1 hb3,slt_of t.wa3 t.wb2 ha3 u2.2,by rw [<- t.e1,t.k.inv _ (lt1 t.wa1)],t.e2,by rw [<- t.e3,t.k.inv _ (lt3 t.wa3)],
  t.f1.2,t.f2.1,t.f3.2,ti.2.1,ti.1,ti.2.2.1,ti.2.2.2.1,ti.2.2.2.2.2,ti.2.2.2.2.1,fun z h1 h2 h3=>tt z h2 h1 h3,fun z hz w=>q z hz ?_⟩
 intro hm
 simp only [List.mem_cons,List.not_mem_nil,or_false] at hm
 have s2:=slt_of t.wb1 t.wa2 o1.2 u2.1
 have s1:=slt_of t.wa1 t.wb3 o1.1 hb3
 have s3:=slt_of t.wa3 t.wb2 ha3 u2.2
 obtain ⟨g1,g2,g3,g4,g5⟩:=s2.ne
 obtain ⟨g6,g7,g8,g9,g10⟩:=s1.ne
 obtain ⟨g11,g12,g13,g14,g15⟩:=s3.ne
 have od:=opp_div
 have c12:∀ {x y},x/4=X1->y/4=X2->x≠y:=fun hx hy e=>t.d12 (by rw [<- hx,<- hy,e])
 have c13:∀ {x y},x/4=X1->y/4=X3->x≠y:=fun hx hy e=>t.d13 (by rw [<- hx,<- hy,e])
 have c23:∀ {x y},x/4=X2->y/4=X3->x≠y:=fun hx hy e=>t.d23 (by rw [<- hx,<- hy,e])
 have A1:opp a1/4=X1:=(od _).trans t.wa1
 have B1:opp b1/4=X2:=(od _).trans t.wb1
 have A2:opp a2/4=X2:=(od _).trans t.wa2
 have B2:opp b2/4=X3:=(od _).trans t.wb2
 have A3:opp a3/4=X3:=(od _).trans t.wa3
 have B3:opp b3/4=X1:=(od _).trans t.wb3
 rcases w with ⟨w1,w2,w3⟩|w|w|w|w|w|w
 · rcases hm with e|e|e|e|e|e
   · exact w2 (by rw [e];exact t.wa1)
   · exact w1 (by rw [e];exact t.wb1)
   · exact w1 (by rw [e];exact t.wa2)
   · exact w3 (by rw [e];exact t.wb2)
   · exact w3 (by rw [e];exact t.wa3)
   · exact w2 (by rw [e];exact t.wb3)
 · rw [w] at hm
   rcases hm with e|e|e|e|e|e
   · exact c12 t.wa1 B1 e.symm
   · exact g1 e
   · exact g2 e
   · exact c23 B1 t.wb2 e
   · exact c23 B1 t.wa3 e
   · exact c12 t.wb3 B1 e.symm
 · rw [w] at hm
   rcases hm with e|e|e|e|e|e
   · exact g6 e
   · exact c12 A1 t.wb1 e
   · exact c12 A1 t.wa2 e
   · exact c13 A1 t.wb2 e
   · exact c13 A1 t.wa3 e
   · exact g7 e
 · rw [w] at hm
   rcases hm with e|e|e|e|e|e
   · exact c12 t.wa1 A2 e.symm
   · exact g3 e
   · exact g4 e
   · exact c23 A2 t.wb2 e
   · exact c23 A2 t.wa3 e
   · exact c12 t.wb3 A2 e.symm
 · rw [w] at hm
   rcases hm with e|e|e|e|e|e
   · exact c13 t.wa1 B2 e.symm
   · exact c23 t.wb1 B2 e.symm
   · exact c23 t.wa2 B2 e.symm
   · exact g14 e
   · exact g13 e
   · exact c13 t.wb3 B2 e.symm
 · rw [w] at hm
   rcases hm with e|e|e|e|e|e
   · exact g8 e
   · exact c12 B3 t.wb1 e
   · exact c12 B3 t.wa2 e
   · exact c13 B3 t.wb2 e
   · exact c13 B3 t.wa3 e
   · exact g9 e
 · rw [w] at hm
   rcases hm with e|e|e|e|e|e
   · exact c13 t.wa1 A3 e.symm
   · exact c23 t.wb1 A3 e.symm
   · exact c23 t.wa2 A3 e.symm
   · exact g12 e
   · exact g11 e
   · exact c13 t.wb3 A3 e.symm
theorem TrF.rot (t:TrF M M2 n X1 X2 X3 a1 b1 a2 b2 a3 b3):TrF M M2 n X2 X3 X1 a2 b2 a3 b3 a1 b1 :=
 ⟨t.k,t.x2,t.x3,t.x1,t.d23,fun e=>t.d13 e.symm,fun e=>t.d12 e.symm,t.wa2,t.wb2,t.wa3,t.wb3,t.wa1,t.wb1,t.e2,t.e3,t.e1,t.p2,t.p3,t.p1,t.f2,t.f3,t.f1⟩
theorem TrF.mir (t:TrF M M2 n X1 X2 X3 a1 b1 a2 b2 a3 b3):TrF M M2 n X1 X3 X2 b3 a3 b2 a2 b1 a1 :=
 ⟨t.k,t.x1,t.x3,t.x2,t.d13,fun e=>t.d23 e.symm,t.d12,t.wb3,t.wa3,t.wb2,t.wa2,t.wb1,t.wa1,by rw [<- t.e3,t.k.inv _ (by have:=t.x3;have:=t.wa3;omega)],by rw [<- t.e2,t.k.inv _ (by have:=t.x2;have:=t.wa2;omega)],by rw [<- t.e1,t.k.inv _ (by have:=t.x1;have:=t.wa1;omega)],
  fun e=>t.p1 e.symm,fun e=>t.p3 e.symm,fun e=>t.p2 e.symm,t.f3.symm,t.f2.symm,t.f1.symm⟩
end
theorem jnF_comm {α:Nat->Nat} {u v:Nat} (h:u≠v):jnF α u v=jnF α v u:=by
 funext z
 unfold jnF
 by_cases h1:z=v
 · rw [if_pos h1,if_neg (fun e=>h (by rw [<- e,h1])),if_pos h1]
 · rw [if_neg h1]
   by_cases h2:z=u
   · rw [if_pos h2,if_pos h2]
   · rw [if_neg h2,if_neg h2,if_neg h1]
section
variable {S M:List Int} {L:Int}
set_option maxHeartbeats 2000000 in
theorem slide_mv {h i j p1 r1 p2 r2 p3 r3:Nat} (t:Trg M h i j) (hh:h<M.length)
 (ho:(if h%2=1/\mt M h%2=1 then 1 else 0)+(if i%2=1/\mt M i%2=1 then 1 else 0)+(if j%2=1/\mt M j%2=1 then 1 else 0)=1)
 (hu:(if h%2=0/\mt M h%2=0 then 1 else 0)+(if i%2=0/\mt M i%2=0 then 1 else 0)+(if j%2=0/\mt M j%2=0 then 1 else 0)=1)
 (q1:(p1=opp h/\r1=opp (mt M h))\/(p1=opp (mt M h)/\r1=opp h)) (q2:(p2=opp i/\r2=opp (mt M i))\/(p2=opp (mt M i)/\r2=opp i)) (q3:(p3=opp j/\r3=opp (mt M j))\/(p3=opp (mt M j)/\r3=opp j)) :
 MvQ S M L S (jnL (jnL (jnL (slL M (trT M h i j) (trO M h i j) M.length) p1 r1) p2 r2) p3 r3) L:=by
 intro hv hv' m hm
 have k:=valB_ok hv
 have hml:=k.m
 have i2:=ok_inv2 k
 have i2':=ok_inv2 (valB_ok hv')
 obtain ⟨a1,ha1⟩:∃ z,z=h:=⟨_,rfl⟩
 obtain ⟨b1,hb1⟩:∃ z,z=mt M h:=⟨_,rfl⟩
 obtain ⟨a2,ha2⟩:∃ z,z=i:=⟨_,rfl⟩
 obtain ⟨b2,hb2⟩:∃ z,z=mt M i:=⟨_,rfl⟩
 obtain ⟨a3,ha3⟩:∃ z,z=j:=⟨_,rfl⟩
 obtain ⟨b3,hb3⟩:∃ z,z=mt M j:=⟨_,rfl⟩
 have hI:trI M h i j=[a1,b1,a2,b2,a3,b3]:=by unfold trI;rw [ha1,hb1,ha2,hb2,ha3,hb3]
 have ti:=t.hi
 have tj:=t.hj
 have th:=t.hh
 have td1:=t.d1
 have td2:=t.d2
 have td3:=t.d3
 rw [<- hb1,<- ha2] at ti
 rw [<- hb2,<- ha3] at tj
 rw [<- hb3,<- ha1] at th
 rw [<- ha1,<- ha2] at td1
 rw [<- ha2,<- ha3] at td2
 rw [<- ha1,<- ha3] at td3
 rw [<- hb1,<- hb2,<- hb3,<- ha1,<- ha2,<- ha3] at ho hu
 rw [<- hb1,<- ha1] at q1
 rw [<- hb2,<- ha2] at q2
 rw [<- hb3,<- ha3] at q3
 have e1:mt M a1=b1:=by rw [ha1,hb1]
 have e2:mt M a2=b2:=by rw [ha2,hb2]
 have e3:mt M a3=b3:=by rw [ha3,hb3]
 have la1:a1<4*S.length:=by rw [ha1];omega
 have lb1:b1<4*S.length:=by rw [<- e1];exact i2.lt _ la1
 have w1:b1/4=a2/4/\b1%2≠a2%2:=by rw [ti];unfold turnN;omega
 have la2:a2<4*S.length:=by omega
 have lb2:b2<4*S.length:=by rw [<- e2];exact i2.lt _ la2
 have w2:b2/4=a3/4/\b2%2≠a3%2:=by rw [tj];unfold turnN;omega
 have la3:a3<4*S.length:=by omega
 have lb3:b3<4*S.length:=by rw [<- e3];exact i2.lt _ la3
 have w3:b3/4=a1/4/\b3%2≠a1%2:=by rw [<- th];unfold turnN;omega
 have e1':mt M b1=a1:=by rw [<- e1,i2.inv _ la1]
 have e2':mt M b2=a2:=by rw [<- e2,i2.inv _ la2]
 have e3':mt M b3=a3:=by rw [<- e3,i2.inv _ la3]
 obtain ⟨X1,hX1⟩:∃ z,z=a1/4:=⟨_,rfl⟩
 obtain ⟨X2,hX2⟩:∃ z,z=a2/4:=⟨_,rfl⟩
 obtain ⟨X3,hX3⟩:∃ z,z=a3/4:=⟨_,rfl⟩
 have A1:a1/4=X1:=hX1.symm
 have A2:a2/4=X2:=hX2.symm
 have A3:a3/4=X3:=hX3.symm
 have B1:b1/4=X2:=by rw [w1.1,A2]
 have B2:b2/4=X3:=by rw [w2.1,A3]
 have B3:b3/4=X1:=by rw [w3.1,A1]
 rw [A1,A2] at td1
 rw [A2,A3] at td2
 rw [A1,A3] at td3
 have hX1n:X1<S.length:=by omega
 have hX2n:X2<S.length:=by omega
 have hX3n:X3<S.length:=by omega
 have c12:∀ {x y},x/4=X1->y/4=X2->x≠y:=fun hx hy e=>td1 (by rw [<- hx,<- hy,e])
 have c23:∀ {x y},x/4=X2->y/4=X3->x≠y:=fun hx hy e=>td2 (by rw [<- hx,<- hy,e])
 have c13:∀ {x y},x/4=X1->y/4=X3->x≠y:=fun hx hy e=>td3 (by rw [<- hx,<- hy,e])
 have par:∀ {x y},x%2≠y%2->opp x≠y:=fun h e=>h (by rw [<- e,opp_mod])
 have oi:∀ z,z∈[a1,b1,a2,b2,a3,b3]->opp z ∉ [a1,b1,a2,b2,a3,b3]:=by
  intro z hz hm
  simp only [List.mem_cons,List.not_mem_nil,or_false] at hz hm
  have O1:=(opp_div a1).trans A1
  have O2:=(opp_div b1).trans B1
  have O3:=(opp_div a2).trans A2
  have O4:=(opp_div b2).trans B2
  have O5:=(opp_div a3).trans A3
  have O6:=(opp_div b3).trans B3
  rcases hz with rfl|rfl|rfl|rfl|rfl|rfl
  · rcases hm with e|e|e|e|e|e
    exact opp_ne _ e;exact c12 O1 B1 e;exact c12 O1 A2 e;exact c13 O1 B2 e;exact c13 O1 A3 e;exact par (fun e=>w3.2 e.symm) e
  · rcases hm with e|e|e|e|e|e
    exact c12 A1 O2 e.symm;exact opp_ne _ e;exact par w1.2 e;exact c23 O2 B2 e;exact c23 O2 A3 e;exact c12 B3 O2 e.symm
  · rcases hm with e|e|e|e|e|e
    exact c12 A1 O3 e.symm;exact par (fun e=>w1.2 e.symm) e;exact opp_ne _ e;exact c23 O3 B2 e;exact c23 O3 A3 e;exact c12 B3 O3 e.symm
  · rcases hm with e|e|e|e|e|e
    exact c13 A1 O4 e.symm;exact c23 B1 O4 e.symm;exact c23 A2 O4 e.symm;exact opp_ne _ e;exact par w2.2 e;exact c13 B3 O4 e.symm
  · rcases hm with e|e|e|e|e|e
    exact c13 A1 O5 e.symm;exact c23 B1 O5 e.symm;exact c23 A2 O5 e.symm;exact par (fun e=>w2.2 e.symm) e;exact opp_ne _ e;exact c13 B3 O5 e.symm
  · rcases hm with e|e|e|e|e|e
    exact par w3.2 e;exact c12 O6 B1 e;exact c12 O6 A2 e;exact c13 O6 B2 e;exact c13 O6 A3 e;exact opp_ne _ e
 have cl:∀ z,z∈[a1,b1,a2,b2,a3,b3]->mt M z∈[a1,b1,a2,b2,a3,b3]:=by
  intro z hz
  simp only [List.mem_cons,List.not_mem_nil,or_false] at hz
  rcases hz with rfl|rfl|rfl|rfl|rfl|rfl
  · rw [e1];simp
  · rw [e1'];simp
  · rw [e2];simp
  · rw [e2'];simp
  · rw [e3];simp
  · rw [e3'];simp
 have lI:∀ z,z∈[a1,b1,a2,b2,a3,b3]->z<4*S.length:=by
  intro z hz
  simp only [List.mem_cons,List.not_mem_nil,or_false] at hz
  rcases hz with e|e|e|e|e|e <;> rw [e] <;> assumption
 have xI:∀ z,z∈[a1,b1,a2,b2,a3,b3]->z/4=X1\/z/4=X2\/z/4=X3:=by
  intro z hz
  simp only [List.mem_cons,List.not_mem_nil,or_false] at hz
  rcases hz with rfl|rfl|rfl|rfl|rfl|rfl
  · exact .inl A1
  · exact .inr (.inl B1)
  · exact .inr (.inl A2)
  · exact .inr (.inr B2)
  · exact .inr (.inr A3)
  · exact .inl B3
 obtain ⟨T,hT⟩:∃ T,T=trT M h i j:=⟨_,rfl⟩
 obtain ⟨out,hout⟩:∃ o,o=trO M h i j:=⟨_,rfl⟩
 have T1:∀ z,opp z∈[a1,b1,a2,b2,a3,b3]->T z=mt M (opp z):=fun z hz=>by rw [hT];unfold trT;rw [hI,if_pos hz]
 have T2:∀ z,opp z ∉ [a1,b1,a2,b2,a3,b3]->T z=z:=fun z hz=>by rw [hT];unfold trT;rw [hI,if_neg hz]
 have To:∀ z,z∈[a1,b1,a2,b2,a3,b3]->T (opp z)=mt M z:=fun z hz=>by rw [T1 _ (by rw [opp_opp];exact hz),opp_opp]
 have O1:∀ z,out z=true ↔ opp z∈[a1,b1,a2,b2,a3,b3]:=fun z=>by rw [hout];unfold trO;rw [hI];exact decide_eq_true_iff
 rw [<- hT,<- hout] at i2' ⊢
 clear hT hout hv' hI ha1 ha2 ha3 hb1 hb2 hb3 hX1 hX2 hX3 ti tj th t
 have opl:∀ {z},z<4*S.length->opp z<4*S.length:=fun {z} hz=>by have:=opp_div z;omega
 have inn:∀ v,opp v∈[a1,b1,a2,b2,a3,b3]->v ∉ [a1,b1,a2,b2,a3,b3]:=fun v hv hm=>oi v hm hv
 obtain ⟨s1,s2⟩:=slL_mt (T:=T) (out:=out) hml i2 (fun z=>z ∉ [a1,b1,a2,b2,a3,b3]) (fun v hv hov=>inn v ((O1 v).1 hov)) (fun v hv hn hm=>hn (by rw [<- i2.inv v hv];exact cl _ hm)) (fun v hv=>by
  by_cases w:opp v∈[a1,b1,a2,b2,a3,b3]
  · rw [T1 v w];exact i2.lt _ (opl hv)
  · rw [T2 v w];exact hv) (fun x y hx hy nx ny e=>by
  by_cases wx:opp x∈[a1,b1,a2,b2,a3,b3]
  · rw [T1 x wx] at e
    by_cases wy:opp y∈[a1,b1,a2,b2,a3,b3]
    · rw [T1 y wy] at e
      have:=i2.inj _ _ (opl hx) (opl hy) e
      rw [<- opp_opp x,this,opp_opp]
    · rw [T2 y wy] at e
      exact absurd (by rw [<- e];exact cl _ wx) ny
  · rw [T2 x wx] at e
    by_cases wy:opp y∈[a1,b1,a2,b2,a3,b3]
    · rw [T1 y wy] at e
      exact absurd (by rw [e];exact cl _ wy) nx
    · rw [T2 y wy] at e;exact e) (4*S.length) (Nat.le_refl _)
 rw [hml] at i2' ⊢
 have l0:(slL M T out (4*S.length)).length=4*S.length:=by rw [slL_length,hml]
 have la1o:=opl la1
 have lb1o:=opl lb1
 have la2o:=opl la2
 have lb2o:=opl lb2
 have la3o:=opl la3
 have lb3o:=opl lb3
 have lp1:p1<4*S.length/\r1<4*S.length:=by rcases q1 with ⟨rfl,rfl⟩|⟨rfl,rfl⟩ <;> exact ⟨by assumption,by assumption⟩
 have lp2:p2<4*S.length/\r2<4*S.length:=by rcases q2 with ⟨rfl,rfl⟩|⟨rfl,rfl⟩ <;> exact ⟨by assumption,by assumption⟩
 have lp3:p3<4*S.length/\r3<4*S.length:=by rcases q3 with ⟨rfl,rfl⟩|⟨rfl,rfl⟩ <;> exact ⟨by assumption,by assumption⟩
 have hb:mt (jnL (jnL (jnL (slL M T out (4*S.length)) p1 r1) p2 r2) p3 r3)=jnF (jnF (jnF (mt (slL M T out (4*S.length))) p1 r1) p2 r2) p3 r3:=by
  rw [mt_jnL (by rw [jnL_length,jnL_length,l0];exact lp3.1) (by rw [jnL_length,jnL_length,l0];exact lp3.2),mt_jnL (by rw [jnL_length,l0];exact lp2.1) (by rw [jnL_length,l0];exact lp2.2),mt_jnL (by rw [l0];exact lp1.1) (by rw [l0];exact lp1.2)]
 have OA1:=(opp_div a1).trans A1
 have OB1:=(opp_div b1).trans B1
 have OA2:=(opp_div a2).trans A2
 have OB2:=(opp_div b2).trans B2
 have OA3:=(opp_div a3).trans A3
 have OB3:=(opp_div b3).trans B3
 have opr:∀ {x y},x%2≠y%2->opp x≠opp y:=fun h e=>h (by rw [<- opp_mod,e,opp_mod])
 have m13:opp a1≠opp b3:=opr (fun e=>w3.2 e.symm)
 have m12:opp b1≠opp a2:=opr w1.2
 have m23:opp b2≠opp a3:=opr w2.2
 have hb2:mt (jnL (jnL (jnL (slL M T out (4*S.length)) p1 r1) p2 r2) p3 r3)=jnF (jnF (jnF (mt (slL M T out (4*S.length))) (opp a1) (opp b1)) (opp a2) (opp b2)) (opp a3) (opp b3):=by
  rw [hb]
  have f1:∀ α:Nat->Nat,jnF α p1 r1=jnF α (opp a1) (opp b1):=fun α=>by
   rcases q1 with ⟨rfl,rfl⟩|⟨rfl,rfl⟩
   · rfl
   · exact (jnF_comm (c12 OA1 OB1)).symm
  have f2:∀ α:Nat->Nat,jnF α p2 r2=jnF α (opp a2) (opp b2):=fun α=>by
   rcases q2 with ⟨rfl,rfl⟩|⟨rfl,rfl⟩
   · rfl
   · exact (jnF_comm (c23 OA2 OB2)).symm
  have f3:∀ α:Nat->Nat,jnF α p3 r3=jnF α (opp a3) (opp b3):=fun α=>by
   rcases q3 with ⟨rfl,rfl⟩|⟨rfl,rfl⟩
   · rfl
   · exact jnF_comm (c13 OB3 OA3)
  rw [f1,f2,f3]
 obtain ⟨M2,hM2⟩:∃ M2,M2=jnL (jnL (jnL (slL M T out (4*S.length)) p1 r1) p2 r2) p3 r3:=⟨_,rfl⟩
 rw [<- hM2] at hb2 i2' ⊢
 clear hM2 hb q1 q2 q3 lp1 lp2 lp3
 have tf:TrF M M2 S.length X1 X2 X3 a1 b1 a2 b2 a3 b3:=by
  refine ⟨i2,hX1n,hX2n,hX3n,td1,td2,td3,A1,B1,A2,B2,A3,B3,e1,e2,e3,fun e=>w3.2 e.symm,fun e=>w1.2 e.symm,fun e=>w2.2 e.symm,⟨?_,?_⟩,⟨?_,?_⟩,⟨?_,?_⟩⟩ <;> rw [hb2]
  · rw [jn_3 _ (c13 OA1 OA3) m13,jn_3 _ (c12 OA1 OA2) (c13 OA1 OB2),jn_2 _ (c12 OA1 OB1)]
  · rw [jn_3 _ (c23 OB1 OA3) (c12 OB3 OB1).symm,jn_3 _ m12 (c23 OB1 OB2),jn_1]
  · rw [jn_3 _ (c23 OA2 OA3) (c12 OB3 OA2).symm,jn_2 _ (c23 OA2 OB2)]
  · rw [jn_3 _ m23 (c13 OB3 OB2).symm,jn_1]
  · rw [jn_2 _ (c13 OB3 OA3).symm]
  · rw [jn_1]
 have tt:∀ z,z/4≠X1->z/4≠X2->z/4≠X3->T z=z:=fun z h1 h2 h3=>T2 z (fun hm=>by
  have:=xI _ hm
  rw [opp_div] at this
  rcases this with e|e|e
  · exact h1 e
  · exact h2 e
  · exact h3 e)
 have q:∀ z,z<4*S.length->z ∉ [a1,b1,a2,b2,a3,b3]->mt M2 (T z)=T (mt M z):=by
  intro z hz hn
  have no:opp (T z) ∉ [a1,b1,a2,b2,a3,b3]:=by
   by_cases w:opp z∈[a1,b1,a2,b2,a3,b3]
   · rw [T1 z w];exact oi _ (cl _ w)
   · rw [T2 z w];exact w
  have nn:∀ v,v∈[a1,b1,a2,b2,a3,b3]->T z≠opp v:=fun v hv e=>no (by rw [e,opp_opp];exact hv)
  rw [hb2,jn_3 _ (nn a3 (by simp)) (nn b3 (by simp)),jn_3 _ (nn a2 (by simp)) (nn b2 (by simp)),jn_3 _ (nn a1 (by simp)) (nn b1 (by simp))]
  by_cases w:opp z∈[a1,b1,a2,b2,a3,b3]
  · exact (s1 z hz ((O1 z).2 w)).1
  · have hz2:=i2.lt z hz
    by_cases w2:opp (mt M z)∈[a1,b1,a2,b2,a3,b3]
    · have:=(s1 (mt M z) hz2 ((O1 _).2 w2)).2
      rw [i2.inv z hz] at this
      exact this
    · rw [T2 z w,T2 _ w2]
      refine s2 z (fun v hv hov=>⟨fun e=>?_,fun e=>?_⟩)
      · have hv2:=(O1 v).1 hov
        rw [T1 v hv2] at e
        exact hn (by rw [e];exact cl _ hv2)
      · have hv2:=(O1 v).1 hov
        by_cases w3:opp (mt M v)∈[a1,b1,a2,b2,a3,b3]
        · rw [T1 _ w3] at e
          exact hn (by rw [e];exact cl _ w3)
        · rw [T2 _ w3] at e
          exact w2 (by rw [e,i2.inv v hv];exact hv2)
 have ti:T (opp a1)=b1/\T (opp b1)=a1/\T (opp a2)=b2/\T (opp b2)=a2/\T (opp a3)=b3/\T (opp b3)=a3 :=
  ⟨by rw [To _ (by simp),e1],by rw [To _ (by simp),e1'],by rw [To _ (by simp),e2],by rw [To _ (by simp),e2'],by rw [To _ (by simp),e3],by rw [To _ (by simp),e3']⟩
 obtain ⟨t1,t2,t3,t4,t5,t6⟩:=ti
 clear s1 s2 T1 T2 To O1 hb2 oi cl lI xI c12 c13 c23 par inn hv
 have hov:(a1%2=1/\b1%2=1)\/(a2%2=1/\b2%2=1)\/(a3%2=1/\b3%2=1):=by
  by_cases c1:a1%2=1/\b1%2=1
  · exact .inl c1
  · by_cases c2:a2%2=1/\b2%2=1
    · exact .inr (.inl c2)
    · by_cases c3:a3%2=1/\b3%2=1
      · exact .inr (.inr c3)
      · rw [if_neg c1,if_neg c2,if_neg c3] at ho;omega
 have hun:(a1%2=0/\b1%2=0)\/(a2%2=0/\b2%2=0)\/(a3%2=0/\b3%2=0):=by
  by_cases c1:a1%2=0/\b1%2=0
  · exact .inl c1
  · by_cases c2:a2%2=0/\b2%2=0
    · exact .inr (.inl c2)
    · by_cases c3:a3%2=0/\b3%2=0
      · exact .inr (.inr c3)
      · rw [if_neg c1,if_neg c2,if_neg c3] at hu;omega
 have cnt:∀ {A B C v1 v2 v3 v4 v5 v6 v7 v8 v9 v10 v11 v12},Sld S.length (mt M) (mt M2) T A B C v1 v2 v3 v4 v5 v6 v7 v8 v9 v10 v11 v12->nFox S.length (mt M) m*m ^ L.toNat=nFox S.length (mt M2) m*m ^ L.toNat:=fun s=>by
  have:=Alike.count (k1:=0) (k2:=0) hm (s.alike i2 i2' hm) i2.lt i2'.lt
  rw [Nat.pow_zero,Nat.mul_one,Nat.mul_one] at this
  rw [this]
 clear ho hu
 rcases hov with o|o|o
 · rcases hun with u|u|u
   · omega
   · exact cnt (tf.sld12 o u ⟨t1,t2,t3,t4,t5,t6⟩ tt q)
   · exact cnt (tf.mir.rot.rot.sld12 ⟨o.2,o.1⟩ ⟨u.2,u.1⟩ ⟨t2,t1,t6,t5,t4,t3⟩ (fun z h1 h2 h3=>tt z h2 h1 h3) (fun z hz hn=>q z hz (fun hm2=>hn (by
      simp only [List.mem_cons,List.not_mem_nil,or_false] at hm2 ⊢
      rcases hm2 with e|e|e|e|e|e <;> simp [e]))))
 · rcases hun with u|u|u
   · exact cnt (tf.mir.rot.sld12 ⟨o.2,o.1⟩ ⟨u.2,u.1⟩ ⟨t4,t3,t2,t1,t6,t5⟩ (fun z h1 h2 h3=>tt z h3 h2 h1) (fun z hz hn=>q z hz (fun hm2=>hn (by
      simp only [List.mem_cons,List.not_mem_nil,or_false] at hm2 ⊢
      rcases hm2 with e|e|e|e|e|e <;> simp [e]))))
   · omega
   · exact cnt (tf.rot.sld12 o u ⟨t3,t4,t5,t6,t1,t2⟩ (fun z h1 h2 h3=>tt z h3 h1 h2) (fun z hz hn=>q z hz (fun hm2=>hn (by
      simp only [List.mem_cons,List.not_mem_nil,or_false] at hm2 ⊢
      rcases hm2 with e|e|e|e|e|e <;> simp [e]))))
 · rcases hun with u|u|u
   · exact cnt (tf.rot.rot.sld12 o u ⟨t5,t6,t1,t2,t3,t4⟩ (fun z h1 h2 h3=>tt z h2 h3 h1) (fun z hz hn=>q z hz (fun hm2=>hn (by
      simp only [List.mem_cons,List.not_mem_nil,or_false] at hm2 ⊢
      rcases hm2 with e|e|e|e|e|e <;> simp [e]))))
   · exact cnt (tf.mir.sld12 ⟨o.2,o.1⟩ ⟨u.2,u.1⟩ ⟨t6,t5,t4,t3,t2,t1⟩ (fun z h1 h2 h3=>tt z h1 h3 h2) (fun z hz hn=>q z hz (fun hm2=>hn (by
      simp only [List.mem_cons,List.not_mem_nil,or_false] at hm2 ⊢
      rcases hm2 with e|e|e|e|e|e <;> simp [e]))))
   · omega
end
end Go.Proofs.Ytfnmeigpfmeomaa
namespace Go.Proofs.Ytfnmeigpfmeomaa
open Go.RowKit
set_option linter.unusedVariables false
def PE (M:List Int) (x o n:Nat):Prop:=o<M.length/\n<M.length/\((o=x/\n=mt M x)\/(o=mt M x/\n=x))
def ovC (o n:Nat):Nat:=if o%2=1/\n%2=1 then 1 else 0
def unC (o n:Nat):Nat:=if o%2=0/\n%2=0 then 1 else 0
theorem ovC_le (o n:Nat):ovC o n<=1:=by unfold ovC;split <;> omega
theorem unC_le (o n:Nat):unC o n<=1:=by unfold unC;split <;> omega
def TriR (M:List Int) (h:Nat) (e:Ending):Prop:=(e=.returned (.tuple #[.agg #[.int .i64 0,.int .i64 0,.int .i64 0,.int .i64 0,.int .i64 0,.int .i64 0,.int .i64 0,.int .i64 0,.int .i64 0,.int .i64 0,.int .i64 0,.int .i64 0],.bool false])) \/
 ∃ i1 j1 o1 n1 o2 n2 o3 n3:Nat,∃ b:Bool,e=.returned (.tuple #[.agg #[.int .i64 (opp o1:Nat),.int .i64 (o1:Nat),.int .i64 (n1:Nat),.int .i64 (opp n1:Nat),.int .i64 (opp o2:Nat),.int .i64 (o2:Nat),.int .i64 (n2:Nat),.int .i64 (opp n2:Nat),.int .i64 (opp o3:Nat),.int .i64 (o3:Nat),.int .i64 (n3:Nat),.int .i64 (opp n3:Nat)],.bool b])/\PE M h o1 n1/\PE M i1 o2 n2/\PE M j1 o3 n3/\(b=true->Trg M h i1 j1/\ovC o1 n1+ovC o2 n2+ovC o3 n3=1/\unC o1 n1+unC o2 n2+unC o3 n3=1)
theorem info_tri:(Try.prog.info? 76).map (·.size)=some 12:=by kernel_rfl
set_option maxHeartbeats 8000000 in
set_option maxRecDepth 100000 in
theorem triangle_any (vs vm:Value) (S M:List Int) (L:Int) (h:Nat) (w:World) (hS:Ints w vs S) (hM:Ints w vm M) (k:Ok S M L) (hh:h<4*S.length) (hn:S.length<=7) :
 Calls Try.prog 42 #[.agg #[vs,vm,.int .i64 L],.int .i64 (h:Nat)] w fun e w'=>TriR M h e/\Below w.heap.size w w':=by
 have hm4:=k.m
 have HLM:=Lib.hid (show M.length=4*S.length/\S.length<=7 from ⟨hm4,hn⟩)
 have hnx:∀ W,Below w.heap.size w W->∀ x:Nat,x<M.length->Calls Try.prog 44 #[vm,.int .i64 (x:Nat)] W fun e w'=>e=.returned (.int .i64 (turnN (mt M x) 3:Nat))/\W=w':=fun W hb x hx=>next_any vm M x W (hM.below hb) hx (k.pos x hx) (by have:=k.lt x hx;omega)
 have HOG:=Lib.hid (fun W (hb:Below w.heap.size w W) (x:Nat) (hx:x<M.length)=>moutgoing_any vs vm S M L x W (hS.below hb) (hM.below hb) (by omega) (by omega))
 have GM:=Lib.hid (fun W (hb:Below w.heap.size w W)=>hM.below hb)
 have HOP:=Lib.hid (fun (x:Nat) (hx:x<M.length) W=>opposite_any x W (by omega))
 have HOK:=Lib.hid k
 have HLT:=Lib.hid (fun x (hx:x<M.length)=>show turnN (mt M x) 3<M.length from by have:=k.lt x hx;unfold turnN;omega)
 have hhl:h<M.length:=by omega
 have HHL:=Lib.hid hhl
 obtain ⟨i1,hi1⟩:∃ z,z=turnN (mt M h) 3:=⟨_,rfl⟩
 have hil:i1<M.length:=by rw [hi1];exact HLT.out h hhl
 obtain ⟨j1,hj1⟩:∃ z,z=turnN (mt M i1) 3:=⟨_,rfl⟩
 have hjl:j1<M.length:=by rw [hj1];exact HLT.out i1 hil
 obtain ⟨k1,hk1⟩:∃ z,z=turnN (mt M j1) 3:=⟨_,rfl⟩
 have HN1:=Lib.hid (fun W (hb:Below w.heap.size w W)=>hnx W hb h hhl)
 have HN2:=Lib.hid (fun W (hb:Below w.heap.size w W)=>hnx W hb i1 hil)
 have HN3:=Lib.hid (fun W (hb:Below w.heap.size w W)=>hnx W hb j1 hjl)
 rw [<- hi1] at HN1
 rw [<- hj1] at HN2
 rw [<- hk1] at HN3
 have HIL:=Lib.hid hil
 have HJL:=Lib.hid hjl
 have HTR:=Lib.hid (fun (e:k1=h) (d1:h/4≠i1/4) (d2:i1/4≠j1/4) (d3:h/4≠j1/4)=>show Trg M h i1 j1 from ⟨hi1,hj1,by rw [<- hk1];exact e,d1,d2,d3⟩)
 obtain ⟨A,cs,rfl,hcs,hx1⟩:=hS
 obtain ⟨A2,c2,rfl,hc2,hx2⟩:=hM
 clear hx1 hx2 hi1 hj1 hk1 hhl hil hjl hnx k hm4 hh hn
 have hW:∀ W,W=((w.alloc (.cells #[.slice A S.length cs,.slice A2 M.length c2,.int .i64 L] 24)).alloc (.cells #[.int .i64 0,.int .i64 0,.int .i64 0,.int .i64 0,.int .i64 0,.int .i64 0,.int .i64 0,.int .i64 0,.int .i64 0,.int .i64 0,.int .i64 0,.int .i64 0] 76)).alloc (.cells #[.int .i64 0,.int .i64 0,.int .i64 0,.int .i64 0,.int .i64 0,.int .i64 0,.int .i64 0,.int .i64 0,.int .i64 0,.int .i64 0,.int .i64 0,.int .i64 0] 76)->Arr W w.heap.size 24 [.slice A S.length cs,.slice A2 M.length c2,.int .i64 L]/\Arr W (w.heap.size+1) 76 [.int .i64 0,.int .i64 0,.int .i64 0,.int .i64 0,.int .i64 0,.int .i64 0,.int .i64 0,.int .i64 0,.int .i64 0,.int .i64 0,.int .i64 0,.int .i64 0]/\Arr W (w.heap.size+2) 76 [.int .i64 0,.int .i64 0,.int .i64 0,.int .i64 0,.int .i64 0,.int .i64 0,.int .i64 0,.int .i64 0,.int .i64 0,.int .i64 0,.int .i64 0,.int .i64 0]/\Below w.heap.size w W:=by
  intro W hW
  subst hW
  exact ⟨((Arr.new _ _ [_,_,_]).alloc _).alloc _,(Arr.newAt (w.alloc _) _ [_,_,_,_,_,_,_,_,_,_,_,_] _ (by simp)).alloc _,Arr.newAt ((w.alloc _).alloc _) _ [_,_,_,_,_,_,_,_,_,_,_,_] _ (by simp),(((Below.refl _ _).alloc (Nat.le_refl _) _).alloc (by simp) _).alloc (by simp <;> omega) _⟩
 go_enter Try.func42,Try.ntmps42
 go_upto_region 2 with fail
 have hW3:=hW _ rfl
 clear hW
 generalize ((w.alloc (.cells #[.slice A S.length cs,.slice A2 M.length c2,.int .i64 L] 24)).alloc (.cells #[.int .i64 0,.int .i64 0,.int .i64 0,.int .i64 0,.int .i64 0,.int .i64 0,.int .i64 0,.int .i64 0,.int .i64 0,.int .i64 0,.int .i64 0,.int .i64 0] 76)).alloc (.cells #[.int .i64 0,.int .i64 0,.int .i64 0,.int .i64 0,.int .i64 0,.int .i64 0,.int .i64 0,.int .i64 0,.int .i64 0,.int .i64 0,.int .i64 0,.int .i64 0] 76)=w3 at hW3 ⊢
 have y1:=hW3.1.cell 1
 have HW:=Lib.hid hW3
 clear hW3
 go_upto_region 3 with (go_at_call 44;refine (HN1.out _ HW.out.2.2.2).mono ?_;rintro e w5 ⟨rfl,rfl⟩)
 go_upto_region 4 with (go_at_call 44;refine (HN2.out _ HW.out.2.2.2).mono ?_;rintro e w5 ⟨rfl,rfl⟩)
 obtain ⟨hq,hhq⟩:∃ q,q=h/4:=⟨_,rfl⟩
 obtain ⟨iq,hiq⟩:∃ q,q=i1/4:=⟨_,rfl⟩
 obtain ⟨jq,hjq⟩:∃ q,q=j1/4:=⟨_,rfl⟩
 have eh:(h:Int)/4=(hq:Int):=by omega
 have ei:(i1:Int)/4=(iq:Int):=by omega
 have ej:(j1:Int)/4=(jq:Int):=by omega
 have bh:(hq:Int)<1000:=by have h1:=HHL.out;have h2:=HLM.out;omega
 have bi:(iq:Int)<1000:=by have h1:=HIL.out;have h2:=HLM.out;omega
 have bj:(jq:Int)<1000:=by have h1:=HJL.out;have h2:=HLM.out;omega
 rw [<- hhq,<- hiq,<- hjq] at HTR
 clear hhq hiq hjq
 have HRZ:=Lib.hid (show TriR M h (.returned (.tuple #[.agg #[.int .i64 0,.int .i64 0,.int .i64 0,.int .i64 0,.int .i64 0,.int .i64 0,.int .i64 0,.int .i64 0,.int .i64 0,.int .i64 0,.int .i64 0,.int .i64 0],.bool false])) from .inl rfl)
 go_cut [48] (fun s48 wx=>wx=w3/\∃ b:Bool,s48=.bool b/\(b=false->Trg M h i1 j1))
 case first =>
  by_cases u1:k1=h
  rotate_left
  · have z1:((k1:Int) != (h:Int))=true:=by simp;omega
    clear u1
    go_wp2_with (first|(go_at_call 44;refine (HN3.out _ HW.out.2.2.2).mono ?_;rintro e w5 ⟨rfl,rfl⟩))
    go_meet
    exact ⟨rfl,true,rfl,fun h=>absurd h (by decide)⟩
  have zk:((k1:Int) != (h:Int))=false:=by simp [u1]
  by_cases u2:hq=iq
  · have z2:((hq:Int)==(iq:Int))=true:=by simp [u2]
    clear u1 u2
    go_wp2_with (first|(go_at_call 44;refine (HN3.out _ HW.out.2.2.2).mono ?_;rintro e w5 ⟨rfl,rfl⟩))
    go_meet
    exact ⟨rfl,true,rfl,fun h=>absurd h (by decide)⟩
  have zhi:((hq:Int)==(iq:Int))=false:=by simp;omega
  by_cases u3:iq=jq
  · have z3:((iq:Int)==(jq:Int))=true:=by simp [u3]
    clear u1 u2 u3
    go_wp2_with (first|(go_at_call 44;refine (HN3.out _ HW.out.2.2.2).mono ?_;rintro e w5 ⟨rfl,rfl⟩))
    go_meet
    exact ⟨rfl,true,rfl,fun h=>absurd h (by decide)⟩
  have zij:((iq:Int)==(jq:Int))=false:=by simp;omega
  by_cases u4:hq=jq
  · have z4:((hq:Int)==(jq:Int))=true:=by simp [u4]
    clear u1 u2 u3 u4
    go_wp2_with (first|(go_at_call 44;refine (HN3.out _ HW.out.2.2.2).mono ?_;rintro e w5 ⟨rfl,rfl⟩))
    go_meet
    exact ⟨rfl,true,rfl,fun h=>absurd h (by decide)⟩
  have zhj:((hq:Int)==(jq:Int))=false:=by simp;omega
  have HTG:=Lib.hid (HTR.out u1 u2 u3 u4)
  clear u1 u2 u3 u4
  go_wp2_with (first|(go_at_call 44;refine (HN3.out _ HW.out.2.2.2).mono ?_;rintro e w5 ⟨rfl,rfl⟩))
  go_meet
  exact ⟨rfl,false,rfl,fun _=>HTG.out⟩
 case rest =>
 obtain ⟨rfl,bq,rfl,hbq⟩:=hcut
 have HBQ:=Lib.hid hbq
 clear hbq y1 eh ei ej HTR HN1 HN2 HN3
 cases bq
 rotate_left
 · clear HBQ
   go_upto_region 5 with fail
   have HA:=Lib.hid (((((((((((((HW.out.2.1.set 0 (.int .i64 0)).set 1 (.int .i64 0)).set 2 (.int .i64 0)).set 3 (.int .i64 0)).set 4 (.int .i64 0)).set 5 (.int .i64 0)).set 6 (.int .i64 0)).set 7 (.int .i64 0)).set 8 (.int .i64 0)).set 9 (.int .i64 0)).set 10 (.int .i64 0)).set 11 (.int .i64 0)))
   have HB:=Lib.hid (((((((((((((HW.out.2.2.2.setCell (p:=⟨w.heap.size+1,0,none⟩) (by simp) (.int .i64 0)).setCell (p:=⟨w.heap.size+1,1,none⟩) (by simp) (.int .i64 0)).setCell (p:=⟨w.heap.size+1,2,none⟩) (by simp) (.int .i64 0)).setCell (p:=⟨w.heap.size+1,3,none⟩) (by simp) (.int .i64 0)).setCell (p:=⟨w.heap.size+1,4,none⟩) (by simp) (.int .i64 0)).setCell (p:=⟨w.heap.size+1,5,none⟩) (by simp) (.int .i64 0)).setCell (p:=⟨w.heap.size+1,6,none⟩) (by simp) (.int .i64 0)).setCell (p:=⟨w.heap.size+1,7,none⟩) (by simp) (.int .i64 0)).setCell (p:=⟨w.heap.size+1,8,none⟩) (by simp) (.int .i64 0)).setCell (p:=⟨w.heap.size+1,9,none⟩) (by simp) (.int .i64 0)).setCell (p:=⟨w.heap.size+1,10,none⟩) (by simp) (.int .i64 0)).setCell (p:=⟨w.heap.size+1,11,none⟩) (by simp) (.int .i64 0)))
   have a0:=HW.out.2.1.cell 0
   have f0:=HW.out.2.1.frozen 0
   have b0:=HW.out.2.2.1.cell 0
   have a1:=HW.out.2.1.cell 1
   have f1:=HW.out.2.1.frozen 1
   have b1:=HW.out.2.2.1.cell 1
   have a2:=HW.out.2.1.cell 2
   have f2:=HW.out.2.1.frozen 2
   have b2:=HW.out.2.2.1.cell 2
   have a3:=HW.out.2.1.cell 3
   have f3:=HW.out.2.1.frozen 3
   have b3:=HW.out.2.2.1.cell 3
   have a4:=HW.out.2.1.cell 4
   have f4:=HW.out.2.1.frozen 4
   have b4:=HW.out.2.2.1.cell 4
   have a5:=HW.out.2.1.cell 5
   have f5:=HW.out.2.1.frozen 5
   have b5:=HW.out.2.2.1.cell 5
   have a6:=HW.out.2.1.cell 6
   have f6:=HW.out.2.1.frozen 6
   have b6:=HW.out.2.2.1.cell 6
   have a7:=HW.out.2.1.cell 7
   have f7:=HW.out.2.1.frozen 7
   have b7:=HW.out.2.2.1.cell 7
   have a8:=HW.out.2.1.cell 8
   have f8:=HW.out.2.1.frozen 8
   have b8:=HW.out.2.2.1.cell 8
   have a9:=HW.out.2.1.cell 9
   have f9:=HW.out.2.1.frozen 9
   have b9:=HW.out.2.2.1.cell 9
   have a10:=HW.out.2.1.cell 10
   have f10:=HW.out.2.1.frozen 10
   have b10:=HW.out.2.2.1.cell 10
   have a11:=HW.out.2.1.cell 11
   have f11:=HW.out.2.1.frozen 11
   have b11:=HW.out.2.2.1.cell 11
   go_wp2_with fail
   refine bodyPost_ret (v:=.tuple #[.agg (rowOf [.int .i64 0,.int .i64 0,.int .i64 0,.int .i64 0,.int .i64 0,.int .i64 0,.int .i64 0,.int .i64 0,.int .i64 0,.int .i64 0,.int .i64 0,.int .i64 0]),.bool false]) (results_ct Try.results42 _ _ (w.heap.size+1) 76 _ _ rfl HA.out Try.underlying76 rfl info_tri) rfl ?_
   exact ⟨HRZ.out,HB.out⟩
 have HTG:=Lib.hid (HBQ.out rfl)
 clear HBQ
 clear HRZ
 go_upto_region 6 with fail
 go_wp2_with fail
 go_loopg [9,10,54] 3 (fun gk s9 s10 s54 wr=>Arr wr w.heap.size 24 [.slice A S.length cs,.slice A2 M.length c2,.int .i64 L]/\Arr wr (w.heap.size+1) 76 [.int .i64 0,.int .i64 0,.int .i64 0,.int .i64 0,.int .i64 0,.int .i64 0,.int .i64 0,.int .i64 0,.int .i64 0,.int .i64 0,.int .i64 0,.int .i64 0]/\Below w.heap.size w wr/\((gk=3/\s54=.int .i64 0/\Hid (s9=.int .i64 ((0:Nat):Int)/\s10=.int .i64 ((0:Nat):Int)/\Arr wr (w.heap.size+2) 76 [.int .i64 0,.int .i64 0,.int .i64 0,.int .i64 0,.int .i64 0,.int .i64 0,.int .i64 0,.int .i64 0,.int .i64 0,.int .i64 0,.int .i64 0,.int .i64 0]))\/(gk=2/\s54=.int .i64 1/\Hid (∃ o1 n1:Nat,PE M h o1 n1/\s9=.int .i64 ((ovC o1 n1:Nat):Int)/\s10=.int .i64 ((unC o1 n1:Nat):Int)/\Arr wr (w.heap.size+2) 76 [.int .i64 (opp o1:Nat),.int .i64 (o1:Nat),.int .i64 (n1:Nat),.int .i64 (opp n1:Nat),.int .i64 0,.int .i64 0,.int .i64 0,.int .i64 0,.int .i64 0,.int .i64 0,.int .i64 0,.int .i64 0]))\/(gk=1/\s54=.int .i64 2/\Hid (∃ o1 n1 o2 n2:Nat,PE M h o1 n1/\PE M i1 o2 n2/\s9=.int .i64 ((ovC o1 n1+ovC o2 n2:Nat):Int)/\s10=.int .i64 ((unC o1 n1+unC o2 n2:Nat):Int)/\Arr wr (w.heap.size+2) 76 [.int .i64 (opp o1:Nat),.int .i64 (o1:Nat),.int .i64 (n1:Nat),.int .i64 (opp n1:Nat),.int .i64 (opp o2:Nat),.int .i64 (o2:Nat),.int .i64 (n2:Nat),.int .i64 (opp n2:Nat),.int .i64 0,.int .i64 0,.int .i64 0,.int .i64 0]))\/(gk=0/\s54=.int .i64 3/\Hid (∃ o1 n1 o2 n2 o3 n3:Nat,PE M h o1 n1/\PE M i1 o2 n2/\PE M j1 o3 n3/\s9=.int .i64 ((ovC o1 n1+ovC o2 n2+ovC o3 n3:Nat):Int)/\s10=.int .i64 ((unC o1 n1+unC o2 n2+unC o3 n3:Nat):Int)/\Arr wr (w.heap.size+2) 76 [.int .i64 (opp o1:Nat),.int .i64 (o1:Nat),.int .i64 (n1:Nat),.int .i64 (opp n1:Nat),.int .i64 (opp o2:Nat),.int .i64 (o2:Nat),.int .i64 (n2:Nat),.int .i64 (opp n2:Nat),.int .i64 (opp o3:Nat),.int .i64 (o3:Nat),.int .i64 (n3:Nat),.int .i64 (opp n3:Nat)]))))
 case atStart=>exact ⟨HW.out.1,HW.out.2.1,HW.out.2.2.2,.inl ⟨rfl,rfl,Lib.hid ⟨rfl,rfl,HW.out.2.2.1⟩⟩⟩
 case round =>
  clear HW
  obtain ⟨qa,qz,qb,hrel⟩:=hrel
  rcases hrel with ⟨rfl,rfl,hr⟩|⟨rfl,rfl,hr⟩|⟨rfl,rfl,hr⟩|⟨rfl,rfl,hr⟩
  · obtain ⟨rfl,rfl,qe⟩:=hr.out
    clear hr
    have y0:=qa.cell 0
    have y1:=qa.cell 1
    have y2:=qa.cell 2
    have QZ:=Lib.hid qz
    have QE:=Lib.hid qe
    have QA:=Lib.hid qa
    have QB:=Lib.hid qb
    obtain ⟨bm,om,hA2,hbm,yx⟩:=ints_mt (GM.out wr qb) HHL.out (HOK.out.pos h HHL.out)
    subst hA2
    clear qz qe qa qb yx hbm
    have ix:∀ w,(Instr.index 91 (.agg #[.int .i64 (h:Nat),.int .i64 (i1:Nat),.int .i64 (j1:Nat)]) (.int .i64 0)).run Try.prog w=.ok (.int .i64 (h:Nat)) w:=fun _=>by kernel_rfl
    go_upto_if 61 with (go_at_call 53;refine (HOG.out _ QB.out h HHL.out).mono ?_;rintro e w6 ⟨⟨og,rfl⟩,hb6⟩)
    clear y0 y1 y2 ix
    have QB6:=Lib.hid (QB.out.trans (hb6.mono QB.out.size))
    have QA6:=Lib.hid (QA.out.below hb6 QA.out.lt)
    have QZ6:=Lib.hid (QZ.out.below hb6 QZ.out.lt)
    have QE6:=Lib.hid (QE.out.below hb6 QE.out.lt)
    clear QB QA QZ QE hb6
    go_cut [12] (fun s12 wx=>wx=w6/\∃ o_:Nat,s12=.int .i64 (o_:Nat)/\o_<M.length/\PE M h o_ (mt M o_))
    case first =>
     cases og
     · have y1:=QA6.out.cell 1
       obtain ⟨b_,o_,e_,_,yx⟩:=ints_mt (GM.out w6 QB6.out) HHL.out (HOK.out.pos h HHL.out)
       injection e_ with e_
       injection e_ with e_ e2_
       subst e_ e2_
       have zx:(h:Int)<(M.length:Int):=by have:=HHL.out;omega
       go_wp2_with fail
       go_meet
       exact ⟨rfl,mt M h,rfl,HOK.out.lt _ HHL.out,HOK.out.lt _ HHL.out,by rw [(ok_inv2 HOK.out).inv h (by have h1:=HHL.out;have h2:=HLM.out;omega)];exact HHL.out,.inr ⟨rfl,(ok_inv2 HOK.out).inv h (by have h1:=HHL.out;have h2:=HLM.out;omega)⟩⟩
     · go_wp2_with fail
       go_meet
       exact ⟨rfl,h,rfl,HHL.out,HHL.out,HOK.out.lt _ HHL.out,.inl ⟨rfl,rfl⟩⟩
    case rest =>
     obtain ⟨rfl,o1,rfl,hol,hpe⟩:=hcut
     obtain ⟨n1,hnn⟩:∃ z,z=mt M o1:=⟨_,rfl⟩
     have HOL:=Lib.hid hol
     rw [<- hnn] at hpe
     have HPE:=Lib.hid hpe
     have HNL:=Lib.hid hpe.2.1
     obtain ⟨b_,o_,e_,_,yx⟩:=ints_mt (GM.out wc QB6.out) hol (HOK.out.pos o1 hol)
     injection e_ with e_
     injection e_ with e_ e2_
     subst e_ e2_
     rw [<- hnn] at yx
     have zx:(o1:Int)<(M.length:Int):=by omega
     have y1:=QA6.out.cell 1
     clear hnn hol hpe
     go_upto_region 13 with fail
     clear yx zx y1
     obtain ⟨oo,hoo⟩:∃ z,z=opp o1:=⟨_,rfl⟩
     obtain ⟨nno,hno⟩:∃ z,z=opp n1:=⟨_,rfl⟩
     have HO1:=Lib.hid (HOP.out o1 HOL.out)
     have HO2:=Lib.hid (HOP.out n1 HNL.out)
     rw [<- hoo] at HO1
     rw [<- hno] at HO2
     have HOO:=Lib.hid (And.intro hoo hno)
     clear hoo hno
     have c0:=QE6.out.cell 0
     have f0:=QE6.out.frozen 0
     have c1:=QE6.out.cell 1
     have f1:=QE6.out.frozen 1
     have c2:=QE6.out.cell 2
     have f2:=QE6.out.frozen 2
     have c3:=QE6.out.cell 3
     have f3:=QE6.out.frozen 3
     have HR1:=Lib.hid ((((QA6.out.far (p:=⟨w.heap.size+2,0,none⟩) (by simp) (.int .i64 (oo:Nat))).far (p:=⟨w.heap.size+2,1,none⟩) (by simp) (.int .i64 (o1:Nat))).far (p:=⟨w.heap.size+2,2,none⟩) (by simp) (.int .i64 (n1:Nat))).far (p:=⟨w.heap.size+2,3,none⟩) (by simp) (.int .i64 (nno:Nat)))
     have HR2:=Lib.hid ((((QZ6.out.far (p:=⟨w.heap.size+2,0,none⟩) (by simp) (.int .i64 (oo:Nat))).far (p:=⟨w.heap.size+2,1,none⟩) (by simp) (.int .i64 (o1:Nat))).far (p:=⟨w.heap.size+2,2,none⟩) (by simp) (.int .i64 (n1:Nat))).far (p:=⟨w.heap.size+2,3,none⟩) (by simp) (.int .i64 (nno:Nat)))
     have HR3:=Lib.hid ((((QE6.out.set 0 (.int .i64 (oo:Nat))).set 1 (.int .i64 (o1:Nat))).set 2 (.int .i64 (n1:Nat))).set 3 (.int .i64 (nno:Nat)))
     have HR4:=Lib.hid ((((QB6.out.setCell (p:=⟨w.heap.size+2,0,none⟩) (by simp) (.int .i64 (oo:Nat))).setCell (p:=⟨w.heap.size+2,1,none⟩) (by simp) (.int .i64 (o1:Nat))).setCell (p:=⟨w.heap.size+2,2,none⟩) (by simp) (.int .i64 (n1:Nat))).setCell (p:=⟨w.heap.size+2,3,none⟩) (by simp) (.int .i64 (nno:Nat)))
     go_upto_region 14 with (first|(go_at_call_of 55 (Value.int .i64 (o1:Int));refine (HO1.out _).mono ?_;rintro e w7 ⟨rfl,rfl⟩)|(go_at_call_of 55 (Value.int .i64 (n1:Int));refine (HO2.out _).mono ?_;rintro e w7 ⟨rfl,rfl⟩))
     clear c0 c1 c2 c3 f0 f1 f2 f3
     generalize ((((wc.setCell ⟨w.heap.size+2,0,none⟩ (.int .i64 (oo:Nat))).setCell ⟨w.heap.size+2,1,none⟩ (.int .i64 (o1:Nat))).setCell ⟨w.heap.size+2,2,none⟩ (.int .i64 (n1:Nat))).setCell ⟨w.heap.size+2,3,none⟩ (.int .i64 (nno:Nat)))=w7 at *
     rw [HOO.out.1,HOO.out.2] at HR3
     by_cases po:o1%2=1
     · have zo:(o1:Int)%2=1:=by omega
       by_cases pn:n1%2=1
       · have zn:(n1:Int)%2=1:=by omega
         have ho_:ovC o1 n1=1:=by unfold ovC;simp;omega
         have hu_:unC o1 n1=0:=by unfold unC;simp;omega
         clear po pn
         go_wp2_with fail
         go_roundg 2
         case measure=>omega
         case rel=>exact ⟨HR1.out,HR2.out,HR4.out,.inr (.inl ⟨rfl,by go_num,Lib.hid ⟨o1,n1,HPE.out,by rw [ho_] <;> go_num,by rw [hu_] <;> go_num,HR3.out⟩⟩)⟩
       · have zn:(n1:Int)%2=0:=by omega
         have ho_:ovC o1 n1=0:=by unfold ovC;simp;omega
         have hu_:unC o1 n1=0:=by unfold unC;simp;omega
         clear po pn
         go_wp2_with fail
         go_roundg 2
         case measure=>omega
         case rel=>exact ⟨HR1.out,HR2.out,HR4.out,.inr (.inl ⟨rfl,by go_num,Lib.hid ⟨o1,n1,HPE.out,by rw [ho_] <;> go_num,by rw [hu_] <;> go_num,HR3.out⟩⟩)⟩
     · have zo:(o1:Int)%2=0:=by omega
       by_cases pn:n1%2=1
       · have zn:(n1:Int)%2=1:=by omega
         have ho_:ovC o1 n1=0:=by unfold ovC;simp;omega
         have hu_:unC o1 n1=0:=by unfold unC;simp;omega
         clear po pn
         go_wp2_with fail
         go_roundg 2
         case measure=>omega
         case rel=>exact ⟨HR1.out,HR2.out,HR4.out,.inr (.inl ⟨rfl,by go_num,Lib.hid ⟨o1,n1,HPE.out,by rw [ho_] <;> go_num,by rw [hu_] <;> go_num,HR3.out⟩⟩)⟩
       · have zn:(n1:Int)%2=0:=by omega
         have ho_:ovC o1 n1=0:=by unfold ovC;simp;omega
         have hu_:unC o1 n1=1:=by unfold unC;simp;omega
         clear po pn
         go_wp2_with fail
         go_roundg 2
         case measure=>omega
         case rel=>exact ⟨HR1.out,HR2.out,HR4.out,.inr (.inl ⟨rfl,by go_num,Lib.hid ⟨o1,n1,HPE.out,by rw [ho_] <;> go_num,by rw [hu_] <;> go_num,HR3.out⟩⟩)⟩
  · obtain ⟨o1,n1,hp1,rfl,rfl,qe⟩:=hr.out
    clear hr
    have HP1:=Lib.hid hp1
    clear hp1
    obtain ⟨ov,hov⟩:∃ z,z=ovC o1 n1:=⟨_,rfl⟩
    have Hov:=Lib.hid hov
    have Bov:ov<=1:=by rw [hov];have:=ovC_le o1 n1;omega
    rw [<- hov]
    clear hov
    obtain ⟨un,hun⟩:∃ z,z=unC o1 n1:=⟨_,rfl⟩
    have Hun:=Lib.hid hun
    have Bun:un<=1:=by rw [hun];have:=unC_le o1 n1;omega
    rw [<- hun]
    clear hun
    have y0:=qa.cell 0
    have y1:=qa.cell 1
    have y2:=qa.cell 2
    have QZ:=Lib.hid qz
    have QE:=Lib.hid qe
    have QA:=Lib.hid qa
    have QB:=Lib.hid qb
    obtain ⟨bm,om,hA2,hbm,yx⟩:=ints_mt (GM.out wr qb) HIL.out (HOK.out.pos i1 HIL.out)
    subst hA2
    clear qz qe qa qb yx hbm
    have ix:∀ w,(Instr.index 91 (.agg #[.int .i64 (h:Nat),.int .i64 (i1:Nat),.int .i64 (j1:Nat)]) (.int .i64 1)).run Try.prog w=.ok (.int .i64 (i1:Nat)) w:=fun _=>by kernel_rfl
    go_upto_if 61 with (go_at_call 53;refine (HOG.out _ QB.out i1 HIL.out).mono ?_;rintro e w6 ⟨⟨og,rfl⟩,hb6⟩)
    clear y0 y1 y2 ix
    have QB6:=Lib.hid (QB.out.trans (hb6.mono QB.out.size))
    have QA6:=Lib.hid (QA.out.below hb6 QA.out.lt)
    have QZ6:=Lib.hid (QZ.out.below hb6 QZ.out.lt)
    have QE6:=Lib.hid (QE.out.below hb6 QE.out.lt)
    clear QB QA QZ QE hb6
    go_cut [12] (fun s12 wx=>wx=w6/\∃ o_:Nat,s12=.int .i64 (o_:Nat)/\o_<M.length/\PE M i1 o_ (mt M o_))
    case first =>
     cases og
     · have y1:=QA6.out.cell 1
       obtain ⟨b_,o_,e_,_,yx⟩:=ints_mt (GM.out w6 QB6.out) HIL.out (HOK.out.pos i1 HIL.out)
       injection e_ with e_
       injection e_ with e_ e2_
       subst e_ e2_
       have zx:(i1:Int)<(M.length:Int):=by have:=HIL.out;omega
       go_wp2_with fail
       go_meet
       exact ⟨rfl,mt M i1,rfl,HOK.out.lt _ HIL.out,HOK.out.lt _ HIL.out,by rw [(ok_inv2 HOK.out).inv i1 (by have h1:=HIL.out;have h2:=HLM.out;omega)];exact HIL.out,.inr ⟨rfl,(ok_inv2 HOK.out).inv i1 (by have h1:=HIL.out;have h2:=HLM.out;omega)⟩⟩
     · go_wp2_with fail
       go_meet
       exact ⟨rfl,i1,rfl,HIL.out,HIL.out,HOK.out.lt _ HIL.out,.inl ⟨rfl,rfl⟩⟩
    case rest =>
     obtain ⟨rfl,o2,rfl,hol,hpe⟩:=hcut
     obtain ⟨n2,hnn⟩:∃ z,z=mt M o2:=⟨_,rfl⟩
     have HOL:=Lib.hid hol
     rw [<- hnn] at hpe
     have HPE:=Lib.hid hpe
     have HNL:=Lib.hid hpe.2.1
     obtain ⟨b_,o_,e_,_,yx⟩:=ints_mt (GM.out wc QB6.out) hol (HOK.out.pos o2 hol)
     injection e_ with e_
     injection e_ with e_ e2_
     subst e_ e2_
     rw [<- hnn] at yx
     have zx:(o2:Int)<(M.length:Int):=by omega
     have y1:=QA6.out.cell 1
     clear hnn hol hpe
     go_upto_region 13 with fail
     clear yx zx y1
     obtain ⟨oo,hoo⟩:∃ z,z=opp o2:=⟨_,rfl⟩
     obtain ⟨nno,hno⟩:∃ z,z=opp n2:=⟨_,rfl⟩
     have HO1:=Lib.hid (HOP.out o2 HOL.out)
     have HO2:=Lib.hid (HOP.out n2 HNL.out)
     rw [<- hoo] at HO1
     rw [<- hno] at HO2
     have HOO:=Lib.hid (And.intro hoo hno)
     clear hoo hno
     have c0:=QE6.out.cell 4
     have f0:=QE6.out.frozen 4
     have c1:=QE6.out.cell 5
     have f1:=QE6.out.frozen 5
     have c2:=QE6.out.cell 6
     have f2:=QE6.out.frozen 6
     have c3:=QE6.out.cell 7
     have f3:=QE6.out.frozen 7
     have HR1:=Lib.hid ((((QA6.out.far (p:=⟨w.heap.size+2,4,none⟩) (by simp) (.int .i64 (oo:Nat))).far (p:=⟨w.heap.size+2,5,none⟩) (by simp) (.int .i64 (o2:Nat))).far (p:=⟨w.heap.size+2,6,none⟩) (by simp) (.int .i64 (n2:Nat))).far (p:=⟨w.heap.size+2,7,none⟩) (by simp) (.int .i64 (nno:Nat)))
     have HR2:=Lib.hid ((((QZ6.out.far (p:=⟨w.heap.size+2,4,none⟩) (by simp) (.int .i64 (oo:Nat))).far (p:=⟨w.heap.size+2,5,none⟩) (by simp) (.int .i64 (o2:Nat))).far (p:=⟨w.heap.size+2,6,none⟩) (by simp) (.int .i64 (n2:Nat))).far (p:=⟨w.heap.size+2,7,none⟩) (by simp) (.int .i64 (nno:Nat)))
     have HR3:=Lib.hid ((((QE6.out.set 4 (.int .i64 (oo:Nat))).set 5 (.int .i64 (o2:Nat))).set 6 (.int .i64 (n2:Nat))).set 7 (.int .i64 (nno:Nat)))
     have HR4:=Lib.hid ((((QB6.out.setCell (p:=⟨w.heap.size+2,4,none⟩) (by simp) (.int .i64 (oo:Nat))).setCell (p:=⟨w.heap.size+2,5,none⟩) (by simp) (.int .i64 (o2:Nat))).setCell (p:=⟨w.heap.size+2,6,none⟩) (by simp) (.int .i64 (n2:Nat))).setCell (p:=⟨w.heap.size+2,7,none⟩) (by simp) (.int .i64 (nno:Nat)))
     go_upto_region 14 with (first|(go_at_call_of 55 (Value.int .i64 (o2:Int));refine (HO1.out _).mono ?_;rintro e w7 ⟨rfl,rfl⟩)|(go_at_call_of 55 (Value.int .i64 (n2:Int));refine (HO2.out _).mono ?_;rintro e w7 ⟨rfl,rfl⟩))
     clear c0 c1 c2 c3 f0 f1 f2 f3
     generalize ((((wc.setCell ⟨w.heap.size+2,4,none⟩ (.int .i64 (oo:Nat))).setCell ⟨w.heap.size+2,5,none⟩ (.int .i64 (o2:Nat))).setCell ⟨w.heap.size+2,6,none⟩ (.int .i64 (n2:Nat))).setCell ⟨w.heap.size+2,7,none⟩ (.int .i64 (nno:Nat)))=w7 at *
     rw [HOO.out.1,HOO.out.2] at HR3
     by_cases po:o2%2=1
     · have zo:(o2:Int)%2=1:=by omega
       by_cases pn:n2%2=1
       · have zn:(n2:Int)%2=1:=by omega
         have ho_:ovC o2 n2=1:=by unfold ovC;simp;omega
         have hu_:unC o2 n2=0:=by unfold unC;simp;omega
         clear po pn
         go_wp2_with fail
         go_roundg 1
         case measure=>omega
         case rel=>exact ⟨HR1.out,HR2.out,HR4.out,.inr (.inr (.inl ⟨rfl,by go_num,Lib.hid ⟨o1,n1,o2,n2,HP1.out,HPE.out,by rw [Hov.out,ho_] <;> go_num,by rw [Hun.out,hu_] <;> go_num,HR3.out⟩⟩))⟩
       · have zn:(n2:Int)%2=0:=by omega
         have ho_:ovC o2 n2=0:=by unfold ovC;simp;omega
         have hu_:unC o2 n2=0:=by unfold unC;simp;omega
         clear po pn
         go_wp2_with fail
         go_roundg 1
         case measure=>omega
         case rel=>exact ⟨HR1.out,HR2.out,HR4.out,.inr (.inr (.inl ⟨rfl,by go_num,Lib.hid ⟨o1,n1,o2,n2,HP1.out,HPE.out,by rw [Hov.out,ho_] <;> go_num,by rw [Hun.out,hu_] <;> go_num,HR3.out⟩⟩))⟩
     · have zo:(o2:Int)%2=0:=by omega
       by_cases pn:n2%2=1
       · have zn:(n2:Int)%2=1:=by omega
         have ho_:ovC o2 n2=0:=by unfold ovC;simp;omega
         have hu_:unC o2 n2=0:=by unfold unC;simp;omega
         clear po pn
         go_wp2_with fail
         go_roundg 1
         case measure=>omega
         case rel=>exact ⟨HR1.out,HR2.out,HR4.out,.inr (.inr (.inl ⟨rfl,by go_num,Lib.hid ⟨o1,n1,o2,n2,HP1.out,HPE.out,by rw [Hov.out,ho_] <;> go_num,by rw [Hun.out,hu_] <;> go_num,HR3.out⟩⟩))⟩
       · have zn:(n2:Int)%2=0:=by omega
         have ho_:ovC o2 n2=0:=by unfold ovC;simp;omega
         have hu_:unC o2 n2=1:=by unfold unC;simp;omega
         clear po pn
         go_wp2_with fail
         go_roundg 1
         case measure=>omega
         case rel=>exact ⟨HR1.out,HR2.out,HR4.out,.inr (.inr (.inl ⟨rfl,by go_num,Lib.hid ⟨o1,n1,o2,n2,HP1.out,HPE.out,by rw [Hov.out,ho_] <;> go_num,by rw [Hun.out,hu_] <;> go_num,HR3.out⟩⟩))⟩
  · obtain ⟨o1,n1,o2,n2,hp1,hp2,rfl,rfl,qe⟩:=hr.out
    clear hr
    have HP1:=Lib.hid hp1
    clear hp1
    have HP2:=Lib.hid hp2
    clear hp2
    obtain ⟨ov,hov⟩:∃ z,z=ovC o1 n1+ovC o2 n2:=⟨_,rfl⟩
    have Hov:=Lib.hid hov
    have Bov:ov<=2:=by rw [hov];have:=ovC_le o1 n1;have:=ovC_le o2 n2;omega
    rw [<- hov]
    clear hov
    obtain ⟨un,hun⟩:∃ z,z=unC o1 n1+unC o2 n2:=⟨_,rfl⟩
    have Hun:=Lib.hid hun
    have Bun:un<=2:=by rw [hun];have:=unC_le o1 n1;have:=unC_le o2 n2;omega
    rw [<- hun]
    clear hun
    have y0:=qa.cell 0
    have y1:=qa.cell 1
    have y2:=qa.cell 2
    have QZ:=Lib.hid qz
    have QE:=Lib.hid qe
    have QA:=Lib.hid qa
    have QB:=Lib.hid qb
    obtain ⟨bm,om,hA2,hbm,yx⟩:=ints_mt (GM.out wr qb) HJL.out (HOK.out.pos j1 HJL.out)
    subst hA2
    clear qz qe qa qb yx hbm
    have ix:∀ w,(Instr.index 91 (.agg #[.int .i64 (h:Nat),.int .i64 (i1:Nat),.int .i64 (j1:Nat)]) (.int .i64 2)).run Try.prog w=.ok (.int .i64 (j1:Nat)) w:=fun _=>by kernel_rfl
    go_upto_if 61 with (go_at_call 53;refine (HOG.out _ QB.out j1 HJL.out).mono ?_;rintro e w6 ⟨⟨og,rfl⟩,hb6⟩)
    clear y0 y1 y2 ix
    have QB6:=Lib.hid (QB.out.trans (hb6.mono QB.out.size))
    have QA6:=Lib.hid (QA.out.below hb6 QA.out.lt)
    have QZ6:=Lib.hid (QZ.out.below hb6 QZ.out.lt)
    have QE6:=Lib.hid (QE.out.below hb6 QE.out.lt)
    clear QB QA QZ QE hb6
    go_cut [12] (fun s12 wx=>wx=w6/\∃ o_:Nat,s12=.int .i64 (o_:Nat)/\o_<M.length/\PE M j1 o_ (mt M o_))
    case first =>
     cases og
     · have y1:=QA6.out.cell 1
       obtain ⟨b_,o_,e_,_,yx⟩:=ints_mt (GM.out w6 QB6.out) HJL.out (HOK.out.pos j1 HJL.out)
       injection e_ with e_
       injection e_ with e_ e2_
       subst e_ e2_
       have zx:(j1:Int)<(M.length:Int):=by have:=HJL.out;omega
       go_wp2_with fail
       go_meet
       exact ⟨rfl,mt M j1,rfl,HOK.out.lt _ HJL.out,HOK.out.lt _ HJL.out,by rw [(ok_inv2 HOK.out).inv j1 (by have h1:=HJL.out;have h2:=HLM.out;omega)];exact HJL.out,.inr ⟨rfl,(ok_inv2 HOK.out).inv j1 (by have h1:=HJL.out;have h2:=HLM.out;omega)⟩⟩
     · go_wp2_with fail
       go_meet
       exact ⟨rfl,j1,rfl,HJL.out,HJL.out,HOK.out.lt _ HJL.out,.inl ⟨rfl,rfl⟩⟩
    case rest =>
     obtain ⟨rfl,o3,rfl,hol,hpe⟩:=hcut
     obtain ⟨n3,hnn⟩:∃ z,z=mt M o3:=⟨_,rfl⟩
     have HOL:=Lib.hid hol
     rw [<- hnn] at hpe
     have HPE:=Lib.hid hpe
     have HNL:=Lib.hid hpe.2.1
     obtain ⟨b_,o_,e_,_,yx⟩:=ints_mt (GM.out wc QB6.out) hol (HOK.out.pos o3 hol)
     injection e_ with e_
     injection e_ with e_ e2_
     subst e_ e2_
     rw [<- hnn] at yx
     have zx:(o3:Int)<(M.length:Int):=by omega
     have y1:=QA6.out.cell 1
     clear hnn hol hpe
     go_upto_region 13 with fail
     clear yx zx y1
     obtain ⟨oo,hoo⟩:∃ z,z=opp o3:=⟨_,rfl⟩
     obtain ⟨nno,hno⟩:∃ z,z=opp n3:=⟨_,rfl⟩
     have HO1:=Lib.hid (HOP.out o3 HOL.out)
     have HO2:=Lib.hid (HOP.out n3 HNL.out)
     rw [<- hoo] at HO1
     rw [<- hno] at HO2
     have HOO:=Lib.hid (And.intro hoo hno)
     clear hoo hno
     have c0:=QE6.out.cell 8
     have f0:=QE6.out.frozen 8
     have c1:=QE6.out.cell 9
     have f1:=QE6.out.frozen 9
     have c2:=QE6.out.cell 10
     have f2:=QE6.out.frozen 10
     have c3:=QE6.out.cell 11
     have f3:=QE6.out.frozen 11
     have HR1:=Lib.hid ((((QA6.out.far (p:=⟨w.heap.size+2,8,none⟩) (by simp) (.int .i64 (oo:Nat))).far (p:=⟨w.heap.size+2,9,none⟩) (by simp) (.int .i64 (o3:Nat))).far (p:=⟨w.heap.size+2,10,none⟩) (by simp) (.int .i64 (n3:Nat))).far (p:=⟨w.heap.size+2,11,none⟩) (by simp) (.int .i64 (nno:Nat)))
     have HR2:=Lib.hid ((((QZ6.out.far (p:=⟨w.heap.size+2,8,none⟩) (by simp) (.int .i64 (oo:Nat))).far (p:=⟨w.heap.size+2,9,none⟩) (by simp) (.int .i64 (o3:Nat))).far (p:=⟨w.heap.size+2,10,none⟩) (by simp) (.int .i64 (n3:Nat))).far (p:=⟨w.heap.size+2,11,none⟩) (by simp) (.int .i64 (nno:Nat)))
     have HR3:=Lib.hid ((((QE6.out.set 8 (.int .i64 (oo:Nat))).set 9 (.int .i64 (o3:Nat))).set 10 (.int .i64 (n3:Nat))).set 11 (.int .i64 (nno:Nat)))
     have HR4:=Lib.hid ((((QB6.out.setCell (p:=⟨w.heap.size+2,8,none⟩) (by simp) (.int .i64 (oo:Nat))).setCell (p:=⟨w.heap.size+2,9,none⟩) (by simp) (.int .i64 (o3:Nat))).setCell (p:=⟨w.heap.size+2,10,none⟩) (by simp) (.int .i64 (n3:Nat))).setCell (p:=⟨w.heap.size+2,11,none⟩) (by simp) (.int .i64 (nno:Nat)))
     go_upto_region 14 with (first|(go_at_call_of 55 (Value.int .i64 (o3:Int));refine (HO1.out _).mono ?_;rintro e w7 ⟨rfl,rfl⟩)|(go_at_call_of 55 (Value.int .i64 (n3:Int));refine (HO2.out _).mono ?_;rintro e w7 ⟨rfl,rfl⟩))
     clear c0 c1 c2 c3 f0 f1 f2 f3
     generalize ((((wc.setCell ⟨w.heap.size+2,8,none⟩ (.int .i64 (oo:Nat))).setCell ⟨w.heap.size+2,9,none⟩ (.int .i64 (o3:Nat))).setCell ⟨w.heap.size+2,10,none⟩ (.int .i64 (n3:Nat))).setCell ⟨w.heap.size+2,11,none⟩ (.int .i64 (nno:Nat)))=w7 at *
     rw [HOO.out.1,HOO.out.2] at HR3
     by_cases po:o3%2=1
     · have zo:(o3:Int)%2=1:=by omega
       by_cases pn:n3%2=1
       · have zn:(n3:Int)%2=1:=by omega
         have ho_:ovC o3 n3=1:=by unfold ovC;simp;omega
         have hu_:unC o3 n3=0:=by unfold unC;simp;omega
         clear po pn
         go_wp2_with fail
         go_roundg 0
         case measure=>omega
         case rel=>exact ⟨HR1.out,HR2.out,HR4.out,.inr (.inr (.inr (⟨rfl,by go_num,Lib.hid ⟨o1,n1,o2,n2,o3,n3,HP1.out,HP2.out,HPE.out,by rw [Hov.out,ho_] <;> go_num,by rw [Hun.out,hu_] <;> go_num,HR3.out⟩⟩)))⟩
       · have zn:(n3:Int)%2=0:=by omega
         have ho_:ovC o3 n3=0:=by unfold ovC;simp;omega
         have hu_:unC o3 n3=0:=by unfold unC;simp;omega
         clear po pn
         go_wp2_with fail
         go_roundg 0
         case measure=>omega
         case rel=>exact ⟨HR1.out,HR2.out,HR4.out,.inr (.inr (.inr (⟨rfl,by go_num,Lib.hid ⟨o1,n1,o2,n2,o3,n3,HP1.out,HP2.out,HPE.out,by rw [Hov.out,ho_] <;> go_num,by rw [Hun.out,hu_] <;> go_num,HR3.out⟩⟩)))⟩
     · have zo:(o3:Int)%2=0:=by omega
       by_cases pn:n3%2=1
       · have zn:(n3:Int)%2=1:=by omega
         have ho_:ovC o3 n3=0:=by unfold ovC;simp;omega
         have hu_:unC o3 n3=0:=by unfold unC;simp;omega
         clear po pn
         go_wp2_with fail
         go_roundg 0
         case measure=>omega
         case rel=>exact ⟨HR1.out,HR2.out,HR4.out,.inr (.inr (.inr (⟨rfl,by go_num,Lib.hid ⟨o1,n1,o2,n2,o3,n3,HP1.out,HP2.out,HPE.out,by rw [Hov.out,ho_] <;> go_num,by rw [Hun.out,hu_] <;> go_num,HR3.out⟩⟩)))⟩
       · have zn:(n3:Int)%2=0:=by omega
         have ho_:ovC o3 n3=0:=by unfold ovC;simp;omega
         have hu_:unC o3 n3=1:=by unfold unC;simp;omega
         clear po pn
         go_wp2_with fail
         go_roundg 0
         case measure=>omega
         case rel=>exact ⟨HR1.out,HR2.out,HR4.out,.inr (.inr (.inr (⟨rfl,by go_num,Lib.hid ⟨o1,n1,o2,n2,o3,n3,HP1.out,HP2.out,HPE.out,by rw [Hov.out,ho_] <;> go_num,by rw [Hun.out,hu_] <;> go_num,HR3.out⟩⟩)))⟩
  · obtain ⟨o1,n1,o2,n2,o3,n3,hp1,hp2,hp3,rfl,rfl,qe⟩:=hr.out
    clear hr qa
    have HQ:=Lib.hid (show PE M h o1 n1/\PE M i1 o2 n2/\PE M j1 o3 n3 from ⟨hp1,hp2,hp3⟩)
    obtain ⟨ov,hov⟩:∃ z,z=ovC o1 n1+ovC o2 n2+ovC o3 n3:=⟨_,rfl⟩
    obtain ⟨un,hun⟩:∃ z,z=unC o1 n1+unC o2 n2+unC o3 n3:=⟨_,rfl⟩
    have HQ2:=Lib.hid (And.intro hov hun)
    rw [<- hov,<- hun]
    clear hov hun hp1 hp2 hp3
    obtain ⟨oo1,hoo1⟩:∃ z,z=opp o1:=⟨_,rfl⟩
    obtain ⟨no1,hno1⟩:∃ z,z=opp n1:=⟨_,rfl⟩
    have HOO1:=Lib.hid (And.intro hoo1 hno1)
    rw [<- hoo1,<- hno1] at qe
    clear hoo1 hno1
    obtain ⟨oo2,hoo2⟩:∃ z,z=opp o2:=⟨_,rfl⟩
    obtain ⟨no2,hno2⟩:∃ z,z=opp n2:=⟨_,rfl⟩
    have HOO2:=Lib.hid (And.intro hoo2 hno2)
    rw [<- hoo2,<- hno2] at qe
    clear hoo2 hno2
    obtain ⟨oo3,hoo3⟩:∃ z,z=opp o3:=⟨_,rfl⟩
    obtain ⟨no3,hno3⟩:∃ z,z=opp n3:=⟨_,rfl⟩
    have HOO3:=Lib.hid (And.intro hoo3 hno3)
    rw [<- hoo3,<- hno3] at qe
    clear hoo3 hno3
    have HA:=Lib.hid (((((((((((((qz.set 0 (.int .i64 (oo1:Nat))).set 1 (.int .i64 (o1:Nat))).set 2 (.int .i64 (n1:Nat))).set 3 (.int .i64 (no1:Nat))).set 4 (.int .i64 (oo2:Nat))).set 5 (.int .i64 (o2:Nat))).set 6 (.int .i64 (n2:Nat))).set 7 (.int .i64 (no2:Nat))).set 8 (.int .i64 (oo3:Nat))).set 9 (.int .i64 (o3:Nat))).set 10 (.int .i64 (n3:Nat))).set 11 (.int .i64 (no3:Nat))))
    have HB:=Lib.hid (((((((((((((qb.setCell (p:=⟨w.heap.size+1,0,none⟩) (by simp) (.int .i64 (oo1:Nat))).setCell (p:=⟨w.heap.size+1,1,none⟩) (by simp) (.int .i64 (o1:Nat))).setCell (p:=⟨w.heap.size+1,2,none⟩) (by simp) (.int .i64 (n1:Nat))).setCell (p:=⟨w.heap.size+1,3,none⟩) (by simp) (.int .i64 (no1:Nat))).setCell (p:=⟨w.heap.size+1,4,none⟩) (by simp) (.int .i64 (oo2:Nat))).setCell (p:=⟨w.heap.size+1,5,none⟩) (by simp) (.int .i64 (o2:Nat))).setCell (p:=⟨w.heap.size+1,6,none⟩) (by simp) (.int .i64 (n2:Nat))).setCell (p:=⟨w.heap.size+1,7,none⟩) (by simp) (.int .i64 (no2:Nat))).setCell (p:=⟨w.heap.size+1,8,none⟩) (by simp) (.int .i64 (oo3:Nat))).setCell (p:=⟨w.heap.size+1,9,none⟩) (by simp) (.int .i64 (o3:Nat))).setCell (p:=⟨w.heap.size+1,10,none⟩) (by simp) (.int .i64 (n3:Nat))).setCell (p:=⟨w.heap.size+1,11,none⟩) (by simp) (.int .i64 (no3:Nat))))
    have a0:=qz.cell 0
    have f0:=qz.frozen 0
    have b0:=qe.cell 0
    have a1:=qz.cell 1
    have f1:=qz.frozen 1
    have b1:=qe.cell 1
    have a2:=qz.cell 2
    have f2:=qz.frozen 2
    have b2:=qe.cell 2
    have a3:=qz.cell 3
    have f3:=qz.frozen 3
    have b3:=qe.cell 3
    have a4:=qz.cell 4
    have f4:=qz.frozen 4
    have b4:=qe.cell 4
    have a5:=qz.cell 5
    have f5:=qz.frozen 5
    have b5:=qe.cell 5
    have a6:=qz.cell 6
    have f6:=qz.frozen 6
    have b6:=qe.cell 6
    have a7:=qz.cell 7
    have f7:=qz.frozen 7
    have b7:=qe.cell 7
    have a8:=qz.cell 8
    have f8:=qz.frozen 8
    have b8:=qe.cell 8
    have a9:=qz.cell 9
    have f9:=qz.frozen 9
    have b9:=qe.cell 9
    have a10:=qz.cell 10
    have f10:=qz.frozen 10
    have b10:=qe.cell 10
    have a11:=qz.cell 11
    have f11:=qz.frozen 11
    have b11:=qe.cell 11
    clear qz qb qe
    by_cases e1:ov=1
    · have z1:(ov:Int)=1:=by omega
      have z1b:((ov:Int)==1)=true:=by simp;omega
      by_cases e2:un=1
      · have z2:(un:Int)=1:=by omega
        have z2b:((un:Int)==1)=true:=by simp;omega
        have HFI:=Lib.hid (show ovC o1 n1+ovC o2 n2+ovC o3 n3=1/\unC o1 n1+unC o2 n2+unC o3 n3=1 from ⟨by rw [<- HQ2.out.1];exact e1,by rw [<- HQ2.out.2];exact e2⟩)
        clear e1 e2
        go_wp2_with fail
        refine bodyPost_ret (v:=.tuple #[.agg (rowOf [.int .i64 (oo1:Nat),.int .i64 (o1:Nat),.int .i64 (n1:Nat),.int .i64 (no1:Nat),.int .i64 (oo2:Nat),.int .i64 (o2:Nat),.int .i64 (n2:Nat),.int .i64 (no2:Nat),.int .i64 (oo3:Nat),.int .i64 (o3:Nat),.int .i64 (n3:Nat),.int .i64 (no3:Nat)]),.bool true]) (results_ct Try.results42 _ _ (w.heap.size+1) 76 _ _ rfl HA.out Try.underlying76 rfl info_tri) rfl ?_
        exact ⟨.inr ⟨i1,j1,o1,n1,o2,n2,o3,n3,true,by rw [<- HOO1.out.1,<- HOO1.out.2,<- HOO2.out.1,<- HOO2.out.2,<- HOO3.out.1,<- HOO3.out.2];rfl,HQ.out.1,HQ.out.2.1,HQ.out.2.2,fun _=>⟨HTG.out,HFI.out.1,HFI.out.2⟩⟩,HB.out⟩
      · have z2:¬ (un:Int)=1:=by omega
        have z2b:((un:Int)==1)=false:=by simp;omega
        clear e1 e2
        go_wp2_with fail
        refine bodyPost_ret (v:=.tuple #[.agg (rowOf [.int .i64 (oo1:Nat),.int .i64 (o1:Nat),.int .i64 (n1:Nat),.int .i64 (no1:Nat),.int .i64 (oo2:Nat),.int .i64 (o2:Nat),.int .i64 (n2:Nat),.int .i64 (no2:Nat),.int .i64 (oo3:Nat),.int .i64 (o3:Nat),.int .i64 (n3:Nat),.int .i64 (no3:Nat)]),.bool false]) (results_ct Try.results42 _ _ (w.heap.size+1) 76 _ _ rfl HA.out Try.underlying76 rfl info_tri) rfl ?_
        exact ⟨.inr ⟨i1,j1,o1,n1,o2,n2,o3,n3,false,by rw [<- HOO1.out.1,<- HOO1.out.2,<- HOO2.out.1,<- HOO2.out.2,<- HOO3.out.1,<- HOO3.out.2];rfl,HQ.out.1,HQ.out.2.1,HQ.out.2.2,fun h=>absurd h (by decide)⟩,HB.out⟩
    · have z1:¬ (ov:Int)=1:=by omega
      have z1b:((ov:Int)==1)=false:=by simp;omega
      clear e1
      go_wp2_with fail
      refine bodyPost_ret (v:=.tuple #[.agg (rowOf [.int .i64 (oo1:Nat),.int .i64 (o1:Nat),.int .i64 (n1:Nat),.int .i64 (no1:Nat),.int .i64 (oo2:Nat),.int .i64 (o2:Nat),.int .i64 (n2:Nat),.int .i64 (no2:Nat),.int .i64 (oo3:Nat),.int .i64 (o3:Nat),.int .i64 (n3:Nat),.int .i64 (no3:Nat)]),.bool false]) (results_ct Try.results42 _ _ (w.heap.size+1) 76 _ _ rfl HA.out Try.underlying76 rfl info_tri) rfl ?_
      exact ⟨.inr ⟨i1,j1,o1,n1,o2,n2,o3,n3,false,by rw [<- HOO1.out.1,<- HOO1.out.2,<- HOO2.out.1,<- HOO2.out.2,<- HOO3.out.1,<- HOO3.out.2];rfl,HQ.out.1,HQ.out.2.1,HQ.out.2.2,fun h=>absurd h (by decide)⟩,HB.out⟩
def stF (f:Nat->Nat) (o n:Nat):Nat->Nat:=fun z=>if z=opp n then o else if z=opp o then n else f z
def stP (p:Nat->Bool) (o n:Nat):Nat->Bool:=fun z=>if z=opp n then true else if z=opp o then true else p z
section
variable {S M:List Int} {L:Int}
theorem PE.mts {x o n:Nat} (k:Ok S M L) (h:PE M x o n):mt M o=n/\mt M n=o:=by
 obtain ⟨h1,h2,h3⟩:=h
 have i2:=ok_inv2 k
 have hm:=k.m
 rcases h3 with ⟨rfl,rfl⟩|⟨rfl,rfl⟩
 · exact ⟨rfl,i2.inv o (by omega)⟩
 · exact ⟨i2.inv n (by omega),rfl⟩
theorem PE.mem {x o n z:Nat} (h:PE M x o n):(z=x\/z=mt M x) ↔ (z=o\/z=n):=by
 obtain ⟨h1,h2,h3⟩:=h
 rcases h3 with ⟨rfl,rfl⟩|⟨rfl,rfl⟩
 · exact Iff.rfl
 · exact ⟨fun h=>h.symm,fun h=>h.symm⟩
theorem opp_iff {z o:Nat}:z=opp o ↔ opp z=o:=⟨fun h=>by rw [h,opp_opp],fun h=>by rw [<- h,opp_opp]⟩
theorem stF_key {f:Nat->Nat} {o n z:Nat} (h1:mt M o=n) (h2:mt M n=o):stF f o n z=if opp z=o\/opp z=n then mt M (opp z) else f z:=by
 unfold stF
 by_cases a:z=opp n
 · rw [if_pos a,if_pos (.inr (opp_iff.1 a)),opp_iff.1 a,h2]
 · rw [if_neg a]
   by_cases b:z=opp o
   · rw [if_pos b,if_pos (.inl (opp_iff.1 b)),opp_iff.1 b,h1]
   · rw [if_neg b,if_neg (fun h=>by rcases h with h|h;exact b (opp_iff.2 h);exact a (opp_iff.2 h))]
theorem stP_key {p:Nat->Bool} {o n z:Nat}:stP p o n z=if opp z=o\/opp z=n then true else p z:=by
 unfold stP
 by_cases a:z=opp n
 · rw [if_pos a,if_pos (.inr (opp_iff.1 a))]
 · rw [if_neg a]
   by_cases b:z=opp o
   · rw [if_pos b,if_pos (.inl (opp_iff.1 b))]
   · rw [if_neg b,if_neg (fun h=>by rcases h with h|h;exact b (opp_iff.2 h);exact a (opp_iff.2 h))]
theorem trI_mem {h i j o1 n1 o2 n2 o3 n3 z:Nat} (p1:PE M h o1 n1) (p2:PE M i o2 n2) (p3:PE M j o3 n3):z∈trI M h i j ↔ (z=o1\/z=n1)\/(z=o2\/z=n2)\/(z=o3\/z=n3):=by
 unfold trI
 simp only [List.mem_cons,List.not_mem_nil,or_false]
 rw [<- p1.mem,<- p2.mem,<- p3.mem]
 constructor
 · rintro (h|h|h|h|h|h) <;> simp [h]
 · rintro ((h|h)|(h|h)|(h|h)) <;> simp [h]
theorem stF3 {h i j o1 n1 o2 n2 o3 n3:Nat} (k:Ok S M L) (p1:PE M h o1 n1) (p2:PE M i o2 n2) (p3:PE M j o3 n3) (z:Nat):stF (stF (stF (fun z=>z) o1 n1) o2 n2) o3 n3 z=trT M h i j z:=by
 rw [stF_key (p3.mts k).1 (p3.mts k).2,stF_key (p2.mts k).1 (p2.mts k).2,stF_key (p1.mts k).1 (p1.mts k).2]
 unfold trT
 by_cases m:opp z∈trI M h i j
 · rw [if_pos m]
   have m2:=(trI_mem p1 p2 p3).1 m
   by_cases a:opp z=o3\/opp z=n3
   · rw [if_pos a]
   · rw [if_neg a]
     by_cases b:opp z=o2\/opp z=n2
     · rw [if_pos b]
     · rw [if_neg b]
       by_cases c:opp z=o1\/opp z=n1
       · rw [if_pos c]
       · (rcases m2 with m2|m2|m2;exact absurd m2 c;exact absurd m2 b;exact absurd m2 a)
 · rw [if_neg m]
   have m2:¬ ((opp z=o1\/opp z=n1)\/(opp z=o2\/opp z=n2)\/(opp z=o3\/opp z=n3)):=fun h=>m ((trI_mem p1 p2 p3).2 h)
   rw [if_neg (fun a=>m2 (.inr (.inr a))),if_neg (fun a=>m2 (.inr (.inl a))),if_neg (fun a=>m2 (.inl a))]
theorem stP3 {h i j o1 n1 o2 n2 o3 n3:Nat} (p1:PE M h o1 n1) (p2:PE M i o2 n2) (p3:PE M j o3 n3) (z:Nat):stP (stP (stP (fun _=>false) o1 n1) o2 n2) o3 n3 z=trO M h i j z:=by
 rw [stP_key,stP_key,stP_key]
 unfold trO
 by_cases m:opp z∈trI M h i j
 · rw [decide_eq_true m]
   have m2:=(trI_mem p1 p2 p3).1 m
   by_cases a:opp z=o3\/opp z=n3
   · rw [if_pos a]
   · rw [if_neg a]
     by_cases b:opp z=o2\/opp z=n2
     · rw [if_pos b]
     · rw [if_neg b]
       by_cases c:opp z=o1\/opp z=n1
       · rw [if_pos c]
       · rcases m2 with m2|m2|m2
         · exact absurd m2 c
         · exact absurd m2 b
         · exact absurd m2 a
 · rw [decide_eq_false m]
   have m2:¬ ((opp z=o1\/opp z=n1)\/(opp z=o2\/opp z=n2)\/(opp z=o3\/opp z=n3)):=fun h=>m ((trI_mem p1 p2 p3).2 h)
   rw [if_neg (fun a=>m2 (.inr (.inr a))),if_neg (fun a=>m2 (.inr (.inl a))),if_neg (fun a=>m2 (.inl a))]
theorem stF_lt {f:Nat->Nat} {o n N:Nat} (ho:o<N) (hn:n<N) (hf:∀ z,z<N->f z<N):∀ z,z<N->stF f o n z<N:=by
 intro z hz
 unfold stF
 split
 · exact ho
 · split
   · exact hn
   · exact hf z hz
theorem slL_pos {T:Nat->Nat} {out:Nat->Bool} (h:∀ i (hi:i<M.length),0<=M[i]):∀ u i (hi:i<(slL M T out u).length),0<=(slL M T out u)[i]
 | 0,i,hi=>h i hi
 | u+1,i,hi=>by
  by_cases b:out u=true
  · have e:slL M T out (u+1)=jnL (slL M T out u) (T u) (T (mt M u)):=by rw [slL,if_pos b]
    have:=jnL_pos (x:=T u) (y:=T (mt M u)) (slL_pos (T:=T) (out:=out) h u)
    simp only [e]
    exact this i (by rw [e] at hi;exact hi)
  · have e:slL M T out (u+1)=slL M T out u:=by rw [slL,if_neg b]
    simp only [e]
    exact slL_pos h u i (by rw [e] at hi;exact hi)
theorem slL_lt {T:Nat->Nat} {out:Nat->Bool} {N:Nat} (h:∀ i (hi:i<M.length),M[i]<(N:Int)) (hT:∀ z,z<N->T z<N) (hm:∀ z,z<N->mt M z<N):∀ u,u<=N->∀ i (hi:i<(slL M T out u).length),(slL M T out u)[i]<(N:Int)
 | 0,_,i,hi=>h i hi
 | u+1,hu,i,hi=>by
  by_cases b:out u=true
  · have e:slL M T out (u+1)=jnL (slL M T out u) (T u) (T (mt M u)):=by rw [slL,if_pos b]
    have h1:=hT u (by omega)
    have h2:=hT _ (hm u (by omega))
    have:=jnL_lt (x:=T u) (y:=T (mt M u)) (N:=(N:Int)) (slL_lt (out:=out) h hT hm u (by omega)) (by omega) (by omega)
    simp only [e]
    exact this i (by rw [e] at hi;exact hi)
  · have e:slL M T out (u+1)=slL M T out u:=by rw [slL,if_neg b]
    simp only [e]
    exact slL_lt h hT hm u (by omega) i (by rw [e] at hi;exact hi)
theorem ovC_PE {x o n:Nat} (h:PE M x o n):ovC o n=(if x%2=1/\mt M x%2=1 then 1 else 0):=by
 obtain ⟨h1,h2,h3⟩:=h
 unfold ovC
 rcases h3 with ⟨rfl,rfl⟩|⟨rfl,rfl⟩
 · rfl
 · by_cases c:mt M n%2=1/\n%2=1
   · rw [if_pos c,if_pos c.symm]
   · rw [if_neg c,if_neg (fun d=>c d.symm)]
theorem unC_PE {x o n:Nat} (h:PE M x o n):unC o n=(if x%2=0/\mt M x%2=0 then 1 else 0):=by
 obtain ⟨h1,h2,h3⟩:=h
 unfold unC
 rcases h3 with ⟨rfl,rfl⟩|⟨rfl,rfl⟩
 · rfl
 · by_cases c:mt M n%2=0/\n%2=0
   · rw [if_pos c,if_pos c.symm]
   · rw [if_neg c,if_neg (fun d=>c d.symm)]
theorem PE.opps {x o n:Nat} (h:PE M x o n):(opp o=opp x/\opp n=opp (mt M x))\/(opp o=opp (mt M x)/\opp n=opp x):=by
 obtain ⟨h1,h2,h3⟩:=h
 rcases h3 with ⟨rfl,rfl⟩|⟨rfl,rfl⟩
 · exact .inl ⟨rfl,rfl⟩
 · exact .inr ⟨rfl,rfl⟩
theorem slide_fin {h i j o1 n1 o2 n2 o3 n3:Nat} (k:Ok S M L) (t:Trg M h i j) (hh:h<M.length) (p1:PE M h o1 n1) (p2:PE M i o2 n2) (p3:PE M j o3 n3) (ho:ovC o1 n1+ovC o2 n2+ovC o3 n3=1) (hu:unC o1 n1+unC o2 n2+unC o3 n3=1) :
 MvQ S M L S (jnL (jnL (jnL (slL M (stF (stF (stF (fun z=>z) o1 n1) o2 n2) o3 n3) (stP (stP (stP (fun _=>false) o1 n1) o2 n2) o3 n3) M.length) (opp o1) (opp n1)) (opp o2) (opp n2)) (opp o3) (opp n3)) L:=by
 have eF:stF (stF (stF (fun z=>z) o1 n1) o2 n2) o3 n3=trT M h i j:=funext (stF3 k p1 p2 p3)
 have eP:stP (stP (stP (fun _=>false) o1 n1) o2 n2) o3 n3=trO M h i j:=funext (stP3 p1 p2 p3)
 rw [eF,eP]
 rw [ovC_PE p1,ovC_PE p2,ovC_PE p3] at ho
 rw [unC_PE p1,unC_PE p2,unC_PE p3] at hu
 exact slide_mv t hh ho hu p1.opps p2.opps p3.opps
theorem Trg.ends {h i j o1 n1 o2 n2 o3 n3:Nat} (t:Trg M h i j) (p1:PE M h o1 n1) (p2:PE M i o2 n2) (p3:PE M j o3 n3):opp o1≠opp n1/\opp o2≠opp n2/\opp o3≠opp n3:=by
 have key:∀ {x y o n:Nat},PE M x o n->y=turnN (mt M x) 3->x/4≠y/4->opp o≠opp n:=by
  intro x y o n p hy hd e
  have e2:o=n:=by rw [<- opp_opp o,e,opp_opp]
  obtain ⟨_,_,p⟩:=p
  have hxm:x=mt M x:=by rcases p with ⟨a,b⟩|⟨a,b⟩ <;> omega
  apply hd
  rw [hy,<- hxm]
  unfold turnN
  omega
 exact ⟨key p1 t.hi t.d1,key p2 t.hj t.d2,key p3 t.hh.symm (fun e=>t.d3 e.symm)⟩
end
def TL (m:Nat) (f:Nat->Nat):List Value:=(List.range m).map fun i=>.int .i64 (f i:Nat)
def BL (m:Nat) (p:Nat->Bool):List Value:=(List.range m).map fun i=>.bool (p i)
theorem TL_get {m i:Nat} {f:Nat->Nat} (h:i<m):(TL m f)[i]? = some (.int .i64 (f i:Nat)):=by simp [TL,h]
theorem BL_get {m i:Nat} {p:Nat->Bool} (h:i<m):(BL m p)[i]? = some (.bool (p i)):=by simp [BL,h]
theorem TL_set {m a v:Nat} {f:Nat->Nat}:(TL m f).set a (.int .i64 (v:Nat))=TL m (fun z=>if z=a then v else f z):=by
 apply List.ext_getElem?
 intro i
 rw [List.getElem?_set]
 by_cases hi:i<m
 · rw [TL_get hi]
   by_cases e:a=i
   · subst e
     rw [if_pos rfl,if_pos (by simp [TL,hi]),TL_get hi,if_pos rfl]
   · rw [if_neg e,TL_get hi,if_neg (fun h=>e h.symm)]
 · have h1:(TL m f)[i]? = none:=by simp [TL];omega
   have h2:(TL m (fun z=>if z=a then v else f z))[i]? = none:=by simp [TL];omega
   rw [h1,h2]
   split
   · rw [if_neg (by simp [TL];omega)]
   · rfl
theorem BL_set {m a:Nat} {p:Nat->Bool}:(BL m p).set a (.bool true)=BL m (fun z=>if z=a then true else p z):=by
 apply List.ext_getElem?
 intro i
 rw [List.getElem?_set]
 by_cases hi:i<m
 · rw [BL_get hi]
   by_cases e:a=i
   · subst e
     rw [if_pos rfl,if_pos (by simp [BL,hi]),BL_get hi,if_pos rfl]
   · rw [if_neg e,BL_get hi,if_neg (fun h=>e h.symm)]
 · have h1:(BL m p)[i]? = none:=by simp [BL];omega
   have h2:(BL m (fun z=>if z=a then true else p z))[i]? = none:=by simp [BL];omega
   rw [h1,h2]
   split
   · rw [if_neg (by simp [BL];omega)]
   · rfl
theorem TL_zero (m:Nat):List.replicate m (Value.int .i64 0)=TL m (fun _=>0):=by
 apply List.ext_getElem?
 intro i
 by_cases hi:i<m
 · rw [TL_get hi];simp [hi]
 · have h2:(TL m (fun _=>0))[i]? = none:=by simp [TL];omega
   rw [h2];simp;omega
theorem BL_zero (m:Nat):List.replicate m (Value.bool false)=BL m (fun _=>false):=by
 apply List.ext_getElem?
 intro i
 by_cases hi:i<m
 · rw [BL_get hi];simp [hi]
 · have h2:(BL m (fun _=>false))[i]? = none:=by simp [BL];omega
   rw [h2];simp;omega
theorem TL_congr {m:Nat} {f g:Nat->Nat} (h:∀ z,z<m->f z=g z):TL m f=TL m g:=by
 apply List.ext_getElem?
 intro i
 by_cases hi:i<m
 · rw [TL_get hi,TL_get hi,h i hi]
 · have h1:(TL m f)[i]? = none:=by simp [TL];omega
   have h2:(TL m g)[i]? = none:=by simp [TL];omega
   rw [h1,h2]
def idF (k:Nat):Nat->Nat:=fun z=>if z<k then z else 0
theorem idF_step (k:Nat):(fun z=>if z=k then k else idF k z)=idF (k+1):=by
 funext z
 unfold idF
 by_cases a:z=k
 · subst a;rw [if_pos rfl,if_pos (by omega)]
 · rw [if_neg a]
   by_cases b:z<k
   · rw [if_pos b,if_pos (by omega)]
   · rw [if_neg b,if_neg (by omega)]
theorem idF_zero:(fun _=>0:Nat->Nat)=idF 0:=by
 funext z;unfold idF;rw [if_neg (by omega)]
theorem TL_idF (m:Nat):TL m (idF m)=TL m (fun z=>z):=TL_congr fun z hz=>by unfold idF;rw [if_pos hz]
theorem mk_bools (n:Nat) (hn:n<=1000000) (W:World):(Instr.makeSlice 79 (.int .i64 (n:Int)) (.int .i64 (n:Int))).run Try.prog W=.ok (.slice (some ⟨W.heap.size,0,none⟩) n n) (W.alloc (.cells (rowOf (List.replicate n (.bool false))) 4)):=by
 obtain ⟨i,hi,hz,hs,hb⟩:=info_parts info_bool
 exact run_make_one (P:=Try.prog) 79 4 i (.bool false) Try.underlying79 hi hz hs rfl (by omega) n hn W
structure SlS (w:World) (g7 gt gb m:Nat) (dd mm cc:List Value) (f:Nat->Nat) (p:Nat->Bool) (W:World):Prop where
 box:Bx4 w W dd mm
 tri:Arr W g7 76 cc
 tt:Arr W gt 3 (TL m f)
 out:Arr W gb 4 (BL m p)
 ne:gt≠gb/\w.heap.size+4<=g7/\w.heap.size+4<=gt/\w.heap.size+4<=gb/\g7≠gt/\g7≠gb
section
variable {w W W2:World} {g7 gt gb m:Nat} {dd mm cc:List Value} {f:Nat->Nat} {p:Nat->Bool}
theorem SlS.below {B:Nat} (h:SlS w g7 gt gb m dd mm cc f p W) (hb:Below B W W2) (h1:w.heap.size+4<=B) (h2:g7<B) (h3:gt<B) (h4:gb<B):SlS w g7 gt gb m dd mm cc f p W2 :=
 ⟨h.box.below hb h1,h.tri.below hb h2,h.tt.below hb h3,h.out.below hb h4,h.ne⟩
theorem SlS.grow (h:SlS w g7 gt gb m dd mm cc f p W) (hb:Below W.heap.size W W2):SlS w g7 gt gb m dd mm cc f p W2 :=
 h.below hb h.box.lt h.tri.lt h.tt.lt h.out.lt
theorem SlS.drew (h:SlS w g7 gt gb m dd mm cc f p W):SlS w g7 gt gb m dd mm cc f p W.drew:=⟨h.box.drew,h.tri,h.tt,h.out,h.ne⟩
theorem Bx4.set {g i:Nat} {v:Value} (h:Bx4 w W dd mm) (hg:w.heap.size+4<=g):Bx4 w (W.setCell ⟨g,i,none⟩ v) dd mm :=
 ⟨h.1.far (p:=⟨g,i,none⟩) (by simp;omega) v,h.2.1.far (p:=⟨g,i,none⟩) (by simp;omega) v,h.2.2.1.far (p:=⟨g,i,none⟩) (by simp;omega) v,h.2.2.2.1.far (p:=⟨g,i,none⟩) (by simp;omega) v,h.2.2.2.2.setCell (p:=⟨g,i,none⟩) (by simp;omega) v⟩
theorem SlS.setTo {a v:Nat} (h:SlS w g7 gt gb m dd mm cc f p W):SlS w g7 gt gb m dd mm cc (fun z=>if z=a then v else f z) p (W.setCell ⟨gt,a,none⟩ (.int .i64 (v:Nat))):=by
 obtain ⟨n1,n2,n3,n4,n5,n6⟩:=h.ne
 exact ⟨h.box.set n3,h.tri.far (p:=⟨gt,a,none⟩) n5 _,by rw [<- TL_set];exact h.tt.set a _,h.out.far (p:=⟨gt,a,none⟩) (Ne.symm n1) _,h.ne⟩
theorem SlS.setOut {a:Nat} (h:SlS w g7 gt gb m dd mm cc f p W):SlS w g7 gt gb m dd mm cc f (fun z=>if z=a then true else p z) (W.setCell ⟨gb,a,none⟩ (.bool true)):=by
 obtain ⟨n1,n2,n3,n4,n5,n6⟩:=h.ne
 exact ⟨h.box.set n4,h.tri.far (p:=⟨gb,a,none⟩) n6 _,h.tt.far (p:=⟨gb,a,none⟩) n1 _,by rw [<- BL_set];exact h.out.set a _,h.ne⟩
theorem SlS.edge {o n a b:Nat} (h:SlS w g7 gt gb m dd mm cc f p W) (ha:a=opp o) (hb:b=opp n):SlS w g7 gt gb m dd mm cc (stF f o n) p ((W.setCell ⟨gt,a,none⟩ (.int .i64 (n:Nat))).setCell ⟨gt,b,none⟩ (.int .i64 (o:Nat))):=by
 subst ha hb
 exact (h.setTo (a:=opp o) (v:=n)).setTo
theorem SlS.mark {o n a b:Nat} (h:SlS w g7 gt gb m dd mm cc f p W) (ha:a=opp o) (hb:b=opp n):SlS w g7 gt gb m dd mm cc f (stP p o n) ((W.setCell ⟨gb,a,none⟩ (.bool true)).setCell ⟨gb,b,none⟩ (.bool true)):=by
 subst ha hb
 exact (h.setOut (a:=opp o)).setOut
def SlR (w:World) (g7 gt gb m B g n c:Nat) (dd mm cc:List Value) (f:Nat->Nat) (p:Nat->Bool) (v1:Value) (A:Option Addr) (S Mx:List Int) (L:Int) (W:World):Prop :=
 SlS w g7 gt gb m dd mm cc f p W/\CuS B g W v1 A n c S Mx L/\w.heap.size+4<=B/\g7<B/\gt<B/\gb<B/\B<=g
variable {B g n c:Nat} {v1:Value} {A:Option Addr} {S Mx:List Int} {L:Int}
theorem SlR.drew (h:SlR w g7 gt gb m B g n c dd mm cc f p v1 A S Mx L W):SlR w g7 gt gb m B g n c dd mm cc f p v1 A S Mx L W.drew:=⟨h.1.drew,h.2.1.drew,h.2.2⟩
theorem SlR.grow (h:SlR w g7 gt gb m B g n c dd mm cc f p v1 A S Mx L W) (hb:Below W.heap.size W W2):SlR w g7 gt gb m B g n c dd mm cc f p v1 A S Mx L W2:=⟨h.1.grow hb,h.2.1.below hb (Nat.le_refl _),h.2.2⟩
theorem SlR.joins (h:SlR w g7 gt gb m B g n c dd mm cc f p v1 A S Mx L W) (x y:Nat) (hx:x<Mx.length) (hy:y<Mx.length) (hl:Mx.length<=1000) :
 Calls Try.prog 27 #[.slice A n c,.int .i64 (x:Nat),.int .i64 (y:Nat)] W fun e w'=>e=.returned (.tuple #[])/\SlR w g7 gt gb m B g n c dd mm cc f p v1 A S (jnL Mx x y) L w' :=
 (mjoin_any A n c B Mx x y W h.2.1.own2 hx hy hl).mono fun e w' j=>⟨j.1,h.1.below j.2.below h.2.2.1 h.2.2.2.1 h.2.2.2.2.1 h.2.2.2.2.2.1,h.2.1.join j.2,h.2.2⟩
end
theorem sclone_any (v:Value) (xs:List Int) (w:World) (h:Ints w v xs) (hl:xs.length<=1000) :
 Calls Try.prog 64 #[v] w fun e w'=>∃ v',e=.returned v'/\OwnI 3 w.heap.size w' v' xs/\Below w.heap.size w w':=by
 obtain ⟨A,c,rfl,hc,hx⟩:=h
 cases xs with
 | nil =>
  cases A with
  | none=>exact (Try.slices_Clone_int_nil 0 c w).mono fun e w' h=>⟨_,h.1,OwnI.nil _ _ _,by rw [h.2];exact Below.refl _ _⟩
  | some a=>exact (Try.slices_Clone_int_zero a c w).mono fun e w' ⟨v',he,ho,_,hb⟩=>⟨v',he,ho,hb⟩
 | cons x xs =>
  obtain ⟨b,o,hA,_⟩:=hx 0 x rfl
  subst hA
  refine (Try.slices_Clone_int b o (x :: xs).length c (x :: xs) w (Nat.le_refl _) (by omega) fun j hj=>?_).mono fun e w' ⟨v',he,ho,_,hb⟩=>⟨v',he,by rw [List.take_length] at ho;exact ho,hb⟩
  obtain ⟨b',o',hA,hcell⟩:=hx j (x :: xs)[j] (List.getElem?_eq_getElem hj)
  injection hA with hA
  injection hA with h1 h2
  subst h1 h2
  rw [hcell,List.getD_eq_getElem?_getD,List.getElem?_eq_getElem hj];rfl
set_option maxHeartbeats 4000000 in
set_option maxRecDepth 100000 in
theorem dclone_any (vs vm:Value) (S M:List Int) (L:Int) (w:World) (hS:Ints w vs S) (hM:Ints w vm M) (la:S.length<=1000) (lma:M.length<=1000) :
 Calls Try.prog 43 #[.agg #[vs,vm,.int .i64 L]] w fun e w'=>∃ v1 v2,e=.returned (.agg #[v1,v2,.int .i64 L])/\OwnI 3 w.heap.size w' v1 S/\OwnI 3 w.heap.size w' v2 M/\(∀ k,v1.ownBlock=some k->v2.ownBlock≠some k)/\Below w.heap.size w w':=by
 have hW:∀ W,W=(w.alloc (.cells #[vs,vm,.int .i64 L] 24)).alloc (.cells #[.slice none 0 0,.slice none 0 0,.int .i64 0] 24)->Arr W w.heap.size 24 [vs,vm,.int .i64 L]/\Arr W (w.heap.size+1) 24 [.slice none 0 0,.slice none 0 0,.int .i64 0]/\Below w.heap.size w W/\W.heap.size=w.heap.size+2:=by
  intro W hW
  subst hW
  exact ⟨(Arr.new _ _ [_,_,_]).alloc _,Arr.newAt (w.alloc _) _ [_,_,_] _ (by simp),((Below.refl _ _).alloc (Nat.le_refl _) _).alloc (by simp) _,by simp⟩
 have GSA:=Lib.hid (fun W (hb:Below w.heap.size w W)=>hS.below hb)
 have GMA:=Lib.hid (fun W (hb:Below w.heap.size w W)=>hM.below hb)
 obtain ⟨A,c,rfl,hc,hx⟩:=hS
 obtain ⟨A2,c2,rfl,hc2,hx2⟩:=hM
 clear hx hx2
 go_enter Try.func43,Try.ntmps43
 go_upto_region 1 with fail
 generalize ((w.alloc (.cells #[.slice A S.length c,.slice A2 M.length c2,.int .i64 L] 24)).alloc (.cells #[.slice none 0 0,.slice none 0 0,.int .i64 0] 24))=w3 at hW ⊢
 obtain ⟨qa,qr,hb3,hs3⟩:=hW w3 rfl
 clear hW
 obtain ⟨H,hH⟩:∃ H,H=w3.heap.size:=⟨_,rfl⟩
 have HSA:=Lib.hid (fun W (hb:Below H w3 W)=>GSA.out W (hb3.trans (hb.mono (by rw [hH];exact hb3.size))))
 have HMA:=Lib.hid (fun W (hb:Below H w3 W)=>GMA.out W (hb3.trans (hb.mono (by rw [hH];exact hb3.size))))
 clear GSA GMA
 subst hH
 refine wp_region_phis 9 (by kernel_rfl) (by kernel_rfl) (by kernel_rfl) (by kernel_rfl) (by kernel_rfl) rfl (by kernel_rfl) (phiT (fun i=>([some (.pointer (some ⟨w.heap.size,0,none⟩)),some (.slice A S.length c),none,some (.pointer (some ⟨w.heap.size,1,none⟩)),some (.slice A2 M.length c2),none,some (.pointer (some ⟨w.heap.size,2,none⟩)),some (.int .i64 L),none,some (undef)]:List (Option Value)).getD i none) (fun i v w=>(if i=2 then (fun (v:Value) (w:World)=>OwnI 3 w3.heap.size w v (S)) v w else (if i=5 then (fun (v:Value) (w:World)=>OwnI 3 w3.heap.size w v (M)) v w else (if i=8 then (fun (v:Value) (w:World)=>∃ v1 v2,v=.agg #[v1,v2,.int .i64 L]/\OwnI 3 w3.heap.size w v1 S/\OwnI 3 w3.heap.size w v2 M/\∀ k,v1.ownBlock=some k->v2.ownBlock≠some k) v w else True))))) (fun i v w w' h hb=>?_) (fun i=>decide (i=2) || decide (i=5)) (fun i v w hi h k hk=>?_) (fun _ W=>∃ v1 v2,Arr W (w.heap.size+1) 24 [v1,v2,.int .i64 L]/\OwnI 3 w3.heap.size W v1 S/\OwnI 3 w3.heap.size W v2 M/\(∀ k,v1.ownBlock=some k->v2.ownBlock≠some k)/\Below w.heap.size w3 W) ⟨?_,?_,?_,?_,?_,?_,?_,?_,?_,?_,trivial⟩ ?_
 · unfold phiT at h ⊢
   split
   · next u hu=>rw [hu] at h;exact h
   · next hu =>
     rw [hu] at h
     simp only at h ⊢
     by_cases q2:i=2
     · rw [if_pos q2] at h ⊢;exact (show OwnI 3 w3.heap.size w v (S) from h).below hb (Nat.le_refl _)
     · rw [if_neg q2] at h ⊢
       by_cases q5:i=5
       · rw [if_pos q5] at h ⊢;exact (show OwnI 3 w3.heap.size w v (M) from h).below hb (Nat.le_refl _)
       · rw [if_neg q5] at h ⊢
         by_cases q8:i=8
         · rw [if_pos q8] at h ⊢;exact (by obtain ⟨v1,v2,e,h1,h2,h3⟩:=(show ∃ v1 v2,v=.agg #[v1,v2,.int .i64 L]/\OwnI 3 w3.heap.size w v1 S/\OwnI 3 w3.heap.size w v2 M/\∀ k,v1.ownBlock=some k->v2.ownBlock≠some k from h);exact ⟨v1,v2,e,h1.below hb (Nat.le_refl _),h2.below hb (Nat.le_refl _),h3⟩)
         · rw [if_neg q8] at h ⊢
           trivial
 · simp only [Bool.or_eq_true,decide_eq_true_eq,Bool.false_eq_true] at hi
   rcases hi with rfl|rfl
   · have h2:(fun (v:Value) (w:World)=>OwnI 3 w3.heap.size w v (S)) v w:=h
     exact h2.ltB k hk
   · have h2:(fun (v:Value) (w:World)=>OwnI 3 w3.heap.size w v (M)) v w:=h
     exact h2.ltB k hk
 · intro x w1 bA hbel hdep hdap hold hb
   refine ⟨fun _=>?_,fun h=>absurd h (by decide)⟩
   have e1:bA.tmps[1]?.getD undef=.pointer (some ⟨w.heap.size,0,none⟩):=hb 1
   refine phf_run (.pointer (some ⟨w.heap.size,0,none⟩)) rfl ?_ rfl
   clear hb hdep hdap hold
   go_simp
 · intro x w1 bA hbel hdep hdap hold hb
   refine ⟨fun _=>?_,fun h=>absurd h (by decide)⟩
   have e3:bA.tmps[3]?.getD undef=.pointer (some ⟨w.heap.size,0,none⟩):=(hb 3).trans (hdep 0 (by decide))
   have u0:=(qa.below hbel qa.lt).cell 0
   refine phf_run (.slice A S.length c) rfl ?_ rfl
   clear hb hdep hdap hold
   go_simp
 · intro x w1 bA hbel hdep hdap hold hb
   refine ⟨fun _=>?_,fun h=>absurd h (by decide)⟩
   have e4:bA.tmps[4]?.getD undef=.slice A S.length c:=(hb 4).trans (hdep 1 (by decide))
   have HC:=Lib.hid (sclone_any _ S w1 (HSA.out _ hbel) la)
   refine phf_call ?_ (HC.out.mono fun e w' ⟨v,he,ho,hb'⟩=>⟨v,he,hb',ho.base hbel.size,fun _=>ho.block⟩)
   clear hb hdep hdap hold
   go_simp
 · intro x w1 bA hbel hdep hdap hold hb
   refine ⟨fun _=>?_,fun h=>absurd h (by decide)⟩
   have e1:bA.tmps[1]?.getD undef=.pointer (some ⟨w.heap.size,0,none⟩):=hb 1
   refine phf_run (.pointer (some ⟨w.heap.size,1,none⟩)) rfl ?_ rfl
   clear hb hdep hdap hold
   go_simp
 · intro x w1 bA hbel hdep hdap hold hb
   refine ⟨fun _=>?_,fun h=>absurd h (by decide)⟩
   have e6:bA.tmps[6]?.getD undef=.pointer (some ⟨w.heap.size,1,none⟩):=(hb 6).trans (hdep 3 (by decide))
   have u0:=(qa.below hbel qa.lt).cell 1
   refine phf_run (.slice A2 M.length c2) rfl ?_ rfl
   clear hb hdep hdap hold
   go_simp
 · intro x w1 bA hbel hdep hdap hold hb
   refine ⟨fun _=>?_,fun h=>absurd h (by decide)⟩
   have e7:bA.tmps[7]?.getD undef=.slice A2 M.length c2:=(hb 7).trans (hdep 4 (by decide))
   have HC:=Lib.hid (sclone_any _ M w1 (HMA.out _ hbel) lma)
   refine phf_call ?_ (HC.out.mono fun e w' ⟨v,he,ho,hb'⟩=>⟨v,he,hb',ho.base hbel.size,fun _=>ho.block⟩)
   clear hb hdep hdap hold
   go_simp
 · intro x w1 bA hbel hdep hdap hold hb
   refine ⟨fun _=>?_,fun h=>absurd h (by decide)⟩
   have e1:bA.tmps[1]?.getD undef=.pointer (some ⟨w.heap.size,0,none⟩):=hb 1
   refine phf_run (.pointer (some ⟨w.heap.size,2,none⟩)) rfl ?_ rfl
   clear hb hdep hdap hold
   go_simp
 · intro x w1 bA hbel hdep hdap hold hb
   refine ⟨fun _=>?_,fun h=>absurd h (by decide)⟩
   have e9:bA.tmps[9]?.getD undef=.pointer (some ⟨w.heap.size,2,none⟩):=(hb 9).trans (hdep 6 (by decide))
   have u0:=(qa.below hbel qa.lt).cell 2
   refine phf_run (.int .i64 L) rfl ?_ rfl
   clear hb hdep hdap hold
   go_simp
 · intro x w1 bA hbel hdep hdap hold hb
   refine ⟨fun _=>?_,fun h=>absurd h (by decide)⟩
   have ap5_8:=hdap 2 (by decide) 5 (by decide) (by decide) rfl rfl
   have ap8_5:=hdap 5 (by decide) 2 (by decide) (by decide) rfl rfl
   have p5:=hdep 2 (by decide)
   have e5:bA.tmps[5]?.getD undef=x 2:=hb 5
   generalize x 2=x5 at *
   have P5:=Lib.hid (show (fun (v:Value) (w:World)=>OwnI 3 w3.heap.size w v (S)) x5 w1 from p5)
   clear p5
   have p8:=hdep 5 (by decide)
   have e8:bA.tmps[8]?.getD undef=x 5:=hb 8
   generalize x 5=x8 at *
   have P8:=Lib.hid (show (fun (v:Value) (w:World)=>OwnI 3 w3.heap.size w v (M)) x8 w1 from p8)
   clear p8
   have e10:bA.tmps[10]?.getD undef=.int .i64 L:=(hb 10).trans (hdep 7 (by decide))
   obtain ⟨B1,n1,rfl⟩:=P5.out.form
   obtain ⟨B2,n2,rfl⟩:=P8.out.form
   refine phf_make (_) (w1) ?_ (Below.refl _ _) (⟨_,_,rfl,P5.out,P8.out,ap5_8⟩) (fun h=>Bool.noConfusion h)
   clear hb hdep hdap hold
   go_simp
 · intro x w1 bA hbel hdep hdap hold hb
   refine ⟨fun h=>absurd h (by decide),fun _ hall=>?_⟩
   have e2:bA.tmps[2]?.getD undef=.pointer (some ⟨w.heap.size+1,0,none⟩):=hb 2
   have e11:bA.tmps[11]?.getD undef=x 8:=hb 11
   have p5:=Lib.hid (show (fun (v:Value) (w:World)=>OwnI 3 w3.heap.size w v (S)) (x 2) w1 from hall 2 (by decide))
   have p8:=Lib.hid (show (fun (v:Value) (w:World)=>OwnI 3 w3.heap.size w v (M)) (x 5) w1 from hall 5 (by decide))
   have p11:=Lib.hid (show (fun (v:Value) (w:World)=>∃ v1 v2,v=.agg #[v1,v2,.int .i64 L]/\OwnI 3 w3.heap.size w v1 S/\OwnI 3 w3.heap.size w v2 M/\∀ k,v1.ownBlock=some k->v2.ownBlock≠some k) (x 8) w1 from hall 8 (by decide))
   clear hb hdep hdap hold
   obtain ⟨v1,v2,e11b,o1,o2,o3⟩:=p11.out
   rw [e11b] at e11
   have O1:=Lib.hid o1
   have O2:=Lib.hid o2
   obtain ⟨B1,n1,rfl⟩:=o1.form
   obtain ⟨B2,n2,rfl⟩:=o2.form
   have ag:=qr.below hbel qr.lt
   have c0:=ag.cell 0
   have c1:=ag.cell 1
   have c2:=ag.cell 2
   have f0:=ag.frozen 0
   have f1:=ag.frozen 1
   have f2:=ag.frozen 2
   have AG:=Lib.hid ag
   clear ag o1 o2 p5 p8 p11
   have hg1:=O1.out.apart AG.out (by decide)
   have hg2:=O2.out.apart AG.out (by decide)
   refine phs_store (n:=9) (x:=x) (R:=fun _ W=>∃ v1 v2,Arr W (w.heap.size+1) 24 [v1,v2,.int .i64 L]/\OwnI 3 w3.heap.size W v1 S/\OwnI 3 w3.heap.size W v2 M/\(∀ k,v1.ownBlock=some k->v2.ownBlock≠some k)/\Below w.heap.size w3 W) (((w1.setCell ⟨w.heap.size+1,0,none⟩ (.slice B1 S.length n1)).setCell ⟨w.heap.size+1,1,none⟩ (.slice B2 M.length n2)).setCell ⟨w.heap.size+1,2,none⟩ (.int .i64 L)) ?_ rfl (fun v=>⟨_,_,((AG.out.set 0 _).set 1 _).set 2 _,((O1.out.far hg1 _).far hg1 _).far hg1 _,((O2.out.far hg2 _).far hg2 _).far hg2 _,o3,(((hbel.mono hb3.size).setCell (p:=⟨w.heap.size+1,0,none⟩) (by simp) _).setCell (p:=⟨w.heap.size+1,1,none⟩) (by simp) _).setCell (p:=⟨w.heap.size+1,2,none⟩) (by simp) _⟩)
   clear e11b
   go_simp
 intro x w5 hR
 obtain ⟨v1,v2,ag,o1,o2,o3,hb5⟩:=hR
 have O1:=Lib.hid (o1.base (b2:=w.heap.size) (by omega))
 have O2:=Lib.hid (o2.base (b2:=w.heap.size) (by omega))
 have O3:=Lib.hid o3
 have HRES:=Lib.hid ag
 have HB:=Lib.hid (hb3.trans hb5)
 clear o1 o2 o3 ag hb5 hb3
 simp only [putAll,dstOf,Act.put,List.map_cons,List.map_nil,List.setIfInBounds_toArray,List.set_cons_succ,List.set_cons_zero,Nat.reduceAdd]
 go_wp2_with fail
 refine bodyPost_ret (v:=.agg #[v1,v2,.int .i64 L]) (results_c Try.results43 _ _ (w.heap.size+1) 24 _ _ rfl HRES.out Try.underlying24 rfl info_diag) rfl ?_
 exact ⟨_,_,rfl,O1.out,O2.out,O3.out,HB.out⟩
end Go.Proofs.Ytfnmeigpfmeomaa
