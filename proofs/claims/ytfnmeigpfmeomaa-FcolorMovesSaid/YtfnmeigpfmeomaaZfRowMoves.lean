/- FcolorMoves: for every input the law returns true, and the arguments read afterwards as before. No condition. -/
import Derived.Test.YtfnmeigpfmeomaaZfRowC
import Derived.Test.YtfnmeigpfmeomaaZfLmv
import Derived.Test.YtfnmeigpfmeomaaZfRowN
namespace Go.Proofs.Ytfnmeigpfmeomaa
open Go.ChangeShapes Go.WideShapes Go.ChangeAt Go.RowKit Go.Joins
set_option linter.unusedVariables false
namespace moves
set_option maxRecDepth 100000 in
theorem lifted (os:Os) (started:os.Started) (H:Type) (enc:TypeId × Value->H) :
 ReturnsInHanded {} Try.checked os 3 .any (Rows.fcolorMovesSpec.pre6 enc Try.prog Try.f3 Rows.fcolorMovesRow.domain false) (Rows.fcolorMovesSpec.post enc Try.prog Try.f3 false true false false):=by
 refine returnsInHanded_of_change (C:=Try.checked) Try.own started (by kernel_rfl) Try.func3
  (ChangeSpec.witness6 (enc:=enc) (C:=Try.checked) false ⟨#[],#[.agg #[.slice none 0 0,.slice none 0 0,.int .i64 0],.agg #[.int .i64 0,.int .i64 0,.int .i64 0,.int .i64 0,.bool false],.int .i64 0],[]⟩ 8 (by kernel_rfl) (by kernel_rfl) (by kernel_rfl) (by kernel_rfl)) ?_
 intro W base args ds gs before hval0 hW hcnd _
 have hval:∀ (j:Nat) t v,Try.f3.params[j]? = some t->args[j]? = some v->Value.okWide Try.prog W .any base t v:=hval0
 have hW':=hW
 obtain ⟨p,q,hA0,hV,rfl,hfz,hnd⟩:=hW
 have hA:DataW.TrodAll enc Try.prog W 0 (fun _=>true) true Try.f3.params.toList args.toList ds p:=hA0
 rw [Try.params3] at hA hval
 obtain ⟨v0,vs0,d0,ds0,p0,q0,hargs,rfl,rfl,h0,r0⟩:=trodAll_cons hA
 obtain ⟨v1,vs1,d1,ds1,p1,q1,rfl,rfl,rfl,h1,r1⟩:=trodAll_cons r0
 obtain ⟨v2,vs2,d2,ds2,p2,q2,rfl,rfl,rfl,h2,r2⟩:=trodAll_cons r1
 obtain ⟨rfl,rfl,rfl⟩:=trodAll_nil r2
 obtain rfl:args=#[v0,v1,v2]:=by cases args;simp_all
 obtain ⟨rfl,rfl⟩:=trodVars_none hV
 have k0:=h0
 have lt0:∀ x∈p0,x.block<W.heap.size:=by obtain ⟨m,hm⟩:=k0;exact DataW.trod_lt m _ _ _ hm
 have k1:=h1
 have lt1:∀ x∈p1,x.block<W.heap.size:=by obtain ⟨m,hm⟩:=k1;exact DataW.trod_lt m _ _ _ hm
 have k2:=h2
 have lt2:∀ x∈p2,x.block<W.heap.size:=by obtain ⟨m,hm⟩:=k2;exact DataW.trod_lt m _ _ _ hm
 obtain ⟨c00,c01,c02,y00,y01,y02,m0,rfl,_,_,hy00,hy01,hy02⟩:=open_agg3 Try.underlying24 (by kernel_rfl) (by kernel_rfl) (hval 0 24 v0 rfl rfl) h0
 obtain ⟨S0,hS0,_⟩:=ints_of_trod Try.underlying22 Try.underlying3 (by kernel_rfl) hy00
 obtain ⟨M0,hM0,_⟩:=ints_of_trod Try.underlying22 Try.underlying3 (by kernel_rfl) hy01
 obtain ⟨L0,g0,_,_⟩:=DataW.trod_int Try.underlying3 hy02
 simp only [List.cons.injEq,and_true] at g0
 subst g0
 obtain ⟨e10,e11,e12,e13,e14,u10,u11,u12,u13,u14,m1,rfl,hu10,hu11,hu12,hu13,hu14⟩:=five_open Try.underlying26 (by kernel_rfl) (by kernel_rfl) (hval 1 26 v1 rfl rfl) h1
 obtain ⟨k1k,g10,_,_⟩:=DataW.trod_int Try.underlying3 hu10
 obtain ⟨k1x,g11,_,_⟩:=DataW.trod_int Try.underlying3 hu11
 obtain ⟨k1y,g12,_,_⟩:=DataW.trod_int Try.underlying3 hu12
 obtain ⟨k1s,g13,_,_⟩:=DataW.trod_int Try.underlying3 hu13
 obtain ⟨k1o,g14,_⟩:=DataW.trod_bool Try.underlying4 hu14
 simp only [List.cons.injEq,and_true] at g10 g11 g12 g13 g14
 subst g10 g11 g12 g13 g14
 obtain ⟨i2,rfl,_,_,wf2⟩:=open_int Try.underlying3 (hval 2 3 v2 rfl rfl) h2
 clear hA0 hval0
 refine (moves_row c00 c01 S0 M0 L0 k1k k1x k1y k1s k1o i2 W hS0 hM0 wf2).mono fun e W' ⟨he,bel⟩=>?_
 subst he
 exact ⟨_,rfl,_,_,_,[],_,[],hW',trodAll_mk1 (shut_bool Try.underlying4 _),(trodAll_cons_mk (Below.trod Try.laidOut (by kernel_rfl) (of_decide_eq_true (by kernel_rfl)) k0 bel lt0) (trodAll_cons_mk (Below.trod Try.laidOut (by kernel_rfl) (of_decide_eq_true (by kernel_rfl)) k1 bel lt1) (trodAll_cons_mk (Below.trod Try.laidOut (by kernel_rfl) (of_decide_eq_true (by kernel_rfl)) k2 bel lt2) (trodAll_mk0)))),rfl,bel.frame _,fun h=>by cases h⟩
end moves
theorem moves_holds:Rows.FcolorMovesSaid :=
 OpenClaim.holds_of_wide 3 Try.f3 rfl rfl rfl rfl rfl rfl rfl ⟨rfl,rfl,rfl,rfl,rfl⟩ rfl rfl rfl rfl rfl (by kernel_rfl) Try.func3 (by kernel_rfl)
  (of_decide_eq_true (by kernel_rfl)) (by unfold Func.isWrapper;rw [if_neg (of_decide_eq_false (by kernel_rfl))];exact ⟨rfl,rfl⟩)
  (fun os started H enc _=>moves.lifted os started H enc)
end Go.Proofs.Ytfnmeigpfmeomaa
