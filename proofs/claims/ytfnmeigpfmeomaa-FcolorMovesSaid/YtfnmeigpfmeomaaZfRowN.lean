/- What the rows of this seat share: a move (five fields) opened. -/
import Derived.Test.YtfnmeigpfmeomaaZfRowC
namespace Go.Proofs.Ytfnmeigpfmeomaa
open Go.ChangeShapes Go.WideShapes Go.ChangeAt Go.RowKit Go.Joins Go.Deep
set_option linter.unusedVariables false
section
variable {H:Type} {enc:TypeId × Value->H} {P:Program} {w:World} {base:Nat} {spare:Nat->Bool} {held:Bool}
theorem five_open {r:Reach} {b0:Nat} {t:TypeId} {f0 f1 f2 f3 f4:Field} {v:Value} {d:DataW H} {p:List MemPlace} (hs:P.underlying t=some (.struct #[f0,f1,f2,f3,f4])) (hone:oneCellFields P #[f0,f1,f2,f3,f4]=true) (hC:P.cellsOf t=5)
 (hv:Value.okWide P w r b0 t v) (h:DataW.Trod enc P w base spare held t v d p) :
 ∃ (c0 c1 c2 c3 c4:Value) (y0 y1 y2 y3 y4:DataW H × List MemPlace) (n:Nat),v=.agg #[c0,c1,c2,c3,c4]/\DataW.trod enc P w base spare held n f0.type [c0]=some y0/\DataW.trod enc P w base spare held n f1.type [c1]=some y1 /\
  DataW.trod enc P w base spare held n f2.type [c2]=some y2/\DataW.trod enc P w base spare held n f3.type [c3]=some y3/\DataW.trod enc P w base spare held n f4.type [c4]=some y4:=by
 obtain ⟨cs,rfl,hsz⟩:=okWide_struct hs hv
 obtain ⟨c0,c1,c2,c3,c4,rfl⟩:∃ c0 c1 c2 c3 c4,cs=#[c0,c1,c2,c3,c4]:=by
  obtain ⟨l⟩:=cs
  match l,(hsz.trans hC:l.length=5) with
  | [c0,c1,c2,c3,c4],_=>exact ⟨c0,c1,c2,c3,c4,rfl⟩
 obtain ⟨fuel,hf⟩:=h
 obtain ⟨xs,n,_,_,_,hlen,hf⟩:=DataW.trod_struct hs hf
 obtain ⟨o0,k0⟩:=hone_of hone 0 f0 rfl
 obtain ⟨o1,k1⟩:=hone_of hone 1 f1 rfl
 obtain ⟨o2,k2⟩:=hone_of hone 2 f2 rfl
 obtain ⟨o3,k3⟩:=hone_of hone 3 f3 rfl
 obtain ⟨o4,k4⟩:=hone_of hone 4 f4 rfl
 match xs,hlen with
 | [y0,y1,y2,y3,y4],_ =>
  exact ⟨c0,c1,c2,c3,c4,y0,y1,y2,y3,y4,n,rfl,by simpa [Value.cells,o0,k0] using hf 0 f0 rfl,by simpa [Value.cells,o1,k1] using hf 1 f1 rfl,by simpa [Value.cells,o2,k2] using hf 2 f2 rfl,by simpa [Value.cells,o3,k3] using hf 3 f3 rfl,by simpa [Value.cells,o4,k4] using hf 4 f4 rfl⟩
end
end Go.Proofs.Ytfnmeigpfmeomaa
