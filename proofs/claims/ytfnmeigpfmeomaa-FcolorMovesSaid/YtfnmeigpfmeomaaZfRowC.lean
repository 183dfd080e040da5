/- What the rows of this seat share: arguments opened. -/
import Derived.Test.YtfnmeigpfmeomaaRows
import Derived.Test.YtfnmeigpfmeomaaZfTab
import Derived.ProofKit
import Derived.Lib.SmallJoins
import Derived.Carry
namespace Go.Proofs.Ytfnmeigpfmeomaa
open Go.ChangeShapes Go.WideShapes Go.ChangeAt Go.RowKit Go.Joins
set_option linter.unusedVariables false
theorem Try.own:ownKnob Try.prog.godebug=none:=by kernel_rfl
theorem Try.laidOut:laidOutB Try.prog=true:=by kernel_rfl
section
variable {H:Type} {enc:TypeId × Value->H} {P:Program} {w:World} {base:Nat} {spare:Nat->Bool} {held:Bool}
theorem ints_of_trod {t e:TypeId} {fuel:Nat} {v:Value} {x:DataW H × List MemPlace} (ht:P.underlying t=some (.slice e)) (he:P.underlying e=some (.int .i64)) (hc:P.cellsOf e=1)
 (h:DataW.trod enc P w base spare held fuel t [v]=some x):∃ xs,Ints w v xs/\xs.length<=maxLen:=by
 rcases open_ints ht he hc h with ⟨hcs,_⟩|⟨a,len,cap,zs,hcs,_,hl,hm,hz,_,hcell,_⟩
 · injection hcs with e1 _
   subst e1
   exact ⟨[],Ints.nil w,by simp⟩
 · injection hcs with e1 _
   subst e1
   have hlz:len<=zs.length:=by rw [hz];split <;> omega
   refine ⟨zs.take len,⟨some a,cap,by simp [Nat.min_eq_left hlz],by simp;omega,fun k y hk=>?_⟩,by simp;omega⟩
   have hk':k<len:=by
    have:=(List.getElem?_eq_some_iff.1 hk).1
    simp at this;omega
   have hc0:=hcell k (by omega)
   rw [List.getElem?_take,if_pos hk'] at hk
   have hg:zs.getD k 0=y:=by rw [List.getD_eq_getElem?_getD,hk];rfl
   rw [hg] at hc0
   obtain ⟨b,o,sp⟩:=a
   have h00:=hcell 0 (by omega)
   have hsp:sp=none:=by simpa [Addr.add] using World.cell?_spot h00
   subst hsp
   refine ⟨b,o,rfl,?_⟩
   have:(⟨b,o,none⟩:Addr).add k=⟨b,o+k,none⟩:=by unfold Addr.add;split <;> simp_all
   rw [<- this];exact hc0
end
end Go.Proofs.Ytfnmeigpfmeomaa
