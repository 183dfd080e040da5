/- Words for memory that all walks of this seat use: a block that is a known row, a slice that reads as a list of integers. -/
import Derived.Tactics
import Derived.Tactics2
import Derived.WalkKit
import Derived.LoopTactic
import Derived.RegionTactic
import Derived.BigQuiet
import Derived.Deep.QuietTactic
import Derived.Deep.Draws
import Derived.Laws.OwnMore
import Derived.Laws.MakeOwn
import Derived.Laws.Rows
import Derived.Lib.Hide
import Derived.Below
import Derived.Test.YtfnmeigpfmeomaaChecked
import Derived.IntWalk
import Derived.Deep.LoopGhost
import Derived.Deep.RegionHeld3
import Derived.Deep.DeepCutAuto
import Derived.Laws.ResultCell
import Derived.KernelRfl
import Derived.OwnWalk
import Derived.Orders
namespace Go.Proofs.Ytfnmeigpfmeomaa
open Go.RowKit
set_option linter.unusedVariables false
def rowOf (cs:List Value):Array Value:=cs.toArray
theorem rowOf_get (cs:List Value) (i:Nat):(rowOf cs)[i]? = cs[i]?:=by simp [rowOf]
theorem bdrewN {B:Nat} {a w:World} (h:Below B a w) (n:Nat):Below B a (w.drewN n):=⟨h.os,h.tape,h.output,h.size,h.block⟩
def Arr (w:World) (b:Nat) (t:TypeId) (cs:List Value):Prop:=w.heap[b]? = some (.cells (rowOf cs) t (0,0))
section
variable {w w':World} {b:Nat} {t:TypeId} {cs:List Value}
theorem Arr.lt (h:Arr w b t cs):b<w.heap.size:=by
 rcases Nat.lt_or_ge b w.heap.size with hlt|hge
 · exact hlt
 · unfold Arr at h;rw [Array.getElem?_eq_none hge] at h;cases h
theorem Arr.cell (h:Arr w b t cs) (i:Nat):w.cell? ⟨b,i,none⟩=cs[i]?:=by
 rw [cell_of_row w b i _ t (0,0) h,rowOf_get]
theorem Arr.frozen (h:Arr w b t cs) (i:Nat):w.frozen? ⟨b,i,none⟩=false:=frozen_of_row w b i _ t h
theorem Arr.new (w:World) (t:TypeId) (cs:List Value):Arr (w.alloc (.cells (rowOf cs) t)) w.heap.size t cs:=heap_alloc_new w _
theorem Arr.newAt (w:World) (t:TypeId) (cs:List Value) (k:Nat) (hk:k=w.heap.size):Arr (w.alloc (.cells (rowOf cs) t)) k t cs:=by subst hk;exact Arr.new w t cs
theorem Arr.drew (h:Arr w b t cs):Arr w.drew b t cs:=h
theorem Arr.drewN (h:Arr w b t cs) (n:Nat):Arr (w.drewN n) b t cs:=h
theorem Arr.alloc (h:Arr w b t cs) (o:Obj):Arr (w.alloc o) b t cs:=(Below.heap_alloc w o b h.lt).trans h
theorem Arr.set (h:Arr w b t cs) (i:Nat) (u:Value):Arr (w.setCell ⟨b,i,none⟩ u) b t (cs.set i u):=by
 unfold Arr at h ⊢
 rw [heap_setCell_same w b i _ t u h]
 simp [rowOf]
theorem Arr.far (h:Arr w b t cs) {p:Addr} (hp:b≠p.block) (u:Value):Arr (w.setCell p u) b t cs:=(Below.heap_setCell w p u b hp).trans h
theorem Arr.below {B:Nat} (h:Arr w b t cs) (hb:Below B w w') (hg:b<B):Arr w' b t cs:=(hb.block b hg).trans h
end
def Ints (w:World) (v:Value) (xs:List Int):Prop :=
 ∃ A c,v=.slice A xs.length c/\xs.length<=c/\∀ k x,xs[k]? = some x->∃ b o,A=some ⟨b,o,none⟩/\w.cell? ⟨b,o+k,none⟩=some (.int .i64 x)
section
variable {w w':World} {v:Value} {xs:List Int}
theorem Ints.keep (h:Ints w v xs) (hk:∀ b o,b<w.heap.size->w'.cell? ⟨b,o,none⟩=w.cell? ⟨b,o,none⟩):Ints w' v xs:=by
 obtain ⟨A,c,hv,hc,hx⟩:=h
 refine ⟨A,c,hv,hc,fun k x hkx=>?_⟩
 obtain ⟨b,o,hA,hcell⟩:=hx k x hkx
 exact ⟨b,o,hA,(hk b (o+k) (block_lt_of_cell hcell)).trans hcell⟩
theorem Ints.below (h:Ints w v xs) (hb:Below w.heap.size w w'):Ints w' v xs:=h.keep fun _ _ hlt=>hb.cell hlt
theorem Ints.drew (h:Ints w v xs):Ints w.drew v xs:=h
theorem Ints.drewN (h:Ints w v xs) (n:Nat):Ints (w.drewN n) v xs:=h
theorem Ints.alloc (h:Ints w v xs) (o:Obj):Ints (w.alloc o) v xs:=h.below ((Below.refl _ _).alloc (Nat.le_refl _) o)
theorem Ints.at_ {A:Option Addr} {n c k:Nat} (h:Ints w (.slice A n c) xs) (hk:k<xs.length) :
 ∃ b o,A=some ⟨b,o,none⟩/\b<w.heap.size/\w.cell? ⟨b,o+k,none⟩=some (.int .i64 xs[k]):=by
 obtain ⟨A',c',hv,hc,hx⟩:=h
 injection hv with h1 h2 h3
 subst h1
 obtain ⟨b,o,hA,hcell⟩:=hx k xs[k] (List.getElem?_eq_getElem hk)
 exact ⟨b,o,hA,block_lt_of_cell hcell,hcell⟩
theorem Ints.of_arr {b:Nat} {t:TypeId} (h:Arr w b t (xs.map (Value.int .i64))):Ints w (.slice (some ⟨b,0,none⟩) xs.length xs.length) xs:=by
 refine ⟨_,_,rfl,Nat.le_refl _,fun k x hk=>⟨b,0,rfl,?_⟩⟩
 rw [Nat.zero_add,h.cell,List.getElem?_map,hk];rfl
theorem Ints.nil (w:World):Ints w (.slice none 0 0) []:=⟨none,0,rfl,Nat.le_refl _,fun k x h=>by simp at h⟩
end
theorem run_make_one {P:Program} (t e:TypeId) (i:TypeInfo) (z:Value) (ht:P.underlying t=some (.slice e)) (hi:P.info? e=some i) (hz:i.zero=some z)
 (hs:i.size=1) (hzc:z.cells=#[z]) (hby:i.bytes<=24) (n:Nat) (hn:n<=1000000) (w:World) :
 (Instr.makeSlice t (.int .i64 (n:Int)) (.int .i64 (n:Int))).run P w=.ok (.slice (some ⟨w.heap.size,0,none⟩) n n) (w.alloc (.cells (rowOf (List.replicate n z)) e)):=by
 have hb:(i.bytes:Int)*(n:Int)<=281474976710656:=by
  have h1:i.bytes*n<=24*1000000:=Nat.mul_le_mul hby hn
  have h:((i.bytes*n:Nat):Int)<=281474976710656:=by omega
  rwa [Int.natCast_mul] at h
 have hr:=run_make (P:=P) w t e i z ht hi hz .i64 .i64 n n (by omega) (by omega) hb (by omega)
 simp only [Int.toNat_natCast,hs,Nat.mul_one,hzc] at hr
 rw [hr]
 congr 4
 apply Array.toList_inj.1
 rw [toList_madeCells_one];simp [rowOf]
end Go.Proofs.Ytfnmeigpfmeomaa
namespace Go.Proofs.Ytfnmeigpfmeomaa
set_option linter.unusedVariables false
def sumI:Nat->(Nat->Int)->Int
 | 0,_=>0
 | c+1,f=>sumI c f+f c
theorem sumI_congr {C:Nat} {f g:Nat->Int} (h:∀ l,l<C->f l=g l):sumI C f=sumI C g:=by
 induction C with
 | zero=>rfl
 | succ c ih=>rw [sumI,sumI,ih (fun l hl=>h l (by omega)),h c (by omega)]
theorem sumI_one {C j:Nat} {f g:Nat->Int} (hj:j<C) (h:∀ l,l<C->l≠j->f l=g l):sumI C f=sumI C g+(f j-g j):=by
 induction C with
 | zero=>omega
 | succ c ih =>
  rw [sumI,sumI]
  by_cases e:j=c
  · subst e
    rw [sumI_congr (f:=f) (g:=g) (fun l hl=>h l (by omega) (by omega))];omega
  · rw [ih (by omega) (fun l hl hne=>h l (by omega) hne),h c (by omega) (fun q=>e q.symm)];omega
theorem sumI_two {C j k:Nat} {f g:Nat->Int} (hj:j<C) (hk:k<C) (hjk:j≠k) (h:∀ l,l<C->l≠j->l≠k->f l=g l):sumI C f=sumI C g+(f j-g j)+(f k-g k):=by
 have h1:=sumI_one (f:=f) (g:=fun l=>if l=k then f k else g l) hj (fun l hl hne=>by
  show f l=if l=k then f k else g l
  by_cases e:l=k
  · rw [if_pos e,e]
  · rw [if_neg e];exact h l hl hne e)
 have h2:=sumI_one (f:=fun l=>if l=k then f k else g l) (g:=g) hk (fun l hl hne=>by
  show (if l=k then f k else g l)=g l
  rw [if_neg hne])
 simp only [if_neg hjk,if_pos] at h1 h2
 rw [h1,h2];omega
theorem sumI_mod {m:Int} {C:Nat} {f g:Nat->Int} (h:∀ l,l<C->m ∣ f l-g l):m ∣ sumI C f-sumI C g:=by
 induction C with
 | zero=>simp [sumI]
 | succ c ih =>
  rw [sumI,sumI,show sumI c f+f c-(sumI c g+g c)=(sumI c f-sumI c g)+(f c-g c) by omega]
  exact Int.dvd_add (ih (fun l hl=>h l (by omega))) (h c (by omega))
theorem sumI_sub {C:Nat} (f g:Nat->Int) (b:Int):sumI C (fun l=>f l-b*g l)=sumI C f-b*sumI C g:=by
 induction C with
 | zero=>simp [sumI]
 | succ c ih=>simp only [sumI];rw [ih,Int.mul_add];omega
theorem sumI_mul {C:Nat} (f:Nat->Int) (b:Int):sumI C (fun l=>b*f l)=b*sumI C f:=by
 induction C with
 | zero=>simp [sumI]
 | succ c ih=>simp only [sumI];rw [ih,Int.mul_add]
theorem sumI_zero {C:Nat}:sumI C (fun _=>0)=0:=by
 induction C with
 | zero=>rfl
 | succ c ih=>rw [sumI,ih];rfl
theorem sumI_single {C j:Nat} {f:Nat->Int} (hj:j<C) (h:∀ l,l<C->l≠j->f l=0):sumI C f=f j:=by
 have:=sumI_one (f:=f) (g:=fun _=>0) hj h
 rw [sumI_zero] at this
 omega
theorem sumI_mulr {C:Nat} (f:Nat->Int) (b:Int):sumI C (fun l=>f l*b)=sumI C f*b:=by
 induction C with
 | zero=>simp [sumI]
 | succ c ih=>simp only [sumI];rw [ih,Int.add_mul]
theorem sumI_plus {C:Nat} (f g:Nat->Int):sumI C (fun l=>f l+g l)=sumI C f+sumI C g:=by
 induction C with
 | zero=>simp [sumI]
 | succ c ih=>simp only [sumI];rw [ih];omega
theorem sumI_swap (n r:Nat) (F:Nat->Nat->Int):sumI n (fun i=>sumI r (fun k=>F i k))=sumI r (fun k=>sumI n (fun i=>F i k)):=by
 induction n with
 | zero=>simp only [sumI];rw [sumI_zero]
 | succ n ih=>simp only [sumI];rw [ih,sumI_plus]
def skp (k l:Nat):Nat:=if l<k then l else l+1
def sgn (k:Nat):Int:=if k%2=0 then 1 else -1
theorem sgn_succ (k:Nat):sgn (k+1) = - sgn k:=by
 unfold sgn
 by_cases h:k%2=0
 · rw [if_pos h,if_neg (by omega)]
 · rw [if_neg h,if_pos (by omega)];rfl
def dt:List Nat->(Nat->Nat->Int)->Int
 | [],_=>1
 | j :: J,f=>sumI (J.length+1) (fun k=>sgn k*f k j*dt J (fun l=>f (skp k l)))
def fup (f:Nat->Nat->Int) (k:Nat) (u:Nat->Int):Nat->Nat->Int:=fun l=>if l=k then u else f l
theorem dt_congr:∀ {J:List Nat} {f g:Nat->Nat->Int},(∀ l,l<J.length->∀ j∈J,f l j=g l j)->dt J f=dt J g
 | [],f,g,_=>rfl
 | j :: J,f,g,h=>by
  rw [dt,dt]
  refine sumI_congr (fun k hk=>?_)
  rw [h k (by simpa using hk) j (by simp),dt_congr (J:=J) (f:=fun l=>f (skp k l)) (g:=fun l=>g (skp k l)) (fun l hl i hi=>h (skp k l) (by unfold skp;simp only [List.length_cons];split <;> omega) i (by simp [hi]))]
theorem fup_skp_same (f:Nat->Nat->Int) (k:Nat) (u:Nat->Int):(fun l=>fup f k u (skp k l))=fun l=>f (skp k l):=by
 funext l
 unfold fup
 rw [if_neg (by unfold skp;split <;> omega)]
def usk (l k:Nat):Nat:=if k<l then k else k-1
theorem fup_skp_ne (f:Nat->Nat->Int) {k l:Nat} (h:l≠k) (u:Nat->Int):(fun i=>fup f k u (skp l i))=fup (fun i=>f (skp l i)) (usk l k) u:=by
 funext i
 show (if skp l i=k then u else f (skp l i))=if i=usk l k then u else f (skp l i)
 have e:(skp l i=k)=(i=usk l k):=by
  unfold skp usk
  apply propext
  split <;> split <;> omega
 simp only [e]
theorem sumI_add {C:Nat} (f g:Nat->Int) (c:Int):sumI C (fun l=>f l+c*g l)=sumI C f+c*sumI C g:=by
 induction C with
 | zero=>simp [sumI]
 | succ n ih=>simp only [sumI];rw [ih,Int.mul_add];omega
theorem dt_lin:∀ {J:List Nat} {f:Nat->Nat->Int} {k:Nat} (u v:Nat->Int) (c:Int),k<J.length->dt J (fup f k (fun j=>u j+c*v j))=dt J (fup f k u)+c*dt J (fup f k v)
 | [],f,k,u,v,c,h=>by simp at h
 | j :: J,f,k,u,v,c,h=>by
  rw [dt,dt,dt,<- sumI_add]
  refine sumI_congr (fun l hl=>?_)
  show sgn l*fup f k (fun j=>u j+c*v j) l j*dt J (fun i=>fup f k (fun j=>u j+c*v j) (skp l i))=sgn l*fup f k u l j*dt J (fun i=>fup f k u (skp l i))+c*(sgn l*fup f k v l j*dt J (fun i=>fup f k v (skp l i)))
  by_cases e:l=k
  · subst e
    rw [fup_skp_same,fup_skp_same,fup_skp_same]
    simp only [fup,if_pos]
    generalize dt J (fun i=>f (skp l i))=d
    rw [Int.mul_add,Int.add_mul,Int.mul_left_comm (sgn l) c,Int.mul_assoc c]
  · have hk:usk l k<J.length:=by unfold usk;simp only [List.length_cons] at h hl;split <;> omega
    rw [fup_skp_ne f e,fup_skp_ne f e,fup_skp_ne f e,dt_lin u v c hk]
    simp only [fup,if_neg e]
    generalize sgn l*f l j=s
    rw [Int.mul_add,Int.mul_left_comm]
theorem dt_zero {J:List Nat} {f:Nat->Nat->Int} {k:Nat} (h:k<J.length):dt J (fup f k (fun _=>0))=0:=by
 have h1:=dt_lin (f:=f) (fun _=>0) (fun _=>0) (-1) h
 have h2:(fun j:Nat=>(0:Int) + -1*0)=fun _=>0:=by funext;rfl
 rw [h2] at h1
 omega
theorem dt_mul {J:List Nat} {f:Nat->Nat->Int} {k:Nat} (v:Nat->Int) (c:Int) (h:k<J.length):dt J (fup f k (fun j=>c*v j))=c*dt J (fup f k v):=by
 have h1:=dt_lin (f:=f) (fun _=>0) v c h
 have h2:(fun j:Nat=>(0:Int)+c*v j)=fun j=>c*v j:=by funext;simp
 rw [h2,dt_zero h] at h1
 omega
theorem dt_adj:∀ {J:List Nat} {f:Nat->Nat->Int} {k:Nat},k+1<J.length->(∀ j∈J,f k j=f (k+1) j)->dt J f=0
 | [],f,k,h,_=>by simp at h
 | j :: J,f,k,h,he=>by
  simp only [List.length_cons] at h
  rw [dt]
  have h0:=sumI_two (C:=J.length+1) (j:=k) (k:=k+1) (f:=fun l=>sgn l*f l j*dt J (fun i=>f (skp l i))) (g:=fun _=>0) (by omega) (by omega) (by omega) (fun l hl h1 h2=>by
   show sgn l*f l j*dt J (fun i=>f (skp l i))=0
   have hz:dt J (fun i=>f (skp l i))=0:=by
    by_cases q:l<k
    · refine dt_adj (J:=J) (k:=k-1) (by omega) (fun i hi=>?_)
      show f (skp l (k-1)) i=f (skp l (k-1+1)) i
      unfold skp
      rw [if_neg (by omega),if_neg (by omega),show k-1+1=k by omega]
      exact he i (by simp [hi])
    · refine dt_adj (J:=J) (k:=k) (by omega) (fun i hi=>?_)
      show f (skp l k) i=f (skp l (k+1)) i
      unfold skp
      rw [if_pos (by omega),if_pos (by omega)]
      exact he i (by simp [hi])
   rw [hz,Int.mul_zero])
  rw [h0,sumI_zero]
  have e1:dt J (fun i=>f (skp (k+1) i))=dt J (fun i=>f (skp k i)):=dt_congr (fun l hl i hi=>by
   show f (skp (k+1) l) i=f (skp k l) i
   unfold skp
   by_cases q:l<k
   · rw [if_pos q,if_pos (by omega)]
   · by_cases q2:l=k
     · subst q2
       rw [if_pos (by omega),if_neg (by omega)]
       exact he i (by simp [hi])
     · rw [if_neg (by omega),if_neg (by omega)])
  show 0+(sgn k*f k j*dt J (fun i=>f (skp k i))-0)+(sgn (k+1)*f (k+1) j*dt J (fun i=>f (skp (k+1) i))-0)=0
  rw [e1,sgn_succ,<- he j (by simp),Int.neg_mul,Int.neg_mul]
  omega
theorem fup_self (f:Nat->Nat->Int) (k:Nat):fup f k (f k)=f:=by
 funext l;unfold fup;split
 · next e=>rw [e]
 · rfl
theorem fup_comm (f:Nat->Nat->Int) {k l:Nat} (h:k≠l) (u v:Nat->Int):fup (fup f k u) l v=fup (fup f l v) k u:=by
 funext i;unfold fup
 by_cases e1:i=l
 · by_cases e2:i=k
   · omega
   · rw [if_pos e1,if_neg e2,if_pos e1]
 · rw [if_neg e1]
   by_cases e2:i=k
   · rw [if_pos e2,if_pos e2]
   · rw [if_neg e2,if_neg e2,if_neg e1]
theorem dt_swap_adj {J:List Nat} {f:Nat->Nat->Int} {k:Nat} (h:k+1<J.length):dt J (fup (fup f k (f (k+1))) (k+1) (f k)) = - dt J f:=by
 have hk:k<J.length:=by omega
 have hne:k≠k+1:=by omega
 generalize hu:f k=u
 generalize hv:f (k+1)=v
 have z:dt J (fup (fup f k (fun j=>u j+1*v j)) (k+1) (fun j=>u j+1*v j))=0:=dt_adj h (fun j _=>by
  simp only [fup,if_neg hne,if_pos])
 have zu:dt J (fup (fup f k u) (k+1) u)=0:=dt_adj h (fun j _=>by simp only [fup,if_neg hne,if_pos])
 have zv:dt J (fup (fup f k v) (k+1) v)=0:=dt_adj h (fun j _=>by simp only [fup,if_neg hne,if_pos])
 rw [dt_lin u v 1 h,fup_comm f hne,dt_lin u v 1 hk,fup_comm f hne (fun j=>u j+1*v j),dt_lin u v 1 hk,fup_comm f hne.symm,fup_comm f hne.symm,fup_comm f hne.symm,fup_comm f hne.symm] at z
 rw [zu,zv] at z
 have e:fup (fup f k u) (k+1) v=f:=by rw [<- hu,<- hv,fup_self,fup_self]
 rw [e] at z
 omega
theorem dt_same:∀ (d:Nat) {J:List Nat} {f:Nat->Nat->Int} {a:Nat},a+1+d<J.length->(∀ j,f a j=f (a+1+d) j)->dt J f=0
 | 0,J,f,a,h,he=>dt_adj h (fun j _=>he j)
 | d+1,J,f,a,h,he=>by
  have hs:=dt_swap_adj (J:=J) (f:=f) (k:=a+1+d) (by omega)
  have hz:=dt_same d (J:=J) (f:=fup (fup f (a+1+d) (f (a+1+d+1))) (a+1+d+1) (f (a+1+d))) (a:=a) (by omega) (fun j=>by
   simp only [fup]
   rw [if_neg (by omega),if_neg (by omega),if_neg (by omega),if_pos True.intro]
   exact he j)
  rw [hz] at hs
  omega
theorem dt_alike {J:List Nat} {f:Nat->Nat->Int} {a b:Nat} (ha:a<J.length) (hb:b<J.length) (hab:a≠b) (he:∀ j,f a j=f b j):dt J f=0:=by
 rcases Nat.lt_or_ge a b with q|q
 · exact dt_same (b-(a+1)) (a:=a) (by omega) (fun j=>by rw [show a+1+(b-(a+1))=b by omega];exact he j)
 · exact dt_same (a-(b+1)) (a:=b) (by omega) (fun j=>by rw [show b+1+(a-(b+1))=a by omega];exact (he j).symm)
theorem dt_addmul {J:List Nat} {f:Nat->Nat->Int} {a b:Nat} (ha:a<J.length) (hb:b<J.length) (hab:a≠b) (c:Int):dt J (fup f b (fun j=>f b j+c*f a j))=dt J f:=by
 rw [dt_lin (f b) (f a) c hb,fup_self]
 have:dt J (fup f b (f a))=0:=dt_alike ha hb hab (fun j=>by simp only [fup,if_neg hab,if_pos])
 rw [this];omega
theorem dt_mod {m:Int}:∀ {J:List Nat} {f g:Nat->Nat->Int},(∀ l,l<J.length->∀ j∈J,m ∣ f l j-g l j)->m ∣ dt J f-dt J g
 | [],f,g,_=>by simp [dt]
 | j :: J,f,g,h=>by
  rw [dt,dt]
  refine sumI_mod (fun k hk=>?_)
  show m ∣ sgn k*f k j*dt J (fun l=>f (skp k l))-sgn k*g k j*dt J (fun l=>g (skp k l))
  have h1:=h k (by simpa using hk) j (by simp)
  have h2:=dt_mod (J:=J) (f:=fun l=>f (skp k l)) (g:=fun l=>g (skp k l)) (fun l hl i hi=>h (skp k l) (by unfold skp;simp only [List.length_cons];split <;> omega) i (by simp [hi]))
  generalize dt J (fun l=>f (skp k l))=d1 at *
  generalize dt J (fun l=>g (skp k l))=d2 at *
  generalize f k j=a at *
  generalize g k j=b at *
  have e:sgn k*a*d1-sgn k*b*d2=sgn k*(a*(d1-d2)+(a-b)*d2):=by
   rw [Int.mul_add,Int.mul_sub,Int.sub_mul,Int.mul_sub,Int.mul_sub,<- Int.mul_assoc,<- Int.mul_assoc,<- Int.mul_assoc];omega
  rw [e]
  exact Int.dvd_trans (Int.dvd_add (Int.dvd_trans h2 (Int.dvd_mul_left _ _)) (Int.dvd_trans h1 (Int.dvd_mul_right _ _))) (Int.dvd_mul_left _ _)
def prodN:Nat->(Nat->Nat)->Nat
 | 0,_=>1
 | n+1,g=>prodN n g*g n
def sumN:Nat->(Nat->Nat)->Nat
 | 0,_=>0
 | n+1,g=>sumN n g+g n
theorem prodN_congr {n:Nat} {f g:Nat->Nat} (h:∀ l,l<n->f l=g l):prodN n f=prodN n g:=by
 induction n with
 | zero=>rfl
 | succ n ih=>rw [prodN,prodN,ih (fun l hl=>h l (by omega)),h n (by omega)]
theorem prodN_mono {n:Nat} {f g:Nat->Nat} (h:∀ l,l<n->f l<=g l):prodN n f<=prodN n g:=by
 induction n with
 | zero=>exact Nat.le_refl _
 | succ n ih=>rw [prodN,prodN];exact Nat.mul_le_mul (ih (fun l hl=>h l (by omega))) (h n (by omega))
theorem sumN_mono {n:Nat} {f g:Nat->Nat} (h:∀ l,l<n->f l<=g l):sumN n f<=sumN n g:=by
 induction n with
 | zero=>exact Nat.le_refl _
 | succ n ih=>rw [sumN,sumN];exact Nat.add_le_add (ih (fun l hl=>h l (by omega))) (h n (by omega))
theorem sumN_congr {n:Nat} {f g:Nat->Nat} (h:∀ l,l<n->f l=g l):sumN n f=sumN n g:=by
 induction n with
 | zero=>rfl
 | succ n ih=>rw [sumN,sumN,ih (fun l hl=>h l (by omega)),h n (by omega)]
theorem sumN_mulr {n:Nat} (f:Nat->Nat) (c:Nat):sumN n (fun l=>f l*c)=sumN n f*c:=by
 induction n with
 | zero=>simp [sumN]
 | succ n ih=>simp only [sumN];rw [ih,Nat.add_mul]
theorem natAbs_sumI {n:Nat} (f:Nat->Int):(sumI n f).natAbs<=sumN n (fun l=>(f l).natAbs):=by
 induction n with
 | zero=>simp [sumI,sumN]
 | succ n ih =>
  rw [sumI,sumN]
  have:=Int.natAbs_add_le (sumI n f) (f n)
  omega
theorem prod_skip (n:Nat) (a s:Nat->Nat):sumN (n+1) (fun k=>a k*prodN n (fun l=>s (skp k l)))<=prodN (n+1) (fun l=>a l+s l):=by
 induction n with
 | zero=>simp [sumN,prodN]
 | succ n ih =>
  rw [sumN]
  have h1:sumN (n+1) (fun k=>a k*prodN (n+1) (fun l=>s (skp k l)))=sumN (n+1) (fun k=>a k*prodN n (fun l=>s (skp k l)))*s (n+1):=by
   rw [<- sumN_mulr]
   refine sumN_congr (fun k hk=>?_)
   show a k*(prodN n (fun l=>s (skp k l))*s (skp k n))=a k*prodN n (fun l=>s (skp k l))*s (n+1)
   rw [show skp k n=n+1 by unfold skp;rw [if_neg (by omega)],Nat.mul_assoc]
  have h2:prodN (n+1) (fun l=>s (skp (n+1) l))<=prodN (n+1) (fun l=>a l+s l):=by
   refine prodN_mono (fun l hl=>?_)
   show s (skp (n+1) l)<=a l+s l
   rw [show skp (n+1) l=l by unfold skp;rw [if_pos hl]];omega
  show _<=prodN (n+1) (fun l=>a l+s l)*(a (n+1)+s (n+1))
  rw [h1,Nat.mul_add,Nat.add_comm (prodN (n+1) (fun l=>a l+s l)*a (n+1))]
  exact Nat.add_le_add (Nat.mul_le_mul_right _ ih) (by rw [Nat.mul_comm (a (n+1))];exact Nat.mul_le_mul_right _ h2)
def rsum (J:List Nat) (u:Nat->Int):Nat:=(J.map fun j=>(u j).natAbs).sum
theorem dt_bound:∀ (J:List Nat) (f:Nat->Nat->Int),(dt J f).natAbs<=prodN J.length (fun l=>rsum J (f l))
 | [],f=>by simp [dt,prodN]
 | j :: J,f=>by
  rw [dt]
  refine Nat.le_trans (natAbs_sumI _) ?_
  refine Nat.le_trans (sumN_mono (g:=fun k=>(f k j).natAbs*prodN J.length (fun l=>rsum J (f (skp k l)))) (fun k _=>?_)) ?_
  · show (sgn k*f k j*dt J (fun l=>f (skp k l))).natAbs<=_
    rw [Int.natAbs_mul,Int.natAbs_mul,show (sgn k).natAbs=1 by unfold sgn;split <;> rfl,Nat.one_mul]
    exact Nat.mul_le_mul_left _ (dt_bound J (fun l=>f (skp k l)))
  · have h:=prod_skip J.length (fun k=>(f k j).natAbs) (fun l=>rsum J (f l))
    refine Nat.le_trans h (Nat.le_of_eq (prodN_congr (fun l _=>?_)))
    simp [rsum]
theorem prodN_const (n c:Nat):prodN n (fun _=>c)=c ^ n:=by
 induction n with
 | zero=>rfl
 | succ n ih=>rw [prodN,ih,Nat.pow_succ]
theorem dt_map (τ:Nat->Nat):∀ (J:List Nat) (f:Nat->Nat->Int),dt (J.map τ) f=dt J (fun l j=>f l (τ j))
 | [],f=>rfl
 | j :: J,f=>by
  rw [List.map_cons,dt,dt,List.length_map]
  refine sumI_congr (fun k _=>?_)
  show sgn k*f k (τ j)*dt (J.map τ) (fun l=>f (skp k l))=sgn k*f k (τ j)*dt J (fun l j=>f (skp k l) (τ j))
  rw [dt_map τ J]
def prodI:Nat->(Nat->Int)->Int
 | 0,_=>1
 | n+1,g=>prodI n g*g n
theorem prodI_front (n:Nat) (g:Nat->Int):prodI (n+1) g=g 0*prodI n (fun l=>g (l+1)):=by
 induction n with
 | zero=>simp [prodI]
 | succ n ih=>rw [prodI,ih,prodI,Int.mul_assoc]
theorem dt_tri:∀ (r s:Nat) (f:Nat->Nat->Int),(∀ l j,l<r->j<r->j<l->f l (s+j)=0)->dt (List.range' s r) f=prodI r (fun l=>f l (s+l))
 | 0,s,f,_=>rfl
 | r+1,s,f,h=>by
  rw [List.range'_succ,dt,List.length_range',prodI_front]
  have h0:=sumI_single (C:=r+1) (j:=0) (f:=fun k=>sgn k*f k s*dt (List.range' (s+1) r) (fun l=>f (skp k l))) (by omega) (fun l hl hne=>by
   show sgn l*f l s*dt (List.range' (s+1) r) (fun i=>f (skp l i))=0
   have:=h l 0 hl (by omega) (by omega)
   rw [Nat.add_zero] at this
   rw [this,Int.mul_zero,Int.zero_mul])
  rw [h0]
  have e:dt (List.range' (s+1) r) (fun l=>f (skp 0 l))=prodI r (fun l=>f (l+1) (s+1+l)):=by
   rw [dt_tri r (s+1) (fun l=>f (skp 0 l)) (fun l j hl hj hlt=>by
    show f (skp 0 l) (s+1+j)=0
    rw [show skp 0 l=l+1 by unfold skp;rw [if_neg (by omega)],show s+1+j=s+(j+1) by omega]
    exact h (l+1) (j+1) (by omega) (by omega) (by omega))]
   rfl
  show sgn 0*f 0 s*dt (List.range' (s+1) r) (fun l=>f (skp 0 l))=f 0 (s+0)*prodI r (fun l=>f (l+1) (s+(l+1)))
  rw [e,show sgn 0=1 from rfl,Int.one_mul,Nat.add_zero]
  have e2:(fun l=>f (l+1) (s+1+l))=fun l=>f (l+1) (s+(l+1)):=by funext l;rw [show s+1+l=s+(l+1) by omega]
  rw [e2];rfl
theorem dt_many {J:List Nat} {f:Nat->Nat->Int} {a:Nat} (ha:a<J.length) (c:Nat->Int) (hc:c a=0):dt J (fun l j=>f l j+c l*f a j)=dt J f:=by
 have h:∀ x,x<=J.length->dt J (fun l j=>f l j+(if l<x then c l else 0)*f a j)=dt J f:=by
  intro x
  induction x with
  | zero=>intro _;exact dt_congr (fun l _ j _=>by rw [if_neg (by omega)];simp)
  | succ x ih =>
   intro hx
   rw [<- ih (by omega)]
   by_cases e:x=a
   · refine dt_congr (fun l _ j _=>?_)
     by_cases q:l<x
     · rw [if_pos q,if_pos (by omega)]
     · by_cases q2:l=x
       · rw [if_pos (by omega),if_neg q,q2,e,hc]
       · rw [if_neg q,if_neg (by omega)]
   · have h1:=dt_addmul (J:=J) (f:=fun l j=>f l j+(if l<x then c l else 0)*f a j) ha (show x<J.length by omega) (fun z=>e z.symm) (c x)
     rw [<- h1]
     refine dt_congr (fun l _ j _=>?_)
     unfold fup
     by_cases q2:l=x
     · rw [if_pos q2,q2]
       simp only [if_neg (show ¬ x<x by omega),if_pos (show x<x+1 by omega),Int.zero_mul,Int.add_zero]
       by_cases q3:a<x
       · rw [if_pos q3,hc];simp
       · rw [if_neg q3];simp
     · rw [if_neg q2]
       show f l j+(if l<x+1 then c l else 0)*f a j=f l j+(if l<x then c l else 0)*f a j
       by_cases q:l<x
       · rw [if_pos q,if_pos (by omega)]
       · rw [if_neg q,if_neg (by omega)]
 rw [<- h J.length (Nat.le_refl _)]
 exact dt_congr (fun l hl j _=>by rw [if_pos hl])
theorem dt_comb {J:List Nat} {f:Nat->Nat->Int} {k:Nat} (hk:k<J.length) (b:Nat->Int):dt J (fup f k (fun j=>sumI J.length (fun l=>b l*f l j)))=b k*dt J f:=by
 have h:∀ x,x<=J.length->dt J (fup f k (fun j=>sumI x (fun l=>b l*f l j)))=(if k<x then b k else 0)*dt J f:=by
  intro x
  induction x with
  | zero =>
   intro _
   rw [if_neg (by omega),Int.zero_mul]
   exact dt_zero hk
  | succ x ih =>
   intro hx
   have h1:=dt_lin (J:=J) (f:=f) (k:=k) (fun j=>sumI x (fun l=>b l*f l j)) (f x) (b x) hk
   show dt J (fup f k (fun j=>sumI x (fun l=>b l*f l j)+b x*f x j))=_
   rw [h1,ih (by omega)]
   by_cases e:x=k
   · subst e
     rw [fup_self,if_neg (by omega),if_pos (by omega)];omega
   · have:dt J (fup f k (f x))=0:=dt_alike (show x<J.length by omega) hk e (fun j=>by simp only [fup,if_neg e,if_pos])
     rw [this]
     by_cases q:k<x
     · rw [if_pos q,if_pos (by omega)];omega
     · rw [if_neg q,if_neg (by omega)];omega
 rw [h J.length (Nat.le_refl _),if_pos hk]
end Go.Proofs.Ytfnmeigpfmeomaa
namespace Go.Proofs.Ytfnmeigpfmeomaa
open Go.RowKit
set_option linter.unusedVariables false
def turnN (h k:Nat):Nat:=h/4*4+(h%4+k)%4
set_option maxHeartbeats 400000 in
theorem turn_code (h:Nat) (w:World) (hh:h<1000) :
 Calls Try.prog 52 #[.int .i64 h,.int .i64 (-1)] w fun e w'=>e=.returned (.int .i64 (turnN h 3))/\w=w':=by
 have u0:¬ ((h:Int)<0):=by omega
 rcases (by omega:h%4=0\/h%4=1\/h%4=2\/h%4=3) with q|q|q|q
 · have q1:(h:Int)%4=0:=by omega
   go_enter Try.func52,Try.ntmps52
   go_wp2_with fail
   go_ret
   exact ⟨congrArg (fun z=>Ending.returned (Value.int .i64 z)) (by unfold turnN;go_num),rfl⟩
 · have q1:(h:Int)%4=1:=by omega
   go_enter Try.func52,Try.ntmps52
   go_wp2_with fail
   go_ret
   exact ⟨congrArg (fun z=>Ending.returned (Value.int .i64 z)) (by unfold turnN;go_num),rfl⟩
 · have q1:(h:Int)%4=2:=by omega
   go_enter Try.func52,Try.ntmps52
   go_wp2_with fail
   go_ret
   exact ⟨congrArg (fun z=>Ending.returned (Value.int .i64 z)) (by unfold turnN;go_num),rfl⟩
 · have q1:(h:Int)%4=3:=by omega
   go_enter Try.func52,Try.ntmps52
   go_wp2_with fail
   go_ret
   exact ⟨congrArg (fun z=>Ending.returned (Value.int .i64 z)) (by unfold turnN;go_num),rfl⟩
def outB (S:List Int) (h:Nat):Bool:=if h%4=1 then S[h/4]?.getD 0==1 else if h%4=2 then true else if h%4=3 then S[h/4]?.getD 0 == -1 else false
set_option maxHeartbeats 400000 in
theorem out_code (vs vm:Value) (L:Int) (S:List Int) (h:Nat) (w:World) (hS:Ints w vs S) (hh:h/4<S.length) (hl:S.length<=250) :
 Calls Try.prog 23 #[.agg #[vs,vm,.int .i64 L],.int .i64 h] w fun e w'=>e=.returned (.bool (outB S h))/\Below w.heap.size w w':=by
 have hS0:=hS
 obtain ⟨A,c,rfl,hc,hx⟩:=hS
 clear hx
 obtain ⟨b,o,rfl,hbl,hcell⟩:=hS0.at_ hh
 have hg:S[h/4]?.getD 0=S[h/4]:=by rw [List.getElem?_eq_getElem hh];rfl
 have hfin:=show outB S h=if h%4=1 then S[h/4]==1 else if h%4=2 then true else if h%4=3 then S[h/4] == -1 else false by unfold outB;rw [hg]
 clear hg
 generalize S[h/4]=x at *
 have u4:h<1000:=by omega
 have u1:((h:Int)/4)=((h/4:Nat):Int):=by omega
 have q1:(h:Int)%4=((h%4:Nat):Int):=by omega
 generalize h/4=k at *
 generalize outB S h=B at *
 have q5:h%4<4:=Nat.mod_lt _ (by omega)
 generalize h%4=j at *
 have u2:(k:Int)<(S.length:Int):=by omega
 have hW:Arr (w.alloc (.cells #[.slice (some ⟨b,o,none⟩) S.length c,vm,.int .i64 L] 24)) w.heap.size 24 [.slice (some ⟨b,o,none⟩) S.length c,vm,.int .i64 L]/\Below w.heap.size w (w.alloc (.cells #[.slice (some ⟨b,o,none⟩) S.length c,vm,.int .i64 L] 24)):=⟨Arr.new w _ _,(Below.refl _ _).alloc (Nat.le_refl _) _⟩
 rcases (by omega:j=0\/j=1\/j=2\/j=3) with q|q|q|q
 all_goals
  subst j
  simp at hfin q1
  subst hfin
  clear q5
  go_enter Try.func23,Try.ntmps23
  go_upto_region 1 with fail
  generalize (w.alloc (.cells #[.slice (some ⟨b,o,none⟩) S.length c,vm,.int .i64 L] 24))=w4 at hW ⊢
  obtain ⟨q0,hb4⟩:=hW
  have y0:=q0.cell 0
  have hcell4:=(hb4.cell hbl).trans hcell
  clear q0 hcell
  go_wp2_with fail
  go_ret
  exact ⟨rfl,hb4⟩
theorem results_ct {P:Program} {fn:Func} {p u:Tmp} {ty:TypeId} (h:fn.results=#[.cell p ty,.tmp u]) (tmps:Array Value) (w:World) (g:Nat) (t:TypeId) (cs:List Value) (d:TypeDesc)
 (hp:tmps.getD p undef=.pointer (some ⟨g,0,none⟩)) (hg:Arr w g t cs)
 (hu:P.underlying ty=some d) (hd:(match d with | .struct _ | .array _ _=>true|_=>false)=true) (hi:(P.info? ty).map (·.size)=some (rowOf cs).size) :
 (results fn tmps).run P w=.ok (.tuple #[.agg (rowOf cs),tmps.getD u undef]) w:=by
 rw [results_cell_tmp h,hp]
 simp [asAddr,run_loadVar_row w g t ty (rowOf cs) (0,0) d hg hu hd hi]
theorem results_c {P:Program} {fn:Func} {p:Tmp} {ty:TypeId} (h:fn.results=#[.cell p ty]) (tmps:Array Value) (w:World) (g:Nat) (t:TypeId) (cs:List Value) (d:TypeDesc)
 (hp:tmps.getD p undef=.pointer (some ⟨g,0,none⟩)) (hg:Arr w g t cs)
 (hu:P.underlying ty=some d) (hd:(match d with | .struct _ | .array _ _=>true|_=>false)=true) (hi:(P.info? ty).map (·.size)=some (rowOf cs).size) :
 (results fn tmps).run P w=.ok (.agg (rowOf cs)) w:=results_cell_row h tmps w g t (rowOf cs) (0,0) d hp hg hu hd hi
end Go.Proofs.Ytfnmeigpfmeomaa
namespace Go.Proofs.Ytfnmeigpfmeomaa
set_option linter.unusedVariables false
inductive Conn (E:Nat->Nat->Prop):Nat->Nat->Prop
 | refl (a:Nat):Conn E a a
 | step {a b c:Nat}:Conn E a b->E b c->Conn E a c
namespace Conn
variable {E:Nat->Nat->Prop} {a b c:Nat}
theorem one (h:E a b):Conn E a b:=.step (.refl a) h
theorem trans (h:Conn E a b) (k:Conn E b c):Conn E a c:=by
 induction k with
 | refl=>exact h
 | step _ e ih=>exact .step ih e
theorem symm (hE:∀ a b,E a b->E b a) (h:Conn E a b):Conn E b a:=by
 induction h with
 | refl=>exact .refl _
 | step _ e ih=>exact (one (hE _ _ e)).trans ih
theorem closed {P:Nat->Prop} (hP:∀ a b,E a b->P a->P b) (h:Conn E a b) (ha:P a):P b:=by
 induction h with
 | refl=>exact ha
 | step _ e ih=>exact hP _ _ e ih
end Conn
theorem countP_lt {p q:Nat->Bool}:∀ (l:List Nat),(∀ x∈l,p x=true->q x=true)->(∃ x∈l,q x=true/\p x=false)->l.countP p<l.countP q
 | [],_,h=>by obtain ⟨x,hx,_⟩:=h;cases hx
 | a :: l,hm,h=>by
  have hle:l.countP p<=l.countP q:=List.countP_mono_left (fun x hx=>hm x (List.mem_cons_of_mem _ hx))
  rw [List.countP_cons,List.countP_cons]
  by_cases hx:∃ x∈l,q x=true/\p x=false
  · have:=countP_lt l (fun x hx=>hm x (List.mem_cons_of_mem _ hx)) hx
    have ha:=hm a (by simp)
    cases hp:p a <;> cases hq:q a <;> simp_all <;> omega
  · obtain ⟨x,hx1,hx2,hx3⟩:=h
    rcases List.mem_cons.1 hx1 with rfl|hx1
    · simp [hx2,hx3];omega
    · exact absurd ⟨x,hx1,hx2,hx3⟩ hx
theorem passes {n:Nat} {E:Nat->Nat->Prop} (hE:∀ a b,E a b->a<n/\b<n) (T:Nat->Nat->Nat) (h0:∀ c,c<n->T 0 c<=c)
 (hd:∀ t c,T (t+1) c<=T t c) (he:∀ t a b,E a b->T (t+1) b<=T t a) {m c:Nat} (hm:m<n) (hc:Conn E m c):T n c<=m:=by
 have down:∀ t,T t m<=m:=by
  intro t
  induction t with
  | zero=>exact h0 m hm
  | succ t ih=>exact Nat.le_trans (hd t m) ih
 have key:∀ t,(∀ c,Conn E m c->T t c<=m)\/t+1<=(List.range n).countP (fun c=>decide (T t c<=m)):=by
  intro t
  induction t with
  | zero =>
   refine Or.inr ?_
   rw [Nat.zero_add]
   exact List.countP_pos_iff.2 ⟨m,List.mem_range.2 hm,by simpa using h0 m hm⟩
  | succ t ih =>
   rcases ih with ih|ih
   · exact Or.inl fun c h=>Nat.le_trans (hd t c) (ih c h)
   · by_cases hx:∃ c∈List.range n,decide (T (t+1) c<=m)=true/\decide (T t c<=m)=false
     · refine Or.inr (Nat.lt_of_le_of_lt ih ?_)
       refine countP_lt _ (fun x _ h=>?_) hx
       have:=hd t x
       simp only [decide_eq_true_eq] at h ⊢
       omega
     · refine Or.inl fun c h=>?_
       have hcl:T t c<=m:=by
        refine h.closed (P:=fun c=>T t c<=m) (fun a b e ha=>?_) (down t)
        have h1:=he t a b e
        rcases Nat.lt_or_ge m (T t b) with h2|h2
        · exact absurd ⟨b,List.mem_range.2 (hE a b e).2,by simp;omega,by simp;omega⟩ hx
        · exact h2
       exact Nat.le_trans (hd t c) hcl
 rcases key n with h|h
 · exact h c hc
 · have:=List.countP_le_length (p:=fun c=>decide (T n c<=m)) (l:=List.range n)
   rw [List.length_range] at this
   omega
end Go.Proofs.Ytfnmeigpfmeomaa
namespace Go.Proofs.Ytfnmeigpfmeomaa
set_option linter.unusedVariables false
def mt (M:List Int) (h:Nat):Nat:=(M[h]?.getD 0).toNat
def gn (l:List Nat) (k:Nat):Nat:=l[k]?.getD 0
theorem gn_set (l:List Nat) (a x c:Nat) (ha:a<l.length):gn (l.set a x) c=if c=a then x else gn l c:=by
 unfold gn
 rw [List.getElem?_set]
 by_cases h:a=c
 · subst h;simp [ha]
 · simp [h,Ne.symm h]
def opL (M:List Int) (l:List Nat) (h:Nat):List Nat :=
 (l.set (h/4) (min (gn l (h/4)) (gn l (mt M h/4)))).set (mt M h/4) (min (gn l (h/4)) (gn l (mt M h/4)))
def passK (M:List Int) (l:List Nat):Nat->List Nat
 | 0=>l
 | k+1=>opL M (passK M l k) k
def labK (M:List Int) (n:Nat):Nat->List Nat
 | 0=>List.range n
 | t+1=>passK M (labK M n t) M.length
theorem opL_length (M:List Int) (l:List Nat) (h:Nat):(opL M l h).length=l.length:=by simp [opL]
theorem passK_length (M:List Int) (l:List Nat):∀ k,(passK M l k).length=l.length
 | 0=>rfl
 | k+1=>by rw [passK,opL_length,passK_length M l k]
theorem labK_length (M:List Int) (n:Nat):∀ t,(labK M n t).length=n
 | 0=>by simp [labK]
 | t+1=>by rw [labK,passK_length,labK_length M n t]
def Rg (M:List Int) (n:Nat):Prop:=M.length=4*n/\∀ h,h<4*n->mt M h<4*n
def Ed (M:List Int) (a b:Nat):Prop:=∃ h,h<M.length/\((a=h/4/\b=mt M h/4)\/(b=h/4/\a=mt M h/4))
theorem Ed.symm {M:List Int} {a b:Nat} (h:Ed M a b):Ed M b a:=by
 obtain ⟨h,h1,h2|h2⟩:=h
 · exact ⟨h,h1,Or.inr ⟨h2.1,h2.2⟩⟩
 · exact ⟨h,h1,Or.inl ⟨h2.1,h2.2⟩⟩
section
variable {M:List Int} {n:Nat} (hR:Rg M n)
include hR
theorem Ed.lt {a b:Nat} (h:Ed M a b):a<n/\b<n:=by
 obtain ⟨h,h1,h2⟩:=h
 have h3:=hR.1
 have h4:=hR.2 h (by omega)
 omega
theorem gn_opL {l:List Nat} (hl:l.length=n) {h:Nat} (hh:h<M.length) (c:Nat) :
 gn (opL M l h) c=if c=h/4\/c=mt M h/4 then min (gn l (h/4)) (gn l (mt M h/4)) else gn l c:=by
 have h3:=hR.1
 have h4:=hR.2 h (by omega)
 unfold opL
 rw [gn_set _ _ _ _ (by rw [List.length_set];omega),gn_set _ _ _ _ (by omega)]
 by_cases e1:c=mt M h/4
 · simp [e1]
 · by_cases e2:c=h/4
   · simp [e2]
   · simp [e1,e2]
theorem opL_le {l:List Nat} (hl:l.length=n) {h:Nat} (hh:h<M.length) (c:Nat):gn (opL M l h) c<=gn l c:=by
 rw [gn_opL hR hl hh]
 split
 · rename_i e
   rcases e with e|e <;> subst e <;> omega
 · exact Nat.le_refl _
theorem passK_le {l:List Nat} (hl:l.length=n) (c:Nat):∀ (k j:Nat),j<=k->k<=M.length->gn (passK M l k) c<=gn (passK M l j) c:=by
 intro k
 induction k with
 | zero=>intro j h1 _;have:j=0:=by omega
         subst this;exact Nat.le_refl _
 | succ k ih =>
  intro j h1 h2
  rcases Nat.lt_or_ge j (k+1) with h|h
  · refine Nat.le_trans ?_ (ih j (by omega) (by omega))
    exact opL_le hR (by rw [passK_length];exact hl) (by omega) c
  · have:j=k+1:=by omega
    subst this;exact Nat.le_refl _
theorem passK_edge {l:List Nat} (hl:l.length=n) {a b:Nat} (h:Ed M a b):gn (passK M l M.length) b<=gn l a:=by
 obtain ⟨h,h1,h2⟩:=h
 have e1:=passK_le hR hl b M.length (h+1) (by omega) (Nat.le_refl _)
 have e2:=passK_le hR hl a h 0 (by omega) (by omega)
 have e3:=gn_opL hR (l:=passK M l h) (by rw [passK_length];exact hl) h1 b
 have e4:gn (passK M l 0) a=gn l a:=rfl
 rw [passK,e3] at e1
 rw [e4] at e2
 rw [if_pos (by rcases h2 with h2|h2 <;> omega)] at e1
 rcases h2 with ⟨rfl,rfl⟩|⟨rfl,rfl⟩ <;> omega
theorem opL_conn {l:List Nat} (hl:l.length=n) (hc:∀ c,c<n->Conn (Ed M) c (gn l c)) {h:Nat} (hh:h<M.length) (c:Nat) (hcn:c<n):Conn (Ed M) c (gn (opL M l h) c):=by
 have h3:=hR.1
 have h4:=hR.2 h (by omega)
 have ed:Ed M (h/4) (mt M h/4):=⟨h,hh,Or.inl ⟨rfl,rfl⟩⟩
 rw [gn_opL hR hl hh]
 split
 · rename_i e
   have c1:=hc (h/4) (by omega)
   have c2:=hc (mt M h/4) (by omega)
   have d1:Conn (Ed M) c (h/4):=by
    rcases e with e|e <;> subst e
    · exact .refl _
    · exact .one ed.symm
   have d2:Conn (Ed M) c (mt M h/4):=by
    rcases e with e|e <;> subst e
    · exact .one ed
    · exact .refl _
   rcases Nat.le_total (gn l (h/4)) (gn l (mt M h/4)) with q|q
   · rw [Nat.min_eq_left q];exact d1.trans c1
   · rw [Nat.min_eq_right q];exact d2.trans c2
 · exact hc c hcn
theorem passK_conn {l:List Nat} (hl:l.length=n) (hc:∀ c,c<n->Conn (Ed M) c (gn l c)):∀ k,k<=M.length->∀ c,c<n->Conn (Ed M) c (gn (passK M l k) c):=by
 intro k
 induction k with
 | zero=>intro _;exact hc
 | succ k ih =>
  intro h c hcn
  exact opL_conn hR (by rw [passK_length];exact hl) (ih (by omega)) (by omega) c hcn
theorem labK_conn:∀ t c,c<n->Conn (Ed M) c (gn (labK M n t) c):=by
 intro t
 induction t with
 | zero=>intro c hc;rw [labK,gn,List.getElem?_range hc];exact .refl _
 | succ t ih=>exact passK_conn hR (labK_length M n t) ih _ (Nat.le_refl _)
theorem labK_least {c m:Nat} (hm:m<n) (h:Conn (Ed M) m c):gn (labK M n n) c<=m:=by
 refine passes (E:=Ed M) (n:=n) (fun a b e=>e.lt hR) (fun t c=>gn (labK M n t) c) ?_ ?_ ?_ hm h
 · intro c hc;show gn (labK M n 0) c<=c
   rw [labK,gn,List.getElem?_range hc];exact Nat.le_refl _
 · intro t c;exact passK_le hR (labK_length M n t) c M.length 0 (by omega) (Nat.le_refl _)
 · intro t a b e;exact passK_edge hR (labK_length M n t) e
end
end Go.Proofs.Ytfnmeigpfmeomaa
namespace Go.Proofs.Ytfnmeigpfmeomaa
open Go.RowKit
set_option linter.unusedVariables false
def nc (l:List Nat):List Value:=l.map fun (k:Nat)=>Value.int .i64 (k:Int)
theorem nc_get {l:List Nat} {k:Nat} (h:k<l.length):(nc l)[k]? = some (.int .i64 (gn l k:Nat)):=by
 unfold nc gn;rw [List.getElem?_map,List.getElem?_eq_getElem h];rfl
theorem nc_set (l:List Nat) (k x:Nat):(nc l).set k (.int .i64 (x:Nat))=nc (l.set k x):=by
 unfold nc;rw [List.map_set]
theorem mt_at {w:World} {A:Option Addr} {n c h:Nat} {M:List Int} (hM:Ints w (.slice A n c) M) (hh:h<M.length) (h0:0<=M[h]) :
 ∃ b o,A=some ⟨b,o,none⟩/\b<w.heap.size/\w.cell? ⟨b,o+h,none⟩=some (.int .i64 (mt M h:Nat)):=by
 obtain ⟨b,o,hA,hb,hc⟩:=hM.at_ hh
 refine ⟨b,o,hA,hb,?_⟩
 rw [hc,mt,List.getElem?_eq_getElem hh]
 simp only [Option.getD_some]
 rw [Int.toNat_of_nonneg h0]
def upto (n k:Nat):List Nat:=(List.range n).map fun i=>if i<k then i else 0
theorem upto_zero (n:Nat):nc (upto n 0)=List.replicate n (.int .i64 0):=by
 apply List.ext_getElem?
 intro i
 unfold nc upto
 simp [List.getElem?_replicate]
 by_cases h:i<n <;> simp [h]
theorem upto_all (n:Nat):upto n n=List.range n:=by
 apply List.ext_getElem?
 intro i
 unfold upto
 simp
 by_cases h:i<n <;> simp [h]
theorem upto_step {n k:Nat} (h:k<n):(upto n k).set k k=upto n (k+1):=by
 apply List.ext_getElem?
 intro i
 unfold upto
 rw [List.getElem?_set]
 by_cases e:k=i
 · subst e;simp [h]
 · simp [e]
   by_cases hi:i<n <;> simp [hi]
   split <;> split <;> omega
theorem upto_length (n k:Nat):(upto n k).length=n:=by simp [upto]
theorem info_int:(Try.prog.info? 3).map (fun i=>(i.zero,i.size,i.bytes))=some (some (.int .i64 0),1,8):=by kernel_rfl
def itr (f:Nat->Nat):Nat->Nat->Nat
 | 0,i=>i
 | k+1,i=>f (itr f k i)
theorem itr_add (f:Nat->Nat) (a b i:Nat):itr f (a+b) i=itr f a (itr f b i):=by
 induction a with
 | zero=>rw [Nat.zero_add];rfl
 | succ a ih=>rw [Nat.succ_add,itr,itr,ih]
structure PermF (n:Nat) (f:Nat->Nat):Prop where
 lt:∀ i,i<n->f i<n
 inj:∀ i j,i<n->j<n->f i=f j->i=j
def Rl (f:Nat->Nat) (i j:Nat):Prop:=∃ k,itr f k i=j
theorem Rl.refl (f:Nat->Nat) (i:Nat):Rl f i i:=⟨0,rfl⟩
theorem Rl.step (f:Nat->Nat) (i:Nat):Rl f i (f i):=⟨1,rfl⟩
theorem Rl.trans {f:Nat->Nat} {i j k:Nat} (h:Rl f i j) (h':Rl f j k):Rl f i k:=by
 obtain ⟨a,ha⟩:=h
 obtain ⟨b,hb⟩:=h'
 exact ⟨b+a,by rw [itr_add,ha,hb]⟩
theorem len_sub:∀ (l X:List Nat),l.Nodup->(∀ x∈l,x∈X)->l.length<=X.length:=by
 intro l
 induction l with
 | nil=>intro X _ _;simp
 | cons a l ih =>
  intro X hn hs
  have ha:=hs a List.mem_cons_self
  have:=ih (X.erase a) (List.nodup_cons.1 hn).2 (fun x hx=>by
   rw [List.mem_erase_of_ne]
   · exact hs x (List.mem_cons_of_mem _ hx)
   · intro e;subst e;exact (List.nodup_cons.1 hn).1 hx)
  rw [List.length_erase_of_mem ha] at this
  have hpos:0<X.length:=List.length_pos_of_mem ha
  simp only [List.length_cons]
  omega
theorem nodup_map {g:Nat->Nat}:∀ {l:List Nat},l.Nodup->(∀ a,a∈l->∀ b,b∈l->g a=g b->a=b)->(l.map g).Nodup:=by
 intro l
 induction l with
 | nil=>intro _ _;simp
 | cons a l ih =>
  intro hn hi
  rw [List.map_cons,List.nodup_cons]
  refine ⟨fun hm=>?_,ih (List.nodup_cons.1 hn).2 (fun x hx y hy=>hi x (List.mem_cons_of_mem _ hx) y (List.mem_cons_of_mem _ hy))⟩
  obtain ⟨b,hb,e⟩:=List.mem_map.1 hm
  have:=hi b (List.mem_cons_of_mem _ hb) a List.mem_cons_self e
  subst this
  exact (List.nodup_cons.1 hn).1 hb
section
variable {n:Nat} {f:Nat->Nat}
theorem PermF.itr_lt (h:PermF n f) {i:Nat} (hi:i<n) (k:Nat):itr f k i<n:=by
 induction k with
 | zero=>exact hi
 | succ k ih=>exact h.lt _ ih
theorem PermF.itr_inj (h:PermF n f) {i j:Nat} (hi:i<n) (hj:j<n):∀ k,itr f k i=itr f k j->i=j:=by
 intro k
 induction k with
 | zero=>exact id
 | succ k ih=>intro e;exact ih (h.inj _ _ (h.itr_lt hi k) (h.itr_lt hj k) e)
theorem PermF.apart (h:PermF n f) {i:Nat} (hi:i<n) {m:Nat} (hm:∀ k,0<k->k<m->itr f k i≠i):m<=n:=by
 have hn:((List.range m).map (fun k=>itr f k i)).Nodup:=by
  refine nodup_map List.nodup_range ?_
  intro a ha b hb e
  rw [List.mem_range] at ha hb
  rcases Nat.lt_trichotomy a b with hab|hab|hab
  · exfalso
    have:itr f (b-a) i=i:=by
     apply h.itr_inj (h.itr_lt hi _) hi a
     rw [<- itr_add,show a+(b-a)=b from by omega];exact e.symm
    exact hm (b-a) (by omega) (by omega) this
  · exact hab
  · exfalso
    have:itr f (a-b) i=i:=by
     apply h.itr_inj (h.itr_lt hi _) hi b
     rw [<- itr_add,show b+(a-b)=a from by omega];exact e
    exact hm (a-b) (by omega) (by omega) this
 have:=len_sub _ (List.range n) hn (fun x hx=>by
  obtain ⟨k,_,rfl⟩:=List.mem_map.1 hx
  exact List.mem_range.2 (h.itr_lt hi k))
 simpa using this
theorem PermF.back (h:PermF n f) {i:Nat} (hi:i<n):∃ k,0<k/\k<=n/\itr f k i=i:=by
 by_cases hb:∃ k,0<k/\k<=n/\itr f k i=i
 · exact hb
 · have:=h.apart hi (m:=n+1) (fun k h1 h2 e=>hb ⟨k,h1,by omega,e⟩)
   omega
theorem PermF.symm (h:PermF n f) {i j:Nat} (hi:i<n) (hr:Rl f i j):Rl f j i:=by
 obtain ⟨k,rfl⟩:=hr
 induction k with
 | zero=>exact Rl.refl f i
 | succ k ih =>
  refine Rl.trans ?_ ih
  obtain ⟨m,hm,_,e⟩:=h.back (h.itr_lt hi k)
  refine ⟨m-1,?_⟩
  show itr f (m-1) (itr f (k+1) i)=itr f k i
  have:itr f (m-1) (itr f 1 (itr f k i))=itr f k i:=by rw [<- itr_add,show m-1+1=m from by omega];exact e
  exact this
theorem Rl.lt (h:PermF n f) {i j:Nat} (hi:i<n) (hr:Rl f i j):j<n:=by obtain ⟨k,rfl⟩:=hr;exact h.itr_lt hi k
def rB (f:Nat->Nat) (n j i:Nat):Bool:=(List.range (n+1)).any fun k=>itr f k j==i
theorem rB_iff (h:PermF n f) {j i:Nat} (hj:j<n):rB f n j i=true ↔ Rl f j i:=by
 simp only [rB,List.any_eq_true,List.mem_range,beq_iff_eq]
 constructor
 · rintro ⟨k,_,e⟩;exact ⟨k,e⟩
 · rintro ⟨k,e⟩
   induction k using Nat.strongRecOn with
   | _ k ih =>
    by_cases hk:k<n+1
    · exact ⟨k,hk,e⟩
    · obtain ⟨m,hm,hmn,eb⟩:=h.back hj
      refine ih (k-m) (by omega) ?_
      rw [<- e,show k=(k-m)+m from by omega,itr_add,eb]
      congr 1
      omega
def heads (f:Nat->Nat) (n:Nat):List Nat:=(List.range n).filter fun i=>(List.range i).all fun j=>!rB f n j i
theorem mem_heads (h:PermF n f) {i:Nat}:i∈heads f n ↔ i<n/\∀ j,j<i->¬ Rl f j i:=by
 simp only [heads,List.mem_filter,List.mem_range,List.all_eq_true,Bool.not_eq_true']
 constructor
 · rintro ⟨hi,hj⟩
   refine ⟨hi,fun j hlt hr=>?_⟩
   have:=hj j hlt
   rw [(rB_iff h (by omega)).2 hr] at this
   cases this
 · rintro ⟨hi,hj⟩
   refine ⟨hi,fun j hlt=>?_⟩
   cases hr:rB f n j i with
   | false=>rfl
   | true=>exact absurd ((rB_iff h (by omega)).1 hr) (hj j hlt)
theorem exists_head (h:PermF n f):∀ i,i<n->∃ j,j∈heads f n/\Rl f j i:=by
 intro i
 induction i using Nat.strongRecOn with
 | _ i ih =>
  intro hi
  by_cases hh:∃ j,j<i/\Rl f j i
  · obtain ⟨j,hj,hr⟩:=hh
    obtain ⟨k,hk,hr'⟩:=ih j hj (by omega)
    exact ⟨k,hk,hr'.trans hr⟩
  · exact ⟨i,(mem_heads h).2 ⟨hi,fun j hj hr=>hh ⟨j,hj,hr⟩⟩,Rl.refl f i⟩
theorem heads_inj (h:PermF n f) {i j:Nat} (hi:i∈heads f n) (hj:j∈heads f n) (hr:Rl f i j):i=j:=by
 have h1:=(mem_heads h).1 hi
 have h2:=(mem_heads h).1 hj
 rcases Nat.lt_trichotomy i j with hlt|e|hlt
 · exact absurd hr (h2.2 i hlt)
 · exact e
 · exact absurd (h.symm h1.1 hr) (h1.2 j hlt)
end
theorem choose_list {P:Nat->Nat->Prop}:∀ (l:List Nat),(∀ i∈l,∃ j,P i j)->∃ g:Nat->Nat,∀ i∈l,P i (g i):=by
 intro l
 induction l with
 | nil=>intro _;exact ⟨id,fun i hi=>by cases hi⟩
 | cons a l ih =>
  intro h
  obtain ⟨g,hg⟩:=ih (fun i hi=>h i (List.mem_cons_of_mem _ hi))
  obtain ⟨j,hj⟩:=h a List.mem_cons_self
  refine ⟨fun i=>if i=a then j else g i,fun i hi=>?_⟩
  by_cases e:i=a
  · subst e;simp only [if_true];exact hj
  · simp only [e,if_false]
    rcases List.mem_cons.1 hi with e' | hi
    · exact absurd e' e
    · exact hg i hi
end Go.Proofs.Ytfnmeigpfmeomaa
namespace Go.Proofs.Ytfnmeigpfmeomaa
set_option linter.unusedVariables false
def opp (h:Nat):Nat:=h/4*4+(h%4+2)%4
def lowA (M:List Int) (l:List Nat) (h:Nat):Nat :=
 if h%2=1 then min (min (gn l h) (gn l (mt M h))) (gn l (opp h)) else min (gn l h) (gn l (mt M h))
def opA (M:List Int) (l:List Nat) (h:Nat):List Nat:=l.set h (lowA M l h)
def passA (M:List Int) (l:List Nat):Nat->List Nat
 | 0=>l
 | k+1=>opA M (passA M l k) k
def labA (M:List Int) (n:Nat):Nat->List Nat
 | 0=>List.range n
 | t+1=>passA M (labA M n t) n
theorem passA_length (M:List Int) (l:List Nat):∀ k,(passA M l k).length=l.length
 | 0=>rfl
 | k+1=>by rw [passA,opA,List.length_set,passA_length M l k]
theorem labA_length (M:List Int) (n:Nat):∀ t,(labA M n t).length=n
 | 0=>by simp [labA]
 | t+1=>by rw [labA,passA_length,labA_length M n t]
def Rh (M:List Int) (n:Nat):Prop:=n%4=0/\∀ h,h<n->mt M h<n
def Sees (M:List Int) (n a b:Nat):Prop:=b<n/\(a=mt M b\/(b%2=1/\a=opp b))
section
variable {M:List Int} {n:Nat} (hR:Rh M n)
include hR
theorem opp_lt {h:Nat} (hh:h<n):opp h<n:=by have:=hR.1;unfold opp;omega
theorem Sees.lt {a b:Nat} (h:Sees M n a b):a<n/\b<n:=by
 obtain ⟨h1,h2⟩:=h
 rcases h2 with rfl|⟨_,rfl⟩
 · exact ⟨hR.2 b h1,h1⟩
 · exact ⟨opp_lt hR h1,h1⟩
omit hR in
theorem gn_opA {l:List Nat} (hl:l.length=n) {h:Nat} (hh:h<n) (c:Nat):gn (opA M l h) c=if c=h then lowA M l h else gn l c:=gn_set _ _ _ _ (by omega)
omit hR in
theorem opA_le {l:List Nat} (hl:l.length=n) {h:Nat} (hh:h<n) (c:Nat):gn (opA M l h) c<=gn l c:=by
 rw [gn_opA hl hh]
 split
 · subst c;unfold lowA;split <;> omega
 · exact Nat.le_refl _
omit hR in
theorem passA_le {l:List Nat} (hl:l.length=n) (c:Nat):∀ (k j:Nat),j<=k->k<=n->gn (passA M l k) c<=gn (passA M l j) c:=by
 intro k
 induction k with
 | zero=>intro j h1 _;have:j=0:=by omega
         subst this;exact Nat.le_refl _
 | succ k ih =>
  intro j h1 h2
  rcases Nat.lt_or_ge j (k+1) with h|h
  · refine Nat.le_trans ?_ (ih j (by omega) (by omega))
    exact opA_le (n:=n) (M:=M) (l:=passA M l k) ((passA_length M l k).trans hl) (by omega) c
  · have:j=k+1:=by omega
    subst this;exact Nat.le_refl _
omit hR in
theorem passA_edge {l:List Nat} (hl:l.length=n) {a b:Nat} (h:Sees M n a b):gn (passA M l n) b<=gn l a:=by
 obtain ⟨h1,h2⟩:=h
 have e1:=passA_le (M:=M) hl b n (b+1) (by omega) (Nat.le_refl _)
 have e2:=passA_le (M:=M) hl a b 0 (by omega) (by omega)
 have e3:=gn_opA (M:=M) (l:=passA M l b) (by rw [passA_length];exact hl) h1 b
 have e4:gn (passA M l 0) a=gn l a:=rfl
 rw [passA,e3,if_pos rfl] at e1
 rw [e4] at e2
 refine Nat.le_trans e1 (Nat.le_trans ?_ e2)
 unfold lowA
 rcases h2 with rfl|⟨h3,rfl⟩
 · split <;> omega
 · rw [if_pos h3];omega
theorem opA_conn {l:List Nat} (hl:l.length=n) (hc:∀ c,c<n->Conn (Sees M n) (gn l c) c) {h:Nat} (hh:h<n) (c:Nat) (hcn:c<n):Conn (Sees M n) (gn (opA M l h) c) c:=by
 rw [gn_opA hl hh]
 split
 · subst c
   have c1:=hc h hh
   have c2:=(hc (mt M h) (hR.2 h hh)).step ⟨hh,Or.inl rfl⟩
   have mn:∀ x y,Conn (Sees M n) x h->Conn (Sees M n) y h->Conn (Sees M n) (min x y) h:=by
    intro x y hx hy
    rcases Nat.le_total x y with q|q
    · rw [Nat.min_eq_left q];exact hx
    · rw [Nat.min_eq_right q];exact hy
   unfold lowA
   split
   · rename_i ho
     exact mn _ _ (mn _ _ c1 c2) ((hc (opp h) (opp_lt hR hh)).step ⟨hh,Or.inr ⟨ho,rfl⟩⟩)
   · exact mn _ _ c1 c2
 · exact hc c hcn
theorem passA_conn {l:List Nat} (hl:l.length=n) (hc:∀ c,c<n->Conn (Sees M n) (gn l c) c):∀ k,k<=n->∀ c,c<n->Conn (Sees M n) (gn (passA M l k) c) c:=by
 intro k
 induction k with
 | zero=>intro _;exact hc
 | succ k ih =>
  intro h c hcn
  exact opA_conn hR (by rw [passA_length];exact hl) (ih (by omega)) (by omega) c hcn
theorem labA_conn:∀ t c,c<n->Conn (Sees M n) (gn (labA M n t) c) c:=by
 intro t
 induction t with
 | zero=>intro c hc;rw [labA,gn,List.getElem?_range hc];exact .refl _
 | succ t ih=>exact passA_conn hR (labA_length M n t) ih _ (Nat.le_refl _)
theorem labA_least {c m:Nat} (hm:m<n) (h:Conn (Sees M n) m c):gn (labA M n n) c<=m:=by
 refine passes (E:=Sees M n) (n:=n) (fun a b e=>e.lt hR) (fun t c=>gn (labA M n t) c) ?_ ?_ ?_ hm h
 · intro c hc;show gn (labA M n 0) c<=c
   rw [labA,gn,List.getElem?_range hc];exact Nat.le_refl _
 · intro t c;exact passA_le (M:=M) (labA_length M n t) c n 0 (by omega) (Nat.le_refl _)
 · intro t a b e;exact passA_edge (labA_length M n t) e
end
def rk (l:List Nat):Nat->Nat
 | 0=>0
 | m+1=>if gn l m=m then rk l m+1 else rk l m
theorem rk_le (l:List Nat):∀ m,rk l m<=m
 | 0=>Nat.le_refl _
 | m+1=>by have:=rk_le l m;rw [rk];split <;> omega
def numA (l:List Nat) (n k:Nat):List Nat:=(List.range n).map fun i=>if i<k then rk l (gn l i) else 0
theorem numA_length (l:List Nat) (n k:Nat):(numA l n k).length=n:=by simp [numA]
theorem gn_numA {l:List Nat} {n k i:Nat} (hi:i<n):gn (numA l n k) i=if i<k then rk l (gn l i) else 0:=by
 unfold gn numA;rw [List.getElem?_map,List.getElem?_range hi];rfl
theorem numA_step {l:List Nat} {n k:Nat} (h:k<n):(numA l n k).set k (rk l (gn l k))=numA l n (k+1):=by
 apply List.ext_getElem?
 intro i
 unfold numA
 rw [List.getElem?_set]
 by_cases e:k=i
 · subst e;simp [h]
 · by_cases hi:i<n
   · simp [e,hi]
     by_cases h1:i<k
     · rw [if_pos h1,if_pos (by omega)]
     · rw [if_neg h1,if_neg (by omega)]
   · simp [e,hi]
end Go.Proofs.Ytfnmeigpfmeomaa
namespace Go.Proofs.Ytfnmeigpfmeomaa
open Go.RowKit
set_option linter.unusedVariables false
end Go.Proofs.Ytfnmeigpfmeomaa
namespace Go.Proofs.Ytfnmeigpfmeomaa
set_option linter.unusedVariables false
theorem kn_exit {u d y1 y0 q r:Nat} (hinv:q*y1+r=u) (hub:(u*4294967296+d)/(y1*4294967296+y0)<=q) (hy:0<y1) (ht:q*y0<=4294967296*r+d) :
 (u*4294967296+d)/(y1*4294967296+y0)=q:=by
 apply Nat.le_antisymm hub
 rw [Nat.le_div_iff_mul_le (by omega),Nat.mul_add,<- Nat.mul_assoc]
 subst hinv
 generalize q*y1=P at *
 generalize q*y0=T at *
 omega
theorem kn_break {u d y1 y0 q r:Nat} (hinv:q*y1+r=u) (hub:(u*4294967296+d)/(y1*4294967296+y0)<=q) (hy:0<y1) (hq:q<=4294967296) (h0:y0<4294967296) (hr:4294967296<=r) :
 (u*4294967296+d)/(y1*4294967296+y0)=q:=by
 refine kn_exit hinv hub hy ?_
 have:q*y0<=4294967296*4294967296:=Nat.mul_le_mul hq (by omega)
 omega
theorem kn_more {u d y1 y0 q r:Nat} (hinv:q*y1+r=u) (hu:u<y1*4294967296+y0) (hd:d<4294967296) (hy:0<y1)
 (ht:4294967296<=q\/4294967296*r+d<q*y0):(u*4294967296+d)/(y1*4294967296+y0)<q:=by
 rcases ht with ht|ht
 · have hY:0<y1*4294967296+y0:=by omega
   have aux:∀ Y,0<Y->u<Y->(u*4294967296+d)/Y<4294967296:=fun Y h1 h2=>(Nat.div_lt_iff_lt_mul h1).2 (by omega)
   exact Nat.lt_of_lt_of_le (aux _ hY hu) ht
 · rw [Nat.div_lt_iff_lt_mul (by omega),Nat.mul_add,<- Nat.mul_assoc]
   subst hinv
   generalize q*y1=P at *
   generalize q*y0=T at *
   omega
theorem kn_start {u d y1 y0:Nat} (hu:u<y1*4294967296+y0) (hd:d<4294967296) (hy:2147483648<=y1) (h0:y0<4294967296) :
 u/y1*y1+u%y1=u/\(u*4294967296+d)/(y1*4294967296+y0)<=u/y1/\u/y1<=4294967297:=by
 refine ⟨by rw [Nat.mul_comm];exact Nat.div_add_mod u y1,?_,?_⟩
 · have h1:(u*4294967296+d)/(y1*4294967296+y0)<=(u*4294967296+d)/(y1*4294967296):=Nat.div_le_div_left (by omega) (by omega)
   refine Nat.le_trans h1 ?_
   rw [Nat.mul_comm y1,<- Nat.div_div_eq_div_mul]
   rw [show (u*4294967296+d)/4294967296=u by omega]
   exact Nat.le_refl _
 · refine Nat.le_of_lt_succ ?_
   rw [Nat.div_lt_iff_lt_mul (by omega)]
   omega
theorem kn_down {u y1 q r:Nat} (hinv:q*y1+r=u) (hq:0<q):(q-1)*y1+(r+y1)=u:=by
 obtain ⟨q,rfl⟩:∃ k,q=k+1:=⟨q-1,by omega⟩
 rw [Nat.add_sub_cancel]
 rw [Nat.succ_mul] at hinv
 omega
theorem kn_rest {u d y1 y0 q:Nat} (hy:0<y1) (hY:y1*4294967296+y0<18446744073709551616) (h:(u*4294967296+d)/(y1*4294967296+y0)=q) :
 ((((u*4294967296+d:Nat):Int)-((q*(y1*4294967296+y0):Nat):Int))%18446744073709551616)=(((u*4294967296+d)%(y1*4294967296+y0):Nat):Int):=by
 have h1:=Nat.div_add_mod (u*4294967296+d) (y1*4294967296+y0)
 have h2:=Nat.mod_lt (u*4294967296+d) (show 0<y1*4294967296+y0 by omega)
 rw [h,Nat.mul_comm] at h1
 generalize q*(y1*4294967296+y0)=Q at *
 generalize (u*4294967296+d)%(y1*4294967296+y0)=R at *
 omega
theorem kn_two (u a b Y:Nat):((u*4294967296+a)%Y*4294967296+b)%Y=(u*18446744073709551616+a*4294967296+b)%Y:=by
 rw [Nat.add_mod,Nat.mul_mod,Nat.mod_mod,<- Nat.mul_mod,<- Nat.add_mod]
 rw [show (u*4294967296+a)*4294967296+b=u*18446744073709551616+a*4294967296+b by omega]
theorem kn_shift (n y s:Nat):(n*2 ^ s)%(y*2 ^ s)/2 ^ s=n%y:=by
 rw [Nat.mul_mod_mul_right,Nat.mul_div_cancel _ (Nat.two_pow_pos s)]
theorem nodup_le:∀ (n:Nat) (l:List Nat),l.Nodup->(∀ x∈l,x<n)->l.length<=n
 | 0,l,_,h=>by
  cases l with
  | nil=>simp
  | cons a t=>exact absurd (h a (by simp)) (by omega)
 | n+1,l,hd,h=>by
  have h1:=nodup_le n (l.erase n) (hd.erase n) (fun x hx=>by
   have:=(List.Nodup.mem_erase_iff hd).1 hx
   have:=h x this.2
   omega)
  have:l.length<=(l.erase n).length+1:=by
   by_cases hm:n∈l
   · have:=List.length_erase_of_mem hm;omega
   · rw [List.erase_of_not_mem hm];omega
  omega
def pmod (r a:Nat):Nat->Nat->Nat
 | 0,_=>1%r
 | f+1,e=>if e=0 then 1%r else let h:=pmod r (a*a%r) f (e/2);if e%2=1 then h*a%r else h
theorem pmod_eq (r:Nat):∀ (f a e:Nat),e<2 ^ f->pmod r a f e=a ^ e%r
 | 0,a,e,h=>by simp at h;subst h;simp [pmod]
 | f+1,a,e,h=>by
  have ih:=pmod_eq r f (a*a%r) (e/2) (by rw [Nat.pow_succ] at h;omega)
  simp only [pmod]
  split
  · subst e;simp
  · have h2:(a*a%r) ^ (e/2)%r=(a ^ (2*(e/2)))%r:=by rw [<- Nat.pow_mod,<- Nat.pow_two,<- Nat.pow_mul]
    rw [ih,h2]
    split
    · rename_i h1
      have:e=2*(e/2)+1:=by omega
      conv=>rhs;rw [this,Nat.pow_succ]
      rw [Nat.mul_mod,Nat.mod_mod,<- Nat.mul_mod]
    · have:e=2*(e/2):=by omega
      conv=>rhs;rw [this]
theorem order_ex (a r n:Nat) (hn:0<n) (h:a ^ n%r=1%r):∃ k,0<k/\a ^ k%r=1%r/\∀ j,0<j->j<k->a ^ j%r≠1%r:=by
 induction n using Nat.strongRecOn with
 | _ n ih =>
  by_cases hx:∃ j,0<j/\j<n/\a ^ j%r=1%r
  · obtain ⟨j,h1,h2,h3⟩:=hx
    exact ih j h2 h1 h3
  · exact ⟨n,hn,h,fun j h1 h2 h3=>hx ⟨j,h1,h2,h3⟩⟩
theorem pow_mod_mul (a r k m:Nat) (h:a ^ k%r=1%r):a ^ (k*m)%r=1%r:=by
 rw [Nat.pow_mul,Nat.pow_mod,h,<- Nat.pow_mod,Nat.one_pow]
theorem order_dvd {a r k:Nat} (h:a ^ k%r=1%r) (hm:∀ j,0<j->j<k->a ^ j%r≠1%r) (hk:0<k) (n:Nat) (hn:a ^ n%r=1%r):k ∣ n:=by
 have e:=Nat.div_add_mod n k
 have h1:a ^ n%r=a ^ (n%k)%r:=by
  conv=>lhs;rw [<- e,Nat.pow_add]
  rw [Nat.mul_mod,pow_mod_mul a r k _ h,<- Nat.mul_mod,Nat.one_mul]
 rcases Nat.eq_zero_or_pos (n%k) with h0|h0
 · exact Nat.dvd_of_mod_eq_zero h0
 · exact absurd (h1.symm.trans hn) (hm _ h0 (Nat.mod_lt _ hk))
def Pr (q:Nat):Prop:=∀ m,0<m->m<q->Nat.gcd m q=1
theorem Pr.coprime {q:Nat} (h:Pr q) {m:Nat} (hm:m%q≠0) (hq:0<q):Nat.gcd m q=1:=by
 have h1:=h (m%q) (by omega) (Nat.mod_lt _ hq)
 rw [Nat.gcd_comm,Nat.gcd_rec,h1]
theorem Pr.dvd {q:Nat} (h:Pr q) (hq:0<q) {k n:Nat} (hk:k ∣ n) (hn:¬ k ∣ n/q) (hqn:q ∣ n):q ∣ k:=by
 obtain ⟨m,rfl⟩:=hk
 by_cases hm:m%q=0
 · obtain ⟨t,rfl⟩:=Nat.dvd_of_mod_eq_zero hm
   exact absurd ⟨t,by rw [Nat.mul_left_comm,Nat.mul_div_cancel_left _ hq]⟩ hn
 · exact (Nat.Coprime.dvd_of_dvd_mul_right (Nat.coprime_comm.1 (h.coprime hm hq)) hqn)
theorem pow_inj {a r k:Nat} (h:a ^ k%r=1%r) (hm:∀ j,0<j->j<k->a ^ j%r≠1%r) {i j:Nat} (hij:i<j) (hj:j<k):a ^ i%r≠a ^ j%r:=by
 intro e
 refine hm (j-i) (by omega) (by omega) ?_
 have h1:a ^ (j-i)%r=a ^ (k*1+(j-i))%r:=by rw [Nat.pow_add,Nat.mul_mod,pow_mod_mul a r k 1 h,<- Nat.mul_mod,Nat.one_mul]
 have h2:k*1+(j-i)=j+(k-i):=by omega
 rw [h1,h2,Nat.pow_add,Nat.mul_mod,<- e,<- Nat.mul_mod,<- Nat.pow_add]
 rw [show i+(k-i)=k by omega,h]
theorem order_le {a r k:Nat} (hr:0<r) (h:a ^ k%r=1%r) (hm:∀ j,0<j->j<k->a ^ j%r≠1%r):k<=r:=by
 have:=nodup_le r ((List.range k).map fun i=>a ^ i%r) (by
  rw [List.nodup_iff_pairwise_ne,List.pairwise_map]
  have hp:=@List.pairwise_lt_range k
  refine List.Pairwise.imp_of_mem ?_ hp
  intro i j _ hj hij
  exact pow_inj h hm hij (List.mem_range.1 hj)) (fun x hx=>by
   obtain ⟨i,_,rfl⟩:=List.mem_map.1 hx
   exact Nat.mod_lt _ hr)
 simpa using this
def p61:Nat:=2305843009213693951
def checkP (q:Nat):Bool:=(List.range q).all fun m=>m==0 || Nat.gcd m q==1
theorem Pr_of_check {q:Nat} (h:checkP q=true):Pr q:=by
 intro m h0 h1
 have:=List.all_eq_true.1 h m (List.mem_range.2 h1)
 simp only [Bool.or_eq_true,beq_iff_eq] at this
 omega
theorem not_one {r e:Nat} (hr:1<r) (hd:r ∣ p61) (he:e<2 ^ 61) (hg:Nat.gcd (pmod p61 3 61 e-1) p61=1) (h1:1<=pmod p61 3 61 e):3 ^ e%r≠1%r:=by
 intro h
 rw [pmod_eq p61 61 3 e he] at hg h1
 have h2:3 ^ e%p61%r=1%r:=by rw [Nat.mod_mod_of_dvd _ hd,h]
 have h3:r ∣ 3 ^ e%p61-1:=by
  generalize 3 ^ e%p61=y at *
  exact (Nat.dvd_iff_mod_eq_zero).2 (Nat.sub_mod_eq_zero_of_mod_eq h2)
 have:=Nat.dvd_gcd h3 hd
 rw [hg] at this
 exact absurd (Nat.le_of_dvd (by omega) this) (by omega)
theorem prime_order {r k e q:Nat} (hr:1<r) (hd:r ∣ p61) (k1:3 ^ k%r=1%r) (hk:k ∣ e) (c1:checkP q=true) (c2:0<q) (c3:q ∣ e) (c4:e/q<2 ^ 61)
 (c5:Nat.gcd (pmod p61 3 61 (e/q)-1) p61=1) (c6:1<=pmod p61 3 61 (e/q)):q ∣ k:=by
 refine (Pr_of_check c1).dvd c2 hk ?_ c3
 rintro ⟨m,hm⟩
 refine not_one hr hd c4 c5 c6 ?_
 rw [hm];exact pow_mod_mul 3 r k m k1
theorem order61 {r e:Nat} (hd:r ∣ p61) (he:e<2 ^ 61) (h:pmod p61 3 61 e=1):3 ^ e%r=1%r:=by
 have:=pmod_eq p61 61 3 e he
 rw [h] at this
 rw [<- Nat.mod_mod_of_dvd _ hd,<- this]
theorem big_divisor {r:Nat} (hr:1<r) (hd:r ∣ p61):4027518961<=r:=by
 have main:∀ e,e=2305843009213693950->4027518961<=r:=by
  intro e he
  have h1:3 ^ e%r=1%r:=order61 hd (by omega) (by rw [he];decide +kernel)
  obtain ⟨k,k0,k1,k2⟩:=order_ex 3 r e (by omega) h1
  have hk:=order_dvd k1 k2 k0 _ h1
  have a1:61 ∣ k:=prime_order hr hd k1 hk (by decide +kernel) (by decide) (by rw [he];decide +kernel) (by rw [he];decide +kernel) (by rw [he];decide +kernel) (by rw [he];decide +kernel)
  have a2:151 ∣ k:=prime_order hr hd k1 hk (by decide +kernel) (by decide) (by rw [he];decide +kernel) (by rw [he];decide +kernel) (by rw [he];decide +kernel) (by rw [he];decide +kernel)
  have a3:331 ∣ k:=prime_order hr hd k1 hk (by decide +kernel) (by decide) (by rw [he];decide +kernel) (by rw [he];decide +kernel) (by rw [he];decide +kernel) (by rw [he];decide +kernel)
  have a4:1321 ∣ k:=prime_order hr hd k1 hk (by decide +kernel) (by decide) (by rw [he];decide +kernel) (by rw [he];decide +kernel) (by rw [he];decide +kernel) (by rw [he];decide +kernel)
  have b1:61*151 ∣ k:=Nat.Coprime.mul_dvd_of_dvd_of_dvd (by decide +kernel) a1 a2
  have b2:61*151*331 ∣ k:=Nat.Coprime.mul_dvd_of_dvd_of_dvd (by decide +kernel) b1 a3
  have b3:61*151*331*1321 ∣ k:=Nat.Coprime.mul_dvd_of_dvd_of_dvd (by decide +kernel) b2 a4
  have b4:=Nat.le_of_dvd k0 b3
  have b5:=order_le (Nat.lt_trans Nat.zero_lt_one hr) k1 k2
  exact Nat.le_trans (Nat.le_trans (by decide +kernel) b4) b5
 exact main _ rfl
theorem pr61:Pr p61:=by
 intro m h0 h1
 have hd:=Nat.gcd_dvd_right m p61
 have hm:=Nat.gcd_dvd_left m p61
 have hle:=Nat.le_of_dvd h0 hm
 generalize Nat.gcd m p61=r at *
 obtain ⟨s,hs⟩:=hd
 rcases Nat.lt_or_ge 1 r with h2|h2
 · have c1:=big_divisor h2 ⟨s,hs⟩
   have hs1:1<s:=by
    rcases Nat.lt_or_ge 1 s with h|h
    · exact h
    · have:r*s<=r*1:=Nat.mul_le_mul_left r h
      omega
   have c2:=big_divisor hs1 ⟨r,by rw [Nat.mul_comm];exact hs⟩
   have c3:=Nat.mul_le_mul c1 c2
   rw [<- hs] at c3
   simp [p61] at c3
 · rcases Nat.eq_zero_or_pos r with h3|h3
   · subst h3;simp [p61] at hs
   · omega
theorem p61_mul {a b:Nat} (ha:a%p61≠0) (hb:b%p61≠0):a*b%p61≠0:=by
 intro h
 have h1:=Nat.dvd_of_mod_eq_zero h
 have h2:=pr61.coprime ha (by decide)
 exact hb (Nat.mod_eq_zero_of_dvd (Nat.Coprime.dvd_of_dvd_mul_left (Nat.coprime_comm.1 h2) h1))
end Go.Proofs.Ytfnmeigpfmeomaa
namespace Go.Proofs.Ytfnmeigpfmeomaa
open Go.RowKit
set_option linter.unusedVariables false
def upd {α:Type} (x:Nat->α) (i:Nat) (v:α):Nat->α:=fun j=>if j=i then v else x j
@[simp] theorem upd_same {α:Type} (x:Nat->α) (i:Nat) (v:α):upd x i v i=v:=by simp [upd]
theorem upd_ne {α:Type} (x:Nat->α) {i j:Nat} (v:α) (h:j≠i):upd x i v j=x j:=by simp [upd,h]
def putAll:List (Option Tmp)->Nat->(Nat->Value)->Act->Act
 | [],_,_,a=>a
 | d :: ds,i,x,a=>putAll ds (i+1) x (a.put d (x i))
def dstOf (ops:Array Oper):List (Option Tmp):=ops.toList.map (·.dst)
def apartD:List (Option Tmp)->Bool
 | []=>true
 | d :: ds=>(match d with|none=>true|some t=>!ds.contains (some t)) && apartD ds
theorem putAll_put:∀ (ds:List (Option Tmp)) (i:Nat) (x:Nat->Value) (a:Act) (d:Option Tmp) (v:Value),(∀ t,d=some t->some t ∉ ds)->putAll ds i x (a.put d v)=(putAll ds i x a).put d v:=by
 intro ds
 induction ds with
 | nil=>intro i x a d v _;rfl
 | cons e ds ih =>
  intro i x a d v h
  rw [putAll,putAll,<- ih _ _ _ _ _ (fun t ht hm=>h t ht (List.mem_cons_of_mem _ hm))]
  congr 1
  refine Act.put_comm a v (x i) (fun t ht he=>?_)
  exact h t ht (by rw [he];exact List.mem_cons_self)
theorem putAll_congr:∀ (ds:List (Option Tmp)) (i:Nat) (x y:Nat->Value) (a:Act),(∀ j,i<=j->j<i+ds.length->x j=y j)->putAll ds i x a=putAll ds i y a:=by
 intro ds
 induction ds with
 | nil=>intro i x y a _;rfl
 | cons e ds ih =>
  intro i x y a h
  rw [putAll,putAll,h i (Nat.le_refl _) (by simp),ih (i+1) x y _ (fun j h1 h2=>h j (by omega) (by simp at h2 ⊢;omega))]
theorem put_put (a:Act) (d:Option Tmp) (u v:Value):(a.put d u).put d v=a.put d v:=by
 cases d <;> simp [Act.put]
theorem putAll_upd:∀ (ds:List (Option Tmp)) (i:Nat) (x:Nat->Value) (a:Act) (k:Nat) (v:Value),apartD ds=true->k<ds.length->(putAll ds i x a).put (ds.getD k none) v=putAll ds i (upd x (i+k) v) a:=by
 intro ds
 induction ds with
 | nil=>intro i x a k v _ h;simp at h
 | cons e ds ih =>
  intro i x a k v hd hk
  simp only [apartD,Bool.and_eq_true] at hd
  rw [putAll,putAll]
  cases k with
  | zero =>
   simp only [Nat.add_zero,upd_same,List.getD_cons_zero]
   rw [<- putAll_put]
   · rw [put_put]
     exact putAll_congr _ _ _ _ _ (fun j h1 h2=>(upd_ne x v (by omega)).symm)
   · intro t ht
     rw [ht] at hd
     have:=hd.1
     simpa using this
  | succ k =>
   rw [List.getD_cons_succ,ih _ _ _ _ _ hd.2 (by simpa using hk),upd_ne x v (by omega)]
   congr 2
   omega
def slotV (a:Act) (d:Option Tmp):Value:=match d with|some t=>a.tmps.getD t undef|none=>undef
theorem put_get (a:Act) (d:Option Tmp):a.put d (slotV a d)=a:=by
 cases d with
 | none=>rfl
 | some t =>
  simp only [Act.put,slotV]
  congr 1
  apply Array.ext
  · simp
  · intro j h1 h2
    simp only [Array.getElem_setIfInBounds h2]
    split
    · rename_i h;subst h;simp [h2]
    · rfl
theorem putAll_start:∀ (ds:List (Option Tmp)) (i:Nat) (a:Act),apartD ds=true->putAll ds i (fun j=>slotV a (ds.getD (j-i) none)) a=a:=by
 intro ds
 induction ds with
 | nil=>intro i a _;rfl
 | cons e ds ih =>
  intro i a hd
  simp only [apartD,Bool.and_eq_true] at hd
  rw [putAll]
  have h0:slotV a ((e :: ds).getD (i-i) none)=slotV a e:=by simp
  simp only [h0,put_get]
  refine Eq.trans (putAll_congr _ _ _ _ _ (fun j h1 h2=>?_)) (ih (i+1) a hd.2)
  rw [show j-i=(j-(i+1))+1 from by omega,List.getD_cons_succ]
def backD (ops:Array Oper):Bool:=(List.range ops.size).all fun i=>((ops[i]?).map (·.after.all fun e=>!Region.binds .any e || decide (e.on<i))).getD true
def deps (o:Oper):List Nat:=(o.after.toList.filter fun e=>Region.binds .any e).map (·.on)
def depsAt (ops:Array Oper) (j:Nat):List Nat:=match ops[j]? with|some o=>deps o|none=>[]
section
variable {P:Program} {ops:Array Oper} {Q:Exit->Act->World->Prop}
theorem ready_nil (hb:backD ops=true) {listed:Array Bool} (hs:listed.size=ops.size) (h:Region.ready .any ops listed=[]):∀ i,i<ops.size->listed.getD i true=true:=by
 intro i
 induction i using Nat.strongRecOn with
 | _ i ih =>
  intro hi
  cases hl:listed.getD i true with
  | true=>rfl
  | false =>
   exfalso
   have:i∈Region.ready .any ops listed:=by
    rw [mem_ready]
    refine ⟨hl,ops[i],by simp [hi],fun e he hbe=>?_⟩
    have hlt:e.on<i:=by
     simp only [backD,List.all_eq_true,List.mem_range] at hb
     have:=hb i hi
     simp only [hi,Array.getElem?_eq_getElem,Option.map_some,Option.getD_some,Array.all_eq_true_iff_forall_mem] at this
     have h2:=this e he
     rw [hbe] at h2
     simpa using h2
    have:=ih e.on hlt (by omega)
    have hlt':e.on<listed.size:=by omega
    simpa [Array.getD,hlt'] using this
   rw [h] at this
   cases this
def countF (l:Array Bool):Nat:=l.toList.countP (· == false)
theorem countF_list:∀ (m:List Bool) (i:Nat),m[i]? = some false->(m.set i true).countP (· == false)+1=m.countP (· == false):=by
 intro m
 induction m with
 | nil=>intro i h;simp at h
 | cons b m ih =>
  intro i h
  cases i with
  | zero=>simp at h;simp [h]
  | succ i =>
   have:=ih i (by simpa using h)
   simp only [List.set_cons_succ,List.countP_cons]
   omega
theorem countF_set {l:Array Bool} {i:Nat} (h:l.getD i true=false):countF (l.setIfInBounds i true)+1=countF l:=by
 have hi:i<l.size:=by
  rcases Nat.lt_or_ge i l.size with h' | h'
  · exact h'
  · simp [Array.getD,Nat.not_lt.2 h'] at h
 unfold countF
 rw [Array.toList_setIfInBounds]
 refine countF_list _ _ ?_
 simpa [Array.getD,hi] using h
theorem wpAny_inv (hb:backD ops=true) (I:Array Bool->Act->World->Prop)
 (hstep:∀ l a w i,l.size=ops.size->I l a w->i∈Region.ready .any ops l->wpOp P ops Q i (I (l.setIfInBounds i true)) a w)
 (hend:∀ l a w,l.size=ops.size->I l a w->(∀ i,i<ops.size->l.getD i true=true)->Q .normal a w) :
 ∀ (fuel:Nat) (l:Array Bool) (a:Act) (w:World),l.size=ops.size->countF l<=fuel->I l a w->wpAny P .any ops Q fuel l a w:=by
 intro fuel
 induction fuel with
 | zero =>
  intro l a w hs hc h
  have hr:Region.ready .any ops l=[]:=by
   cases hr:Region.ready .any ops l with
   | nil=>rfl
   | cons i r =>
    have:i∈Region.ready .any ops l:=by rw [hr];exact List.mem_cons_self
    have:=countF_set (mem_ready.1 this).1
    omega
  exact ⟨hr,hend l a w hs h (ready_nil hb hs hr)⟩
 | succ fuel ih =>
  intro l a w hs hc h
  refine ⟨fun hr=>hend l a w hs h (ready_nil hb hs hr),fun i hi=>?_⟩
  refine wpOp_mono (fun a' w' h'=>ih _ a' w' (by simpa using hs) ?_ h') (hstep l a w i hs h hi)
  have:=countF_set (mem_ready.1 hi).1
  omega
theorem wp_region_facts {id:Nat} {a:Act} {w:World} (hm:P.follows .mixedOrders=true) (hd:apartD (dstOf ops)=true) (hb:backD ops=true)
 (I:(Nat->Bool)->(Nat->Value)->World->Prop)
 (h0:∀ x,I (fun _=>false) x w.drew)
 (hstep:∀ i o,ops[i]? = some o->∀ D x w,I D x w->D i=false->(∀ j∈deps o,D j=true)->(∀ j,D j=true->∀ k∈depsAt ops j,D k=true)->wpOp P ops Q i (fun a' w'=>∃ v,a'=(putAll (dstOf ops) 0 x a).put o.dst v/\I (upd D i true) (upd x i v) w') (putAll (dstOf ops) 0 x a) w)
 (hend:∀ D x w,I D x w->(∀ i,i<ops.size->D i=true)->Q .normal (putAll (dstOf ops) 0 x a) w):(Code.region id ops true).wp P Q a w:=by
 refine wp_region_any hm (wpAny_inv hb (fun l a' w'=>∃ x,a'=putAll (dstOf ops) 0 x a/\(∀ j,l.getD j false=true->∀ k∈depsAt ops j,l.getD k false=true)/\I (fun j=>l.getD j false) x w') ?_ ?_ _ _ _ _ (by simp) ?_ ?_)
 · rintro l a' w' i hs ⟨x,rfl,hcl,hI⟩ hi
   obtain ⟨hun,o,ho,hdep⟩:=mem_ready.1 hi
   have hlt:i<ops.size:=(Array.getElem?_eq_some_iff.1 ho).1
   have hdi:(dstOf ops).getD i none=o.dst:=by
    have:ops[i]=o:=by simpa [hlt] using ho
    simp [dstOf,hlt,this]
   have hdp:∀ j∈deps o,l.getD j false=true:=by
    intro j hj
    simp only [deps,List.mem_map,List.mem_filter] at hj
    obtain ⟨e,⟨he,hbe⟩,rfl⟩:=hj
    exact hdep e (by simpa using he) hbe
   refine wpOp_mono ?_ (hstep i o ho (fun j=>l.getD j false) x w' hI (by have h':i<l.size:=by omega
                                                                         simpa [Array.getD,h'] using hun) hdp hcl)
   · rintro a'' w'' ⟨v,rfl,hI'⟩
     refine ⟨upd x i v,?_,?_,?_⟩
     · rw [<- hdi,putAll_upd _ _ _ _ _ _ hd (by simpa [dstOf] using hlt),Nat.zero_add]
     · intro j hj k hk
       by_cases e:k=i
       · subst e
         have h':k<l.size:=by omega
         simp [Array.getD,h']
       rw [getD_set_ne _ (Ne.symm e)]
       by_cases ej:j=i
       · subst ej
         simp only [depsAt,ho] at hk
         exact hdp k hk
       · rw [getD_set_ne _ (Ne.symm ej)] at hj
         exact hcl j hj k hk
     · have:(fun j=>(l.setIfInBounds i true).getD j false)=upd (fun j=>l.getD j false) i true:=by
        funext j
        by_cases e:j=i
        · subst e
          have h':j<l.size:=by omega
          simp [upd,Array.getD,h']
        · rw [upd_ne _ _ e,getD_set_ne _ (Ne.symm e)]
       rw [this]
       exact hI'
 · rintro l a' w' hs ⟨x,rfl,_,hI⟩ hall
   refine hend _ x w' hI (fun i hi=>?_)
   have:=hall i hi
   cases hl:l.getD i false with
   | true=>rfl
   | false => 
    rcases Nat.lt_or_ge i l.size with h' | h'
    · simp [Array.getD,h'] at this hl;rw [this] at hl;cases hl
    · omega
 · exact Nat.le_trans List.countP_le_length (by simp)
 · refine ⟨_,(putAll_start _ 0 a hd).symm,fun j hj=>?_,?_⟩
   · by_cases h:j<ops.size <;> simp [Array.getD,h] at hj
   have:(fun j=>(Array.replicate ops.size false).getD j false)=fun _=>false:=by
    funext j
    by_cases h:j<ops.size <;> simp [Array.getD,h]
   rw [this]
   exact h0 _
def AllOps (Φ:Nat->Oper->Prop):Nat->List Oper->Prop
 | _,[]=>True
 | i,o :: os=>Φ i o/\AllOps Φ (i+1) os
theorem AllOps.get {Φ:Nat->Oper->Prop}:∀ (l:List Oper) (i:Nat),AllOps Φ i l->∀ k o,l[k]? = some o->Φ (i+k) o:=by
 intro l
 induction l with
 | nil=>intro i _ k o h;simp at h
 | cons q l ih =>
  intro i h k o ho
  cases k with
  | zero=>simp at ho;subst ho;exact h.1
  | succ k=>have:=ih (i+1) h.2 k o (by simpa using ho);rw [show i+(k+1)=i+1+k from by omega];exact this
theorem wpOp_plain {i:Nat} {o:Oper} {a:Act} {w:World} {K:Act->World->Prop} (h:ops[i]? = some o) (hg:o.guard=none) (hw:o.wp P a w K Q):wpOp P ops Q i K a w:=by
 unfold wpOp
 simp only [h,Region.wanted,hg,if_true]
 exact .inl hw
def NoQ:Exit->Act->World->Prop:=fun _ _ _=>False
theorem wp_noQ {o:Oper} {a:Act} {w:World} {K:Act->World->Prop} (h:o.wp P a w K NoQ):o.wp P a w K Q:=by
 unfold Oper.wp at *
 generalize (execOp a.eval o).run P w=r at *
 cases r with
 | ok n w' =>
  cases n <;> simp only [Oper.upon] at h ⊢ <;>
   first
    | exact h
    | exact Calls.mono h (fun e w'' he=>by cases e <;> first|exact he|exact he.elim|(obtain ⟨_,_,hf⟩:=he;exact hf.elim))
 | halt x w'=>cases x <;> simp only [Oper.upon] at h ⊢ <;> first|exact h|exact h.elim
def look (ds:List (Option Tmp)) (x:Nat->Value) (a:Act) (t:Tmp):Value :=
 match ds.idxOf? (some t) with
 | some i=>x i
 | none=>a.tmps.getD t undef
theorem getD_put (a:Act) (d t:Tmp) (v:Value) (hd:d<a.tmps.size):(a.put (some d) v).tmps.getD t undef=if d=t then v else a.tmps.getD t undef:=by
 simp only [Act.put,Array.getD_eq_getD_getElem?,Array.getElem?_setIfInBounds]
 by_cases h:d=t
 · subst h;simp [hd]
 · simp [h]
theorem size_put (a:Act) (d:Option Tmp) (v:Value):(a.put d v).tmps.size=a.tmps.size:=by cases d <;> simp [Act.put]
def inD (n:Nat) (ds:List (Option Tmp)):Bool:=ds.all fun d=>match d with|some t=>decide (t<n)|none=>true
theorem putAll_look:∀ (ds:List (Option Tmp)) (i:Nat) (x:Nat->Value) (a:Act) (t:Tmp),apartD ds=true->inD a.tmps.size ds=true ->
 (putAll ds i x a).tmps.getD t undef=match ds.idxOf? (some t) with|some k=>x (i+k)|none=>a.tmps.getD t undef:=by
 intro ds
 induction ds with
 | nil=>intro i x a t _ _;rfl
 | cons e ds ih =>
  intro i x a t hd hn
  simp only [apartD,Bool.and_eq_true] at hd
  simp only [inD,List.all_cons,Bool.and_eq_true] at hn
  rw [putAll,ih _ _ _ _ hd.2 (by rw [size_put];exact hn.2),List.idxOf?_cons]
  by_cases he:e=some t
  · subst he
    have hnm:ds.idxOf? (some t)=none:=by
     rw [List.idxOf?_eq_none_iff]
     have:=hd.1
     simpa using this
    simp only [hnm,beq_self_eq_true,if_true,Nat.add_zero]
    rw [getD_put _ _ _ _ (by simpa using hn.1),if_pos rfl]
  · have hb:(e==some t)=false:=by simpa using he
    rw [hb]
    simp only [Bool.false_eq_true,if_false]
    cases hk:ds.idxOf? (some t) with
    | some k=>simp only [Option.map_some];congr 1;omega
    | none =>
     simp only [Option.map_none]
     cases e with
     | none=>rfl
     | some d =>
      rw [getD_put _ _ _ _ (by simpa using hn.1),if_neg (fun h=>he (by rw [h]))]
def StepPost (I:(Nat->Bool)->(Nat->Value)->World->Prop) (D:Nat->Bool) (x:Nat->Value) (i:Nat) (b:Act) (d:Option Tmp) (a':Act) (w':World):Prop:=∃ v,a'=b.put d v/\I (upd D i true) (upd x i v) w'
theorem StepPost.mk' {I:(Nat->Bool)->(Nat->Value)->World->Prop} {D:Nat->Bool} {x:Nat->Value} {i:Nat} {b:Act} {d:Option Tmp} {w':World} {v:Value} (h:I (upd D i true) (upd x i v) w'):StepPost I D x i b d (b.put d v) w':=⟨v,rfl,h⟩
theorem wp_region_factsU {id:Nat} {l:List Oper} {a:Act} {w:World} (hm:P.follows .mixedOrders=true) (hd:apartD (dstOf l.toArray)=true) (hb:backD l.toArray=true) (hg:l.all (fun o=>o.guard.isNone)=true) (hn:inD a.tmps.size (dstOf l.toArray)=true)
 (I:(Nat->Bool)->(Nat->Value)->World->Prop)
 (h0:∀ x,I (fun _=>false) x w.drew)
 (hstep:AllOps (fun i o=>∀ D x w (b:Act),I D x w->D i=false->(∀ j∈deps o,D j=true)->(∀ j,D j=true->∀ k∈depsAt l.toArray j,D k=true)->(∀ t:Nat,b.tmps[t]?.getD undef=look (dstOf l.toArray) x a t)->o.wp P b w (StepPost I D x i b o.dst) NoQ) 0 l)
 (hend:∀ D x w,I D x w->(∀ i,i<l.length->D i=true)->Q .normal (putAll (dstOf l.toArray) 0 x a) w):(Code.region id l.toArray true).wp P Q a w:=by
 refine wp_region_facts hm hd hb I h0 (fun i o ho D x w hI hD hdep hcl=>?_) (fun D x w hI h=>hend D x w hI (by simpa using h))
 have ho':l[i]? = some o:=by simpa using ho
 refine wpOp_plain ho ?_ ?_
 · have:=List.all_eq_true.1 hg o (List.mem_of_getElem? ho')
   simpa using this
 · have:=hstep.get _ _ i o ho' D x w (putAll (dstOf l.toArray) 0 x a)
   rw [Nat.zero_add] at this
   refine wp_noQ (this hI hD hdep hcl (fun t=>?_))
   rw [<- Array.getD_eq_getD_getElem?,putAll_look _ _ _ _ _ hd hn]
   unfold look
   simp only [Nat.zero_add]
theorem wp_of_run {I:(Nat->Bool)->(Nat->Value)->World->Prop} {D:Nat->Bool} {x:Nat->Value} {i:Nat} {o:Oper} {b:Act} {w w':World} (v:Value) (h:(execOp b.eval o).run P w=.ok (.value v) w') (hK:I (upd D i true) (upd x i v) w'):o.wp P b w (StepPost I D x i b o.dst) NoQ:=by
 unfold Oper.wp;rw [h];exact StepPost.mk' hK
end
def needB (ops:Array Oper) (n:Nat):Bool:=(List.range n).all fun i=>(List.range (n+1)).any fun j=>decide (i<j) && (depsAt ops j).contains i
theorem need_all {ops:Array Oper} {n:Nat} (h:needB ops n=true) {D:Nat->Bool} (hcl:∀ j,D j=true->∀ k∈depsAt ops j,D k=true) (hn:D n=true):∀ q i,i<=n->n-i<=q->D i=true:=by
 intro q
 induction q with
 | zero=>intro i h1 h2;obtain rfl:i=n:=by omega
         exact hn
 | succ q ih =>
  intro i h1 h2
  by_cases e:i=n
  · rw [e];exact hn
  · have h3:=List.all_eq_true.1 h i (by simp;omega)
    obtain ⟨j,hj,h4⟩:=List.any_eq_true.1 h3
    simp only [Bool.and_eq_true,decide_eq_true_eq,List.contains_iff_mem] at h4
    simp only [List.mem_range] at hj
    exact hcl j (ih j (by omega) (by omega)) i h4.2
section
variable {P:Program} {Q:Exit->Act->World->Prop}
def TabPost (w:World) (ev:Nat->Value) (S:World->World) (n i:Nat) (b:Act) (d:Option Tmp) (a':Act) (w':World):Prop:=a'=b.put d (ev i)/\∃ m,w'=if i=n then S (w.drewN m) else w.drewN m
def Tabs (l:List Oper) (ev:Nat->Value) (a:Act) (o:Oper) (b:Act):Prop :=
 ∀ t:Nat,(match (dstOf l.toArray).idxOf? (some t) with|some j=>(deps o).contains j|none=>true)=true->b.tmps[t]?.getD undef=look (dstOf l.toArray) ev a t
def TabI (w:World) (ev:Nat->Value) (S:World->World) (n:Nat) (D:Nat->Bool) (x:Nat->Value) (W:World):Prop :=
 (∀ i,D i=true->x i=ev i)/\∃ m,W=if D n=true then S (w.drewN m) else w.drewN m
theorem wp_region_table {id:Nat} {l:List Oper} {a:Act} {w:World} (n:Nat) (hm:P.follows .mixedOrders=true) (hd:apartD (dstOf l.toArray)=true) (hb:backD l.toArray=true) (hg:l.all (fun o=>o.guard.isNone)=true) (hn:inD a.tmps.size (dstOf l.toArray)=true)
 (hlen:l.length=n+1) (hneed:needB l.toArray n=true) (ev:Nat->Value) (S:World->World)
 (hstep:AllOps (fun i o=>∀ m (b:Act),Tabs l ev a o b->o.wp P b (w.drewN m) (TabPost w ev S n i b o.dst) NoQ) 0 l)
 (hend:∀ m,Q .normal (putAll (dstOf l.toArray) 0 ev a) (S (w.drewN m))):(Code.region id l.toArray true).wp P Q a w:=by
 refine wp_region_factsU hm hd hb hg hn (TabI w ev S n) (fun x=>⟨fun i h=>Bool.noConfusion h,1,rfl⟩) ?_ ?_
 · have key:∀ k o,l[k]? = some o->∀ D x W (b:Act),TabI w ev S n D x W->D k=false->(∀ j∈deps o,D j=true)->(∀ j,D j=true->∀ q∈depsAt l.toArray j,D q=true)->(∀ t:Nat,b.tmps[t]?.getD undef=look (dstOf l.toArray) x a t)->o.wp P b W (StepPost (TabI w ev S n) D x k b o.dst) NoQ:=by
    intro k o ho D x W b hI hD hdep hcl hbt
    have hk:k<=n:=by have:=(List.getElem?_eq_some_iff.1 ho).1;omega
    have hDn:D n=false:=by
     cases h:D n with
     | false=>rfl
     | true=>have:=need_all hneed hcl h _ k hk (Nat.le_refl _);rw [this] at hD;cases hD
    obtain ⟨hx,m,hW⟩:=hI
    rw [hDn] at hW
    simp only [Bool.false_eq_true,if_false] at hW
    subst hW
    have hs:=hstep.get _ _ k o ho m b (fun t ht=>by
     rw [hbt t]
     unfold look
     cases hq:(dstOf l.toArray).idxOf? (some t) with
     | none=>rfl
     | some j =>
      rw [hq] at ht
      simp only [List.contains_iff_mem] at ht
      exact hx j (hdep j ht))
    rw [Nat.zero_add] at hs
    refine Oper.wp_mono ?_ hs
    rintro a' w' ⟨rfl,m',hw'⟩
    refine ⟨ev k,rfl,fun i hi=>?_,m',?_⟩
    · by_cases e:i=k
      · subst e;simp
      · rw [upd_ne _ _ e] at hi ⊢;exact hx i hi
    · rw [hw']
      by_cases e:k=n
      · subst e;simp
      · rw [if_neg e,upd_ne _ _ (fun h=>e h.symm),hDn];simp
   have aux:∀ (r:List Oper) (s:Nat),(∀ k,r[k]? = l[s+k]?)->AllOps (fun i o=>∀ D x W (b:Act),TabI w ev S n D x W->D i=false->(∀ j∈deps o,D j=true)->(∀ j,D j=true->∀ q∈depsAt l.toArray j,D q=true)->(∀ t:Nat,b.tmps[t]?.getD undef=look (dstOf l.toArray) x a t)->o.wp P b W (StepPost (TabI w ev S n) D x i b o.dst) NoQ) s r:=by
    intro r
    induction r with
    | nil=>intro s _;trivial
    | cons o r ih =>
     intro s hr
     refine ⟨key s o (by have:=hr 0;simpa using this.symm),ih (s+1) (fun k=>?_)⟩
     have:=hr (k+1)
     rw [List.getElem?_cons_succ] at this
     rw [this];congr 1;omega
   exact aux l 0 (fun k=>by rw [Nat.zero_add])
 · intro D x W hI hall
   obtain ⟨hx,m,hW⟩:=hI
   have hDn:=hall n (by omega)
   rw [hDn] at hW
   simp only [if_true] at hW
   subst hW
   have:putAll (dstOf l.toArray) 0 x a=putAll (dstOf l.toArray) 0 ev a:=putAll_congr _ _ _ _ _ (fun j _ h2=>hx j (hall j (by simpa [dstOf] using h2)))
   rw [this]
   exact hend m
variable {w:World} {ev:Nat->Value} {S:World->World} {n i m:Nat} {b:Act} {o:Oper}
theorem tab_run (hi:i≠n) (v:Value) (hv:ev i=v) (h:(execOp b.eval o).run P (w.drewN m)=.ok (.value v) (w.drewN m)):o.wp P b (w.drewN m) (TabPost w ev S n i b o.dst) NoQ:=by
 unfold Oper.wp;rw [h];exact ⟨by rw [hv],m,by rw [if_neg hi]⟩
theorem tab_store (v:Value) (hv:ev n=v) (W:World) (hW:W=S (w.drewN m)) (h:(execOp b.eval o).run P (w.drewN m)=.ok .skip W) (hu:v=undef):o.wp P b (w.drewN m) (TabPost w ev S n n b o.dst) NoQ:=by
 unfold Oper.wp;rw [h];exact ⟨by rw [hv,hu],m,by rw [if_pos rfl];exact hW⟩
theorem tab_call (hi:i≠n) (v:Value) (hv:ev i=v) {f:FuncId} {args:Array Value} (h:(execOp b.eval o).run P (w.drewN m)=.ok (.enter f args) (w.drewN m)) (hc:Calls P f args (w.drewN m) fun e w'=>∃ q,e=.returned v/\w'=(w.drewN m).drewN q):o.wp P b (w.drewN m) (TabPost w ev S n i b o.dst) NoQ:=by
 unfold Oper.wp;rw [h]
 simp only [Oper.upon]
 refine hc.mono ?_
 rintro e w' ⟨q,rfl,rfl⟩
 exact ⟨by rw [hv],m+q,by rw [if_neg hi];simp [World.drewN,Nat.add_assoc]⟩
end
end Go.Proofs.Ytfnmeigpfmeomaa
