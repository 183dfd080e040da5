/- Forests in graphs that are told by half-edges; a function on the edges is a difference of a function of the nodes (plain). -/
import Derived.Test.YtfnmeigpfmeomaaZfCtd
import Derived.Test.YtfnmeigpfmeomaaZfTwo
import Derived.Laws.CopyOwn
import Derived.Test.YtfnmeigpfmeomaaZfGcq
import Derived.Test.YtfnmeigpfmeomaaZfLis
import Derived.Deep.QuietTactic
namespace Go.Proofs.Ytfnmeigpfmeomaa
set_option linter.unusedVariables false
def jn (ν α:Nat->Nat) (lab:Nat->Nat) (h:Nat):Nat->Nat:=fun x=>if lab x=lab (ν (α h)) then lab (ν h) else lab x
def prc (ν α:Nat->Nat):List Nat->Nat->Nat
 | []=>fun x=>x
 | h :: es=>jn ν α (prc ν α es) h
def frs (ν α:Nat->Nat):List Nat->List Nat
 | []=>[]
 | h :: es=>if prc ν α es (ν h)=prc ν α es (ν (α h)) then frs ν α es else h :: frs ν α es
def Fos (ν α:Nat->Nat):List Nat->Prop
 | []=>True
 | h :: T=>prc ν α T (ν h)≠prc ν α T (ν (α h))/\Fos ν α T
section
variable {ν α:Nat->Nat}
theorem jn_same {lab:Nat->Nat} {h:Nat} (e:lab (ν h)=lab (ν (α h))):jn ν α lab h=lab:=by
 funext x;unfold jn;split
 · next q=>rw [e,q]
 · rfl
theorem prc_frs:∀ es,prc ν α (frs ν α es)=prc ν α es
 | []=>rfl
 | h :: es=>by
  rw [frs]
  split
  · next q=>rw [prc_frs es,prc,jn_same q]
  · next q=>rw [prc,prc_frs es,prc]
theorem frs_fst:∀ es,Fos ν α (frs ν α es)
 | []=>trivial
 | h :: es=>by
  rw [frs]
  split
  · exact frs_fst es
  · next q=>exact ⟨by rw [prc_frs];exact q,frs_fst es⟩
theorem frs_sub:∀ es h,h∈frs ν α es->h∈es
 | [],h,hh=>hh
 | e :: es,h,hh=>by
  rw [frs] at hh
  split at hh
  · exact List.mem_cons_of_mem _ (frs_sub es h hh)
  · rcases List.mem_cons.1 hh with q|q
    · rw [q];exact List.mem_cons_self
    · exact List.mem_cons_of_mem _ (frs_sub es h q)
theorem frs_len:∀ es,(frs ν α es).length<=es.length
 | []=>Nat.le_refl _
 | h :: es=>by
  have:=frs_len es
  rw [frs];split <;> simp only [List.length_cons] <;> omega
theorem frs_all:∀ es,(frs ν α es).length=es.length->frs ν α es=es
 | [],_=>rfl
 | h :: es,hl=>by
  have:=frs_len (ν:=ν) (α:=α) es
  rw [frs] at hl ⊢
  split at hl
  · simp only [List.length_cons] at hl;omega
  · next q=>rw [if_neg q,frs_all es (by simpa using hl)]
theorem prc_mem:∀ es h,h∈es->prc ν α es (ν h)=prc ν α es (ν (α h))
 | [],h,hh=>by cases hh
 | e :: es,h,hh=>by
  rw [prc]
  unfold jn
  rcases List.mem_cons.1 hh with q|q
  · subst q
    rw [if_pos rfl]
    split <;> rfl
  · have:=prc_mem es h q
    rw [this]
theorem prc_idem:∀ es x,prc ν α es (prc ν α es x)=prc ν α es x
 | [],x=>rfl
 | h :: es,x=>by
  have i1:=prc_idem es
  have key:∀ y,prc ν α (h :: es) y=if prc ν α es y=prc ν α es (ν (α h)) then prc ν α es (ν h) else prc ν α es y:=fun y=>rfl
  rw [key x]
  by_cases q:prc ν α es x=prc ν α es (ν (α h))
  · rw [if_pos q,key,i1]
    split <;> rfl
  · rw [if_neg q,key,i1,if_neg q]
theorem prc_lt {V:Nat}:∀ es x,(∀ h∈es,ν h<V)->x<V->prc ν α es x<V
 | [],x,_,hx=>hx
 | h :: es,x,he,hx=>by
  rw [prc];unfold jn
  split
  · exact prc_lt es _ (fun q hq=>he q (List.mem_cons_of_mem _ hq)) (he h List.mem_cons_self)
  · exact prc_lt es _ (fun q hq=>he q (List.mem_cons_of_mem _ hq)) hx
def rts (V:Nat) (lab:Nat->Nat):Nat:=cN V (fun x=>decide (lab x=x))
theorem cN_del {V:Nat} {p q:Nat->Bool} {a:Nat} (ha:a<V) (hp:p a=true) (hq:∀ x,x<V->q x=(p x && decide (x≠a))):cN V q+1=cN V p:=by
 induction V with
 | zero=>omega
 | succ V ih =>
  rw [cN,cN]
  by_cases e:a=V
  · subst e
    have h1:cN a q=cN a p:=cN_congr (fun t ht=>by rw [hq t (by omega)];simp;intro _ ; omega)
    rw [h1,hq a (by omega),hp];simp
  · have h1:=ih (by omega) (fun x hx=>hq x (by omega))
    rw [hq V (by omega)]
    have h2:decide (V≠a)=true:=by simp;omega
    rw [h2,Bool.and_true]
    omega
theorem cN_all {V:Nat} {p:Nat->Bool} (h:∀ x,x<V->p x=true):cN V p=V:=by
 rw [cN_congr (q:=fun _=>true) (fun t ht=>h t ht),cN_true]
theorem fst_rts {V:Nat}:∀ T,Fos ν α T->(∀ h∈T,ν h<V/\ν (α h)<V)->rts V (prc ν α T)+T.length=V
 | [],_,_=>by
  unfold rts
  rw [cN_all (fun x _=>by simp [prc])];rfl
 | h :: T,hf,hV=>by
  have ih:=fst_rts T hf.2 (fun q hq=>hV q (List.mem_cons_of_mem _ hq))
  have hv:=hV h List.mem_cons_self
  have hlt:prc ν α T (ν (α h))<V:=prc_lt T _ (fun q hq=>(hV q (List.mem_cons_of_mem _ hq)).1) hv.2
  have i1:=prc_idem (ν:=ν) (α:=α) T
  have hd:=cN_del (V:=V) (p:=fun x=>decide (prc ν α T x=x)) (q:=fun x=>decide (prc ν α (h :: T) x=x)) hlt (by simp [i1]) (fun x _=>by
   have key:prc ν α (h :: T) x=if prc ν α T x=prc ν α T (ν (α h)) then prc ν α T (ν h) else prc ν α T x:=rfl
   rw [Bool.eq_iff_iff]
   simp only [decide_eq_true_eq,Bool.and_eq_true]
   rw [key]
   constructor
   · intro e
     by_cases q:prc ν α T x=prc ν α T (ν (α h))
     · rw [if_pos q] at e
       exfalso
       apply hf.1
       rw [<- q,<- e,i1]
     · rw [if_neg q] at e
       exact ⟨e,fun w=>q (by rw [w,i1])⟩
   · rintro ⟨e,w⟩
     rw [if_neg (fun q=>w (by rw [<- e,q]))]
     exact e)
  unfold rts at ih ⊢
  simp only [List.length_cons]
  omega
theorem fst_pot (g:Nat->Int):∀ T,Fos ν α T->∃ r:Nat->Int,∀ h∈T,r (ν h)-r (ν (α h))=g h
 | [],_=>⟨fun _=>0,fun h hh=>by cases hh⟩
 | h :: T,hf=>by
  obtain ⟨r,hr⟩:=fst_pot g T hf.2
  refine ⟨fun x=>r x+(if prc ν α T x=prc ν α T (ν (α h)) then r (ν h)-g h-r (ν (α h)) else 0),fun q hq=>?_⟩
  rcases List.mem_cons.1 hq with e|e
  · subst e
    simp only [if_pos,if_neg hf.1]
    omega
  · have h1:=hr q e
    have h2:=prc_mem (ν:=ν) (α:=α) T q e
    simp only [h2]
    omega
end
theorem sumI_perm {N:Nat} {φ:Nat->Nat} (h1:∀ x,x<N->φ x<N) (h2:∀ x y,x<N->y<N->φ x=φ y->x=y) (F:Nat->Int):sumI N (fun x=>F (φ x))=sumI N F:=by
 have toL:∀ (n:Nat) (f:Nat->Int),sumI n f=((List.range n).map f).sum:=by
  intro n f
  induction n with
  | zero=>rfl
  | succ n ih=>rw [sumI,ih,List.range_succ,List.map_append,List.sum_append];simp
 rw [toL,toL]
 have hp:((List.range N).map φ).Perm (List.range N):=by
  have hnd:((List.range N).map φ).Nodup:=by
   rw [List.Nodup,List.pairwise_map]
   refine (List.nodup_range (n:=N)).imp_of_mem (fun {a b} ha hb hne he=>hne ?_)
   exact h2 a b (List.mem_range.1 ha) (List.mem_range.1 hb) he
  have hsub:∀ x∈(List.range N).map φ,x∈List.range N:=by
   intro x hx
   obtain ⟨y,hy,rfl⟩:=List.mem_map.1 hx
   exact List.mem_range.2 (h1 y (List.mem_range.1 hy))
  have gen:∀ (l k:List Nat),l.Nodup->(∀ x∈l,x∈k)->k.length<=l.length->l.Perm k:=by
   intro l
   induction l with
   | nil=>intro k _ _ hl;have:k=[]:=List.eq_nil_of_length_eq_zero (by simpa using hl);rw [this]
   | cons a l ih =>
    intro k hd hs hl
    have hd':=List.nodup_cons.1 hd
    have ha:=hs a (by simp)
    have hlen:=List.length_erase_of_mem ha
    have hpos:0<k.length:=List.length_pos_of_mem ha
    have h3:=ih (k.erase a) hd'.2 (fun x hx=>by
     have hne:x≠a:=fun e=>hd'.1 (e ▸ hx)
     exact (List.mem_erase_of_ne hne).2 (hs x (by simp [hx]))) (by simp only [List.length_cons] at hl;omega)
    exact (h3.cons a).trans (List.perm_cons_erase ha).symm
  exact gen _ _ hnd hsub (by simp)
 have e1:(List.range N).map (fun x=>F (φ x))=((List.range N).map φ).map F:=by rw [List.map_map];rfl
 rw [e1]
 have hsp:∀ (l k:List Int),l.Perm k->l.sum=k.sum:=by
  intro l k h
  induction h with
  | nil=>rfl
  | cons a _ ih=>simp [ih]
  | swap a b l=>simp only [List.sum_cons];omega
  | trans _ _ h1 h2=>rw [h1,h2]
 exact hsp _ _ (hp.map F)
structure Inv2 (N:Nat) (α:Nat->Nat):Prop where
 lt:∀ h,h<N->α h<N
 inv:∀ h,h<N->α (α h)=h
 ne:∀ h,h<N->α h≠h
theorem Inv2.inj {N:Nat} {α:Nat->Nat} (k:Inv2 N α):∀ x y,x<N->y<N->α x=α y->x=y:=fun x y hx hy e=>by rw [<- k.inv x hx,e,k.inv y hy]
theorem sum_pairs {N:Nat} {α:Nat->Nat} (k:Inv2 N α) (w:Nat->Int):sumI N w=sumI N (fun h=>if h<α h then w h+w (α h) else 0):=by
 have e1:sumI N (fun h=>if α h<h then w h else 0)=sumI N (fun h=>if h<α h then w (α h) else 0):=by
  rw [<- sumI_perm k.lt k.inj (fun h=>if α h<h then w h else 0)]
  exact sumI_congr (fun h hh=>by
   show (if α (α h)<α h then w (α h) else 0)=_
   rw [k.inv h hh])
 have e2:sumI N w=sumI N (fun h=>(if h<α h then w h else 0)+(if α h<h then w h else 0)):=sumI_congr (fun h hh=>by
  have:=k.ne h hh
  by_cases q:h<α h
  · rw [if_pos q,if_neg (by omega)];omega
  · rw [if_neg q,if_pos (by omega)];omega)
 rw [e2,sumI_plus,e1,<- sumI_plus]
 exact sumI_congr (fun h _=>by
  by_cases q:h<α h
  · rw [if_pos q,if_pos q,if_pos q]
  · rw [if_neg q,if_neg q,if_neg q];rfl)
theorem forest_zero {N V:Nat} {ν α:Nat->Nat} (k:Inv2 N α) (hν:∀ h,h<N->ν h<V) (m:Int):∀ (T:List Nat) (g:Nat->Int),Fos ν α T->(∀ h∈T,h<N)->(∀ h,h<N->m ∣ g h+g (α h))->(∀ h,h<N->h ∉ T->α h ∉ T->m ∣ g h) ->
 (∀ x,x<V->m ∣ sumI N (fun h=>if ν h=x then g h else 0))->∀ h,h<N->m ∣ g h
 | [],g,_,_,_,hz,_=>fun h hh=>hz h hh (by simp) (by simp)
 | e :: T,g,hf,hT,ha,hz,hd=>by
  have heN:=hT e List.mem_cons_self
  have heα:=k.lt e heN
  have hcls:m ∣ sumI N (fun h=>if prc ν α T (ν h)=prc ν α T (ν e) then g h else 0):=by
   have h1:sumI N (fun h=>if prc ν α T (ν h)=prc ν α T (ν e) then g h else 0)=sumI V (fun x=>if prc ν α T x=prc ν α T (ν e) then sumI N (fun h=>if ν h=x then g h else 0) else 0):=by
    have h2:sumI V (fun x=>if prc ν α T x=prc ν α T (ν e) then sumI N (fun h=>if ν h=x then g h else 0) else 0)=sumI V (fun x=>sumI N (fun h=>if ν h=x then (if prc ν α T (ν h)=prc ν α T (ν e) then g h else 0) else 0)):=sumI_congr (fun x _=>by
     by_cases q:prc ν α T x=prc ν α T (ν e)
     · rw [if_pos q]
       exact sumI_congr (fun h _=>by
        by_cases w:ν h=x
        · rw [if_pos w,if_pos w,w,if_pos q]
        · rw [if_neg w,if_neg w])
     · rw [if_neg q]
       rw [sumI_congr (g:=fun _=>0) (fun h _=>by
        by_cases w:ν h=x
        · rw [if_pos w,w,if_neg q]
        · rw [if_neg w]),sumI_zero])
    rw [h2,sumI_swap]
    refine sumI_congr (fun h hh=>?_)
    rw [sumI_single (f:=fun x=>if ν h=x then (if prc ν α T (ν h)=prc ν α T (ν e) then g h else 0) else 0) (hν h hh) (fun x _ hne=>if_neg (fun w=>hne w.symm)),if_pos rfl]
   rw [h1]
   have h3:=sumI_mod (m:=m) (C:=V) (f:=fun x=>if prc ν α T x=prc ν α T (ν e) then sumI N (fun h=>if ν h=x then g h else 0) else 0) (g:=fun _=>0) (fun x hx=>by
    show m ∣ (if _ then _ else _)-0
    rw [Int.sub_zero]
    split
    · exact hd x hx
    · exact Int.dvd_zero _)
   rwa [sumI_zero,Int.sub_zero] at h3
  have hge:m ∣ g e:=by
   rw [sum_pairs k] at hcls
   obtain ⟨e0,he0⟩:∃ e0,e0=if e<α e then e else α e:=⟨_,rfl⟩
   have he0N:e0<N:=by rw [he0];split <;> assumption
   have h4:=sumI_mod (m:=m) (C:=N) (f:=fun h=>if h<α h then (if prc ν α T (ν h)=prc ν α T (ν e) then g h else 0)+(if prc ν α T (ν (α h))=prc ν α T (ν e) then g (α h) else 0) else 0) (g:=fun h=>if h=e0 then g e else 0) (fun h hh=>by
    show m ∣ (if h<α h then _ else _)-(if h=e0 then g e else 0)
    by_cases q:h=e0
    · rw [if_pos q]
      by_cases w:e<α e
      · have hq:h=e:=by rw [q,he0,if_pos w]
        rw [hq,if_pos w,if_pos rfl,if_neg (fun z=>hf.1 z.symm)]
        exact ⟨0,by omega⟩
      · have hq:h=α e:=by rw [q,he0,if_neg w]
        have hne:=k.ne e heN
        rw [hq,k.inv e heN,if_pos (by omega),if_neg (fun z=>hf.1 z.symm),if_pos rfl]
        exact ⟨0,by omega⟩
    · rw [if_neg q,Int.sub_zero]
      split
      · next w =>
        by_cases hm1:h∈T
        · have:=prc_mem (ν:=ν) (α:=α) T h hm1
          rw [<- this]
          split
          · exact ha h hh
          · exact Int.dvd_zero _
        · by_cases hm2:α h∈T
          · have:=prc_mem (ν:=ν) (α:=α) T (α h) hm2
            rw [k.inv h hh] at this
            rw [this]
            split
            · exact ha h hh
            · exact Int.dvd_zero _
          · have hne1:h≠e:=fun z=>q (by rw [he0,<- z,if_pos w])
            have hne2:α h≠e:=fun z=>q (by
             have:α e=h:=by rw [<- z,k.inv h hh]
             rw [he0,this,if_neg (by omega)])
            have z1:=hz h hh (by simp [hne1,hm1]) (by simp [hne2,hm2])
            have z2:m ∣ g (α h):=by
             have:=Int.dvd_sub (ha h hh) z1
             rwa [show g h+g (α h)-g h=g (α h) by omega] at this
            refine Int.dvd_add ?_ ?_
            · split
              · exact z1
              · exact Int.dvd_zero _
            · split
              · exact z2
              · exact Int.dvd_zero _
      · exact Int.dvd_zero _)
   rw [sumI_single (f:=fun h=>if h=e0 then g e else 0) he0N (fun l _ hne=>if_neg hne),if_pos rfl] at h4
   have h5:=Int.dvd_sub hcls h4
   rwa [show ∀ a b:Int,a-(a-b)=b from fun a b=>by omega] at h5
  have hgα:m ∣ g (α e):=by
   have:=Int.dvd_sub (ha e heN) hge
   rwa [show g e+g (α e)-g e=g (α e) by omega] at this
  exact forest_zero k hν m T g hf.2 (fun q hq=>hT q (List.mem_cons_of_mem _ hq)) ha (fun h hh h1 h2=>by
   by_cases q1:h=e
   · rw [q1];exact hge
   · by_cases q2:α h=e
     · have:h=α e:=by rw [<- q2,k.inv h hh]
       rw [this];exact hgα
     · exact hz h hh (by simp [q1,h1]) (by simp [q2,h2])) hd
end Go.Proofs.Ytfnmeigpfmeomaa
namespace Go.Proofs.Ytfnmeigpfmeomaa
open Go.RowKit
set_option linter.unusedVariables false
def nfr (ν α:Nat->Nat):List Nat->List Nat
 | []=>[]
 | h :: es=>if prc ν α es (ν h)=prc ν α es (ν (α h)) then h :: nfr ν α es else nfr ν α es
theorem nfr_len {ν α:Nat->Nat}:∀ es,(frs ν α es).length+(nfr ν α es).length=es.length
 | []=>rfl
 | h :: es=>by
  have:=nfr_len (ν:=ν) (α:=α) es
  rw [frs,nfr]
  split <;> simp only [List.length_cons] <;> omega
theorem nfr_or {ν α:Nat->Nat}:∀ es h,h∈es->h∈frs ν α es\/h∈nfr ν α es
 | [],h,hh=>by cases hh
 | e :: es,h,hh=>by
  rw [frs,nfr]
  rcases List.mem_cons.1 hh with q|q
  · subst q
    split
    · exact Or.inr List.mem_cons_self
    · exact Or.inl List.mem_cons_self
  · rcases nfr_or es h q with w|w
    · left;split
      · exact w
      · exact List.mem_cons_of_mem _ w
    · right;split
      · exact List.mem_cons_of_mem _ w
      · exact w
theorem nfr_sub {ν α:Nat->Nat}:∀ es h,h∈nfr ν α es->h∈es
 | [],h,hh=>hh
 | e :: es,h,hh=>by
  rw [nfr] at hh
  split at hh
  · rcases List.mem_cons.1 hh with q|q
    · rw [q];exact List.mem_cons_self
    · exact List.mem_cons_of_mem _ (nfr_sub es h q)
  · exact List.mem_cons_of_mem _ (nfr_sub es h hh)
def edg (N:Nat) (α:Nat->Nat):List Nat:=(List.range N).filter fun h=>decide (h<α h)
theorem mem_edg {N:Nat} {α:Nat->Nat} {h:Nat}:h∈edg N α ↔ h<N/\h<α h:=by
 unfold edg;rw [List.mem_filter,List.mem_range,decide_eq_true_eq]
theorem edg_or {N:Nat} {α:Nat->Nat} (k:Inv2 N α) {h:Nat} (hh:h<N):h∈edg N α\/α h∈edg N α:=by
 have:=k.ne h hh
 by_cases q:h<α h
 · exact Or.inl (mem_edg.2 ⟨hh,q⟩)
 · right
   rw [mem_edg,k.inv h hh]
   exact ⟨k.lt h hh,by omega⟩
theorem edg_len {N:Nat} {α:Nat->Nat} (k:Inv2 N α):2*(edg N α).length=N:=by
 have h1:=sum_pairs k (fun _=>1)
 have e1:sumI N (fun _=>1)=(N:Int):=by
  have:∀ n:Nat,sumI n (fun _=>1)=(n:Int):=by
   intro n
   induction n with
   | zero=>rfl
   | succ n ih=>rw [sumI,ih];omega
  exact this N
 have e2:sumI N (fun h=>if h<α h then (1:Int)+1 else 0)=2*((edg N α).length:Int):=by
  have:∀ n:Nat,sumI n (fun h=>if h<α h then (1:Int)+1 else 0)=2*(((List.range n).filter fun h=>decide (h<α h)).length:Int):=by
   intro n
   induction n with
   | zero=>rfl
   | succ n ih =>
    rw [sumI,ih,List.range_succ,List.filter_append,List.length_append]
    by_cases q:n<α n
    · simp [q];omega
    · simp [q]
  exact this N
 rw [e1,e2] at h1
 omega
theorem sum_four {n c:Nat} (hc:c<n) (g:Nat->Int):sumI (4*n) (fun h=>if h/4=c then g h else 0)=g (4*c)+g (4*c+1)+g (4*c+2)+g (4*c+3):=by
 have key:∀ x,sumI (4*x) (fun h=>if h/4=c then g h else 0)=if c<x then g (4*c)+g (4*c+1)+g (4*c+2)+g (4*c+3) else 0:=by
  intro x
  induction x with
  | zero=>rfl
  | succ x ih =>
   have e:4*(x+1)=4*x+1+1+1+1:=by omega
   rw [e,sumI,sumI,sumI,sumI,ih]
   have q0:4*x/4=x:=by omega
   have q1:(4*x+1)/4=x:=by omega
   have q2:(4*x+1+1)/4=x:=by omega
   have q3:(4*x+1+1+1)/4=x:=by omega
   simp only [q0,q1,q2,q3]
   by_cases w:x=c
   · subst w
     rw [if_neg (by omega),if_pos rfl,if_pos rfl,if_pos rfl,if_pos rfl,if_pos (by omega)];omega
   · rw [if_neg w,if_neg w,if_neg w,if_neg w]
     by_cases w2:c<x
     · rw [if_pos w2,if_pos (by omega)];omega
     · rw [if_neg w2,if_neg (by omega)];rfl
 rw [key n,if_pos hc]
structure Plnr (n:Nat) (α fc lab:Nat->Nat):Prop where
 k:Inv2 (4*n) α
 fl:∀ h,h<4*n->fc h<4*n
 ff:∀ h,h<4*n->fc (turnN (α h) 3)=fc h
 fi:∀ h,h<4*n->fc (fc h)=fc h
 ll:∀ c,c<n->lab c<n
 li:∀ c,c<n->lab (lab c)=lab c
 le:∀ h,h<4*n->lab (h/4)=lab (α h/4)
 lc:∀ P:Nat->Prop,(∀ h,h<4*n->(P (h/4) ↔ P (α h/4)))->∀ x y,x<n->y<n->lab x=lab y->(P x ↔ P y)
 eu:cN (4*n) (fun h=>decide (fc h=h))=n+2*cN n (fun c=>decide (lab c=c))
 fb:∀ h,h<4*n->lab (fc h/4)=lab (h/4)
section
variable {n:Nat} {α fc lab:Nat->Nat}
theorem turn_lt {n h j:Nat} (hh:h<4*n):turnN h j<4*n:=by unfold turnN;omega
theorem turn_div (h j:Nat):turnN h j/4=h/4:=by unfold turnN;omega
theorem Plnr.next (p:Plnr n α fc lab) {h:Nat} (hh:h<4*n):fc (α (turnN h 1))=fc h:=by
 have h1:turnN h 1<4*n:=turn_lt hh
 have h2:=p.ff (α (turnN h 1)) (p.k.lt _ h1)
 rw [p.k.inv _ h1] at h2
 have h3:turnN (turnN h 1) 3=h:=by unfold turnN;omega
 rw [h3] at h2
 exact h2.symm
theorem Plnr.round (p:Plnr n α fc lab) (ρ:Nat->Nat) (hρ:∀ h,h<4*n->ρ (fc h)=ρ (fc (α h))) {h:Nat} (hh:h<4*n) (j:Nat):ρ (fc (turnN h j))=ρ (fc h):=by
 have one:∀ h,h<4*n->ρ (fc (turnN h 1))=ρ (fc h):=fun h hh=>by
  rw [hρ _ (turn_lt hh),p.next hh]
 induction j with
 | zero=>rw [show turnN h 0=h by unfold turnN;omega]
 | succ j ih =>
  have e:turnN h (j+1)=turnN (turnN h j) 1:=by unfold turnN;omega
  rw [e,one _ (turn_lt hh),ih]
theorem cN_le_inj {A B:Nat} {p q:Nat->Bool} (φ:Nat->Nat) (h1:∀ x,x<A->p x=true->φ x<B/\q (φ x)=true) (h2:∀ x y,x<A->y<A->p x=true->p y=true->φ x=φ y->x=y):cN A p<=cN B q:=by
 rw [<- cN_filter,<- cN_filter]
 have hnd:(((List.range A).filter p).map φ).Nodup:=by
  rw [List.Nodup,List.pairwise_map]
  refine ((List.nodup_range (n:=A)).filter p).imp_of_mem (fun {a b} ha hb hne he=>hne ?_)
  obtain ⟨a1,a2⟩:=List.mem_filter.1 ha
  obtain ⟨b1,b2⟩:=List.mem_filter.1 hb
  exact h2 a b (List.mem_range.1 a1) (List.mem_range.1 b1) a2 b2 he
 have:=len_le_of_sub _ ((List.range B).filter q) hnd (fun x hx=>by
  obtain ⟨y,hy,rfl⟩:=List.mem_map.1 hx
  obtain ⟨y1,y2⟩:=List.mem_filter.1 hy
  obtain ⟨a,b⟩:=h1 y (List.mem_range.1 y1) y2
  exact List.mem_filter.2 ⟨List.mem_range.2 a,b⟩)
 rwa [List.length_map] at this
theorem cN_split {V:Nat} {p q:Nat->Bool}:cN V (fun x=>p x && q x)+cN V (fun x=>p x && !q x)=cN V p:=by
 induction V with
 | zero=>rfl
 | succ V ih =>
  rw [cN,cN,cN]
  cases hp:p V <;> cases hq:q V <;> simp <;> omega
theorem cN_not {V:Nat} (p:Nat->Bool):cN V p+cN V (fun x=>!p x)=V:=by
 have:=cN_split (V:=V) (p:=fun _=>true) (q:=p)
 simp only [Bool.true_and] at this
 rw [this,cN_true]
theorem Plnr.pot (p:Plnr n α fc lab) (m:Int) (g:Nat->Int) (ha:∀ h,h<4*n->m ∣ g h+g (α h)) (hd:∀ c,c<n->m ∣ g (4*c)+g (4*c+1)+g (4*c+2)+g (4*c+3)) :
 ∃ r:Nat->Int,∀ h,h<4*n->m ∣ g h-(r (fc h)-r (fc (α h))):=by
 have hE:=edg_len p.k
 obtain ⟨E,hEE⟩:∃ E,E=edg (4*n) α:=⟨_,rfl⟩
 have hEm:∀ h,h∈E->h<4*n:=fun h hh=>by rw [hEE] at hh;exact (mem_edg.1 hh).1
 have hEo:∀ h,h<4*n->h∈E\/α h∈E:=fun h hh=>by rw [hEE];exact edg_or p.k hh
 rw [<- hEE] at hE
 clear hEE
 obtain ⟨T,hT⟩:∃ T,T=frs fc α E:=⟨_,rfl⟩
 have hTf:Fos fc α T:=by rw [hT];exact frs_fst E
 have hTE:∀ h,h∈T->h∈E:=fun h hh=>by rw [hT] at hh;exact frs_sub E h hh
 obtain ⟨S,hS⟩:∃ S,S=nfr fc α E:=⟨_,rfl⟩
 have hST:=nfr_len (ν:=fc) (α:=α) E
 rw [<- hT,<- hS] at hST
 have hSE:∀ h,h∈S->h∈E:=fun h hh=>by rw [hS] at hh;exact nfr_sub E h hh
 have hor:∀ h,h∈E->h∈T\/h∈S:=fun h hh=>by rw [hT,hS];exact nfr_or E h hh
 have hTr:=fst_rts (V:=4*n) T hTf (fun h hh=>⟨p.fl h (hEm h (hTE h hh)),p.fl _ (p.k.lt h (hEm h (hTE h hh)))⟩)
 have hpe:prc fc α T=prc fc α E:=by rw [hT];exact prc_frs E
 have hρ:∀ h,h<4*n->prc fc α E (fc h)=prc fc α E (fc (α h)):=fun h hh=>by
  rcases hEo h hh with q|q
  · exact prc_mem E h q
  · have:=prc_mem (ν:=fc) (α:=α) E (α h) q
    rw [p.k.inv h hh] at this
    exact this.symm
 have hcomp:∀ x y,x<4*n->y<4*n->lab (x/4)=lab (y/4)->prc fc α E (fc x)=prc fc α E (fc y):=by
  intro x y hx hy hl
  have hP:=p.lc (fun c=>∀ h,h<4*n->h/4=c->prc fc α E (fc h)=prc fc α E (fc x)) (fun h hh=>by
   have same:∀ a b,a<4*n->b<4*n->a/4=b/4->prc fc α E (fc a)=prc fc α E (fc b):=fun a b ha' hb' he=>by
    have h1:=p.round (prc fc α E) hρ hb' (a%4+4-b%4)
    have h2:turnN b (a%4+4-b%4)=a:=by unfold turnN;omega
    rw [h2] at h1
    exact h1
   constructor
   · intro w q hq he
     rw [same q (α h) hq (p.k.lt h hh) he,<- hρ h hh]
     exact w h hh rfl
   · intro w q hq he
     rw [same q h hq hh he,hρ h hh]
     exact w (α h) (p.k.lt h hh) rfl) (x/4) (y/4) (by omega) (by omega) hl
  have same:∀ h,h<4*n->h/4=x/4->prc fc α E (fc h)=prc fc α E (fc x):=fun h hh he=>by
   have h1:=p.round (prc fc α E) hρ hx (h%4+4-x%4)
   have h2:turnN x (h%4+4-x%4)=h:=by unfold turnN;omega
   rw [h2] at h1
   exact h1
  exact (hP.1 same y hy rfl).symm
 have hroots:rts (4*n) (prc fc α T)<=cN (4*n) (fun h=>!decide (fc h=h))+cN n (fun c=>decide (lab c=c)):=by
  rw [hpe]
  unfold rts
  rw [<- cN_split (V:=4*n) (p:=fun x=>decide (prc fc α E x=x)) (q:=fun h=>decide (fc h=h)),Nat.add_comm]
  refine Nat.add_le_add ?_ ?_
  · exact cN_le_inj (fun x=>x) (fun x hx hp=>⟨hx,by simp only [Bool.and_eq_true] at hp;exact hp.2⟩) (fun x y _ _ _ _ e=>e)
  · refine cN_le_inj (fun x=>lab (x/4)) (fun x hx hp=>⟨p.ll _ (by omega),decide_eq_true (p.li _ (by omega))⟩) (fun x y hx hy hp hq e=>?_)
    simp only [Bool.and_eq_true,decide_eq_true_eq] at hp hq
    have:=hcomp x y hx hy e
    rw [hp.2,hq.2,hp.1,hq.1] at this
    exact this
 have hnot:=cN_not (V:=4*n) (fun h=>decide (fc h=h))
 have heu:=p.eu
 obtain ⟨T2,hT2⟩:∃ T2,T2=frs (· / 4) α S:=⟨_,rfl⟩
 have hT2f:Fos (· / 4) α T2:=by rw [hT2];exact frs_fst S
 have hT2r:=fst_rts (V:=n) T2 hT2f (fun h hh=>by
  have h1:h∈S:=by rw [hT2] at hh;exact frs_sub S h hh
  have h2:=hEm h (hSE h h1)
  have h3:=p.k.lt h h2
  exact ⟨by show h/4<n;omega,by show α h/4<n;omega⟩)
 have hp2:prc (· / 4) α T2=prc (· / 4) α S:=by rw [hT2];exact prc_frs S
 have hcut:∀ x,∀ h,h<4*n->(prc (· / 4) α S (h/4)=x ↔ prc (· / 4) α S (α h/4)=x):=by
  intro x
  obtain ⟨u,hu⟩:∃ u:Nat->Int,u=fun c=>if prc (· / 4) α S c=x then 1 else 0:=⟨_,rfl⟩
  have hz:=forest_zero p.k p.fl 0 T (fun h=>u (h/4)-u (α h/4)) hTf (fun h hh=>hEm h (hTE h hh)) (fun h hh=>by
   show (0:Int) ∣ u (h/4)-u (α h/4)+(u (α h/4)-u (α (α h)/4))
   rw [p.k.inv h hh]
   exact ⟨0,by omega⟩) (fun h hh h1 h2=>by
   show (0:Int) ∣ u (h/4)-u (α h/4)
   have e:prc (· / 4) α S (h/4)=prc (· / 4) α S (α h/4):=by
    rcases hEo h hh with q|q
    · rcases hor h q with w|w
      · exact absurd w h1
      · exact prc_mem S h w
    · rcases hor _ q with w|w
      · exact absurd w h2
      · have:=prc_mem (ν:=(· / 4)) (α:=α) S (α h) w
        rw [p.k.inv h hh] at this
        exact this.symm
   rw [hu]
   simp only [e]
   exact ⟨0,by omega⟩) (fun y hy=>by
   have e1:sumI (4*n) (fun h=>if fc h=y then u (h/4)-u (α h/4) else 0)=sumI (4*n) (fun h=>if fc h=y then u (h/4) else 0)-sumI (4*n) (fun h=>if fc (turnN (α h) 3)=y then u (turnN (α h) 3/4) else 0):=by
    rw [show ∀ a b:Int,a-b=a+(-1)*b from fun a b=>by omega,<- sumI_add]
    exact sumI_congr (fun h hh=>by
     rw [p.ff h hh,turn_div]
     by_cases q:fc h=y
     · rw [if_pos q,if_pos q,if_pos q];omega
     · rw [if_neg q,if_neg q,if_neg q];rfl)
   rw [e1,sumI_perm (φ:=fun h=>turnN (α h) 3) (fun h hh=>turn_lt (p.k.lt h hh)) (fun a b ha' hb' he=>by
    have:α a=α b:=by
     have e2:turnN (α a) 3=turnN (α b) 3:=he
     unfold turnN at e2
     omega
    exact p.k.inj a b ha' hb' this) (fun h=>if fc h=y then u (h/4) else 0)]
   exact ⟨0,by omega⟩)
  intro h hh
  have h1:=hz h hh
  have h2:u (h/4)-u (α h/4)=0:=Int.zero_dvd.1 h1
  rw [hu] at h2
  simp only at h2
  by_cases q:prc (· / 4) α S (h/4)=x
  · rw [if_pos q] at h2
    constructor
    · intro _
      by_cases w:prc (· / 4) α S (α h/4)=x
      · exact w
      · rw [if_neg w] at h2;omega
    · intro _;exact q
  · rw [if_neg q] at h2
    constructor
    · intro w;exact absurd w q
    · intro w;rw [if_pos w] at h2;omega
 have hr2:rts n (prc (· / 4) α T2)<=cN n (fun c=>decide (lab c=c)):=by
  rw [hp2]
  unfold rts
  refine cN_le_inj lab (fun x hx _=>⟨p.ll x hx,decide_eq_true (p.li x hx)⟩) (fun x y hx hy hp hq e=>?_)
  have h1:=(p.lc (fun c=>prc (· / 4) α S c=prc (· / 4) α S x) (hcut _) x y hx hy e).1 rfl
  simp only [decide_eq_true_eq] at hp hq
  rw [hp,hq] at h1
  exact h1.symm
 have hT2S:T2=S:=by
  rw [hT2]
  refine frs_all S ?_
  rw [<- hT2]
  have:=frs_len (ν:=(· / 4)) (α:=α) S
  rw [<- hT2] at this
  omega
 obtain ⟨r,hr⟩:=fst_pot g T hTf
 refine ⟨r,?_⟩
 have hnext:∀ c s,c<n->s<4->fc (α (4*c+(s+1)%4))=fc (4*c+s):=fun c s hc hs=>by
  have h1:=p.next (h:=4*c+s) (by omega)
  have h2:turnN (4*c+s) 1=4*c+(s+1)%4:=by unfold turnN;omega
  rw [h2] at h1
  exact h1
 refine forest_zero (ν:=(· / 4)) (V:=n) p.k (fun h hh=>by show h/4<n;omega) m S (fun h=>g h-(r (fc h)-r (fc (α h)))) (by rw [<- hT2S];exact hT2f) (fun h hh=>hEm h (hSE h hh)) (fun h hh=>?_) (fun h hh h1 h2=>?_) (fun c hc=>?_)
 · show m ∣ g h-(r (fc h)-r (fc (α h)))+(g (α h)-(r (fc (α h))-r (fc (α (α h)))))
   rw [p.k.inv h hh,show g h-(r (fc h)-r (fc (α h)))+(g (α h)-(r (fc (α h))-r (fc h)))=g h+g (α h) by omega]
   exact ha h hh
 · show m ∣ g h-(r (fc h)-r (fc (α h)))
   rcases hEo h hh with q|q
   · rcases hor h q with w|w
     · rw [hr h w];exact ⟨0,by omega⟩
     · exact absurd w h1
   · rcases hor _ q with w|w
     · have h3:=hr _ w
       rw [p.k.inv h hh] at h3
       rw [show g h-(r (fc h)-r (fc (α h)))=g h+g (α h) by omega]
       exact ha h hh
     · exact absurd w h2
 · have h1:=sum_four hc (fun h=>g h-(r (fc h)-r (fc (α h))))
   have e1:sumI (4*n) (fun h=>if (fun x=>x/4) h=c then g h-(r (fc h)-r (fc (α h))) else 0)=_:=h1
   rw [e1]
   have n0:=hnext c 0 hc (by omega)
   have n1:=hnext c 1 hc (by omega)
   have n2:=hnext c 2 hc (by omega)
   have n3:=hnext c 3 hc (by omega)
   simp only [Nat.reduceAdd,Nat.reduceMod,Nat.add_zero] at n0 n1 n2 n3
   rw [n0,n1,n2,n3]
   have h2:=hd c hc
   rw [show g (4*c)-(r (fc (4*c))-r (fc (4*c+3)))+(g (4*c+1)-(r (fc (4*c+1))-r (fc (4*c))))+(g (4*c+2)-(r (fc (4*c+2))-r (fc (4*c+1))))+(g (4*c+3)-(r (fc (4*c+3))-r (fc (4*c+2))))=g (4*c)+g (4*c+1)+g (4*c+2)+g (4*c+3) by omega]
   exact h2
end
theorem count_reps {n:Nat} {lab:Nat->Nat} (ll:∀ c,c<n->lab c<n) (li:∀ c,c<n->lab (lab c)=lab c):∀ hs:List Nat,(∀ h∈hs,h<n)->hs.length=sumN n (fun c=>if lab c=c then hs.countP (fun h=>lab h==c) else 0)
 | [],_=>by
  have:∀ k,sumN k (fun c=>if lab c=c then ([]:List Nat).countP (fun h=>lab h==c) else 0)=0:=by
   intro k
   induction k with
   | zero=>rfl
   | succ k ih=>rw [sumN,ih];simp
  rw [this n];rfl
 | h :: hs,hl=>by
  have ih:=count_reps ll li hs (fun q hq=>hl q (List.mem_cons_of_mem _ hq))
  have hh:=hl h List.mem_cons_self
  have one:∀ k,sumN k (fun c=>if lab c=c then (h :: hs).countP (fun h=>lab h==c) else 0)=sumN k (fun c=>if lab c=c then hs.countP (fun h=>lab h==c) else 0)+(if lab h<k then 1 else 0):=by
   intro k
   induction k with
   | zero=>simp [sumN]
   | succ k ihk =>
    rw [sumN,sumN,ihk,List.countP_cons]
    generalize sumN k (fun c=>if lab c=c then hs.countP (fun h=>lab h==c) else 0)=A
    generalize hs.countP (fun h=>lab h==k)=B
    by_cases q:lab h=k
    · have h1:=li h hh
      rw [q] at h1
      have e1:(lab h==k)=true:=by simpa using q
      rw [e1,if_pos h1,if_pos h1,if_pos rfl,q,if_neg (Nat.lt_irrefl k),if_pos (Nat.lt_succ_self k)]
      omega
    · have e1:(lab h==k)=false:=by simpa using q
      have w3:(lab h<k+1)=(lab h<k):=propext ⟨fun _=>by omega,fun _=>by omega⟩
      simp only [w3,e1]
      by_cases w1:lab k=k
      · rw [if_pos w1,if_pos w1,if_neg (show ¬ (false=true) by simp)];omega
      · rw [if_neg w1,if_neg w1];omega
  rw [one n,if_pos (ll h hh),List.length_cons,<- ih]
theorem planar {S M:List Int} {L:Int} (hv:valB S M L=true):∃ fc lab,Plnr S.length (mt M) fc lab:=by
 have k:=valB_ok hv
 have hm:=k.m
 have hperm:=k.perm
 have hR:Rg M S.length:=⟨by have:=k.m;omega,fun h hh=>by have:=k.lt h (by have:=k.m;omega);have:=k.m;omega⟩
 obtain ⟨fc,hfc⟩:=choose_list (P:=fun h j=>j∈heads (phi M) M.length/\Rl (phi M) j h) (List.range M.length) (fun h hh=>exists_head hperm h (List.mem_range.1 hh))
 have hf:∀ h,h<M.length->fc h∈heads (phi M) M.length/\Rl (phi M) (fc h) h:=fun h hh=>hfc h (List.mem_range.2 hh)
 have huniq:∀ h j,h<M.length->j∈heads (phi M) M.length->Rl (phi M) j h->fc h=j:=fun h j hh hj hr=>by
  obtain ⟨a,b⟩:=hf h hh
  exact heads_inj hperm a hj (b.trans (hperm.symm ((mem_heads hperm).1 hj).1 hr))
 obtain ⟨lab,hlab⟩:∃ lab,lab=fun c=>gn (labK M S.length S.length) c:=⟨_,rfl⟩
 have lconn:∀ c,c<S.length->Conn (Ed M) c (lab c):=fun c hc=>by rw [hlab];exact labK_conn hR _ c hc
 have lleast:∀ c q,q<S.length->Conn (Ed M) q c->lab c<=q:=fun c q hq h=>by rw [hlab];exact labK_least hR hq h
 have esym:∀ a b,Ed M a b->Ed M b a:=fun a b h=>h.symm
 have ll:∀ c,c<S.length->lab c<S.length:=fun c hc=>Nat.lt_of_le_of_lt (lleast c c hc (.refl _)) hc
 have leq:∀ a b,a<S.length->b<S.length->Conn (Ed M) a b->lab a=lab b:=fun a b ha hb h=>by
  refine Nat.le_antisymm (lleast a _ (ll b hb) ?_) (lleast b _ (ll a ha) ?_)
  · exact (Conn.symm esym (lconn b hb)).trans (Conn.symm esym h)
  · exact (Conn.symm esym (lconn a ha)).trans h
 have li:∀ c,c<S.length->lab (lab c)=lab c:=fun c hc=>(leq c (lab c) hc (ll c hc) (lconn c hc)).symm
 refine ⟨fc,lab,⟨?_,?_,?_⟩,?_,?_,?_,ll,li,?_,?_,?_,?_⟩
 · intro h hh;rw [<- hm] at hh ⊢;exact k.lt h hh
 · intro h hh;rw [<- hm] at hh;exact k.inv h hh
 · intro h hh;rw [<- hm] at hh;exact k.ne h hh
 · intro h hh;rw [<- hm] at hh ⊢;exact ((mem_heads hperm).1 (hf h hh).1).1
 · intro h hh
   rw [<- hm] at hh
   have h1:phi M h<M.length:=hperm.lt h hh
   obtain ⟨a,b⟩:=hf h hh
   exact huniq (phi M h) (fc h) h1 a (b.trans (Rl.step _ _))
 · intro h hh
   rw [<- hm] at hh
   obtain ⟨a,b⟩:=hf h hh
   exact huniq (fc h) (fc h) ((mem_heads hperm).1 a).1 a (Rl.refl _ _)
 · intro h hh
   have h1:=k.lt h (by omega)
   exact leq _ _ (by omega) (by omega) (Conn.one ⟨h,by omega,Or.inl ⟨rfl,rfl⟩⟩)
 · intro P hP x y hx hy e
   have cl:∀ a b,Ed M a b->P a->P b:=by
    rintro a b ⟨h,hh,⟨rfl,rfl⟩|⟨rfl,rfl⟩⟩ ha
    · exact (hP h (by omega)).1 ha
    · exact (hP h (by omega)).2 ha
   have hc:Conn (Ed M) x y:=(lconn x hx).trans (by rw [e];exact Conn.symm esym (lconn y hy))
   exact ⟨hc.closed cl,(Conn.symm esym hc).closed cl⟩
 · -- Euler
   have hsp:sphR M S.length=true:=by
    unfold valB at hv
    simp only [Bool.and_eq_true] at hv
    exact hv.2
   have hsp':∀ c,c<S.length->lab c=c->(heads (phi M) M.length).countP (fun h=>lab (h/4)==c)=(List.range S.length).countP (fun b=>lab b==c)+2:=by
    intro c hc hr
    have h1:=List.all_eq_true.1 hsp c (List.mem_range.2 hc)
    unfold spB at h1
    have e0:gn (labK M S.length S.length) c=c:=by rw [hlab] at hr;exact hr
    rw [e0] at h1
    have h2:(c != c)=false:=by simp
    rw [h2,Bool.false_or,beq_iff_eq] at h1
    unfold fcN crN at h1
    rw [labK_length] at h1
    rw [hlab]
    exact h1
   have hF:(heads (phi M) M.length).length=cN (4*S.length) (fun h=>decide (fc h=h)):=by
    rw [<- hm,<- cN_filter]
    congr 1
    unfold heads
    refine List.filter_congr (fun h hh=>?_)
    have hh':=List.mem_range.1 hh
    rw [Bool.eq_iff_iff,decide_eq_true_eq]
    have h1:h∈heads (phi M) M.length ↔ fc h=h:=by
     constructor
     · intro w;exact huniq h h hh' w (Rl.refl _ _)
     · intro w;rw [<- w];exact (hf h hh').1
    rw [<- h1]
    unfold heads
    rw [List.mem_filter]
    exact ⟨fun w=>⟨hh,w⟩,fun w=>w.2⟩
   have c1:=count_reps (n:=S.length) ll li ((heads (phi M) M.length).map (· / 4)) (fun h hh=>by
    obtain ⟨q,hq,rfl⟩:=List.mem_map.1 hh
    have:=((mem_heads hperm).1 hq).1
    show q/4<S.length
    omega)
   have c2:=count_reps (n:=S.length) ll li (List.range S.length) (fun h hh=>List.mem_range.1 hh)
   rw [List.length_map] at c1
   rw [List.length_range] at c2
   have key:∀ x,x<=S.length->sumN x (fun c=>if lab c=c then ((heads (phi M) M.length).map (· / 4)).countP (fun h=>lab h==c) else 0)=sumN x (fun c=>if lab c=c then (List.range S.length).countP (fun h=>lab h==c) else 0)+2*cN x (fun c=>decide (lab c=c)):=by
    intro x
    induction x with
    | zero=>intro _;rfl
    | succ x ih =>
     intro hx
     rw [sumN,sumN,cN,ih (by omega)]
     by_cases q:lab x=x
     · have h1:=hsp' x (by omega) q
       have e1:((heads (phi M) M.length).map (· / 4)).countP (fun h=>lab h==x)=(heads (phi M) M.length).countP (fun h=>lab (h/4)==x):=by rw [List.countP_map];rfl
       rw [if_pos q,if_pos q,e1,h1]
       simp only [q,decide_true,if_true]
       omega
     · rw [if_neg q,if_neg q]
       simp [q]
   rw [<- hF,c1,key S.length (Nat.le_refl _),<- c2]
 · intro h hh
   rw [<- hm] at hh
   obtain ⟨a,t,b⟩:=hf h hh
   have hlt:fc h<M.length:=((mem_heads hperm).1 a).1
   have it:∀ t,lab (itr (phi M) t (fc h)/4)=lab (fc h/4):=by
    intro t
    induction t with
    | zero=>rfl
    | succ t ih =>
     have h1:=hperm.itr_lt hlt t
     have h2:=k.lt _ h1
     show lab (turnN (mt M (itr (phi M) t (fc h))) 3/4)=_
     rw [turn_div,<- ih]
     exact (leq _ _ (by omega) (by omega) (Conn.one ⟨_,h1,Or.inl ⟨rfl,rfl⟩⟩)).symm
   have h2:=it t
   rw [b] at h2
   exact h2.symm
def rowsOf (S M:List Int) (L:Int):List (List Int):=matM (arcL M) (colN M L) S.length
theorem rowsOf_length (S M:List Int) (L:Int):(rowsOf S M L).length=S.length:=matM_length _ _ _
theorem rowsOf_mem {S M:List Int} {L:Int} {r:List Int} (h:r∈rowsOf S M L):∃ c,r=rowM (arcL M) (colN M L) c:=by
 unfold rowsOf matM at h
 obtain ⟨c,_,rfl⟩:=List.mem_map.1 h
 exact ⟨c,rfl⟩
theorem rowsOf_cols {S M:List Int} {L:Int} (h:0<S.length):cols (rowsOf S M L)=colN M L:=by
 unfold cols rowsOf
 rw [matM_get h];exact rowM_length _ _ _
theorem rowsOf_len {S M:List Int} {L:Int}:∀ r∈rowsOf S M L,r.length=cols (rowsOf S M L):=by
 intro r hr
 have h0:0<S.length:=by
  rcases Nat.eq_zero_or_pos S.length with e|e
  · unfold rowsOf at hr;rw [e] at hr;simp [matM] at hr
  · exact e
 obtain ⟨c,rfl⟩:=rowsOf_mem hr
 rw [rowsOf_cols h0];exact rowM_length _ _ _
theorem asum_set {r:List Int} {i:Nat} (h:i<r.length) (x:Int):asum (r.set i x)+r[i].natAbs=asum r+x.natAbs:=by
 induction r generalizing i with
 | nil=>simp at h
 | cons a r ih =>
  cases i with
  | zero=>simp [asum];omega
  | succ i =>
   have:=ih (i:=i) (by simpa using h)
   simp only [List.set_cons_succ,List.getElem_cons_succ]
   unfold asum at this ⊢
   simp only [List.map_cons,List.sum_cons]
   omega
theorem asum_addI (r:List Int) (i:Nat) (d:Int):asum (addI r i d)<=asum r+d.natAbs:=by
 unfold addI
 rcases Nat.lt_or_ge i r.length with h|h
 · have h1:=asum_set h (gi r i+d)
   have h2:gi r i=r[i]:=by unfold gi;rw [List.getElem?_eq_getElem h];rfl
   rw [h2] at h1 ⊢
   have h3:(r[i]+d).natAbs<=r[i].natAbs+d.natAbs:=Int.natAbs_add_le _ _
   omega
 · rw [List.set_eq_of_length_le h];omega
theorem asum_zeros (n:Nat):asum (List.replicate n 0)=0:=by
 induction n with
 | zero=>rfl
 | succ n ih=>rw [List.replicate_succ];unfold asum at ih ⊢;simp only [List.map_cons,List.sum_cons,ih];rfl
theorem asum_rowM (arc:List Nat) (cols c:Nat):asum (rowM arc cols c)<=4:=by
 unfold rowM
 have h1:=asum_addI (addI (addI (List.replicate cols 0) (gn arc (4*c+1)) 2) (gn arc (4*c)) (-1)) (gn arc (4*c+2)) (-1)
 have h2:=asum_addI (addI (List.replicate cols 0) (gn arc (4*c+1)) 2) (gn arc (4*c)) (-1)
 have h3:=asum_addI (List.replicate cols 0) (gn arc (4*c+1)) 2
 rw [asum_zeros] at h3
 have e1:((-1:Int)).natAbs=1:=rfl
 have e2:((2:Int)).natAbs=2:=rfl
 omega
theorem rowsOf_sum {S M:List Int} {L:Int}:∀ r∈rowsOf S M L,asum r<=4:=fun r hr=>by
 obtain ⟨c,rfl⟩:=rowsOf_mem hr;exact asum_rowM _ _ _
def facL (S M:List Int) (L:Int):List Nat:=facO (smD (cols (rowsOf S M L)) (rowsOf S M L)) (cols (rowsOf S M L)) (rowsOf S M L) (min S.length (cols (rowsOf S M L)))
theorem facD_length (m C:Nat) (rows:List (List Int)) (d:Nat):(facD m C rows d).length=d:=by unfold facD;rw [chI_length,dgP_length]
theorem facL_length (S M:List Int) (L:Int):(facL S M L).length=min S.length (cols (rowsOf S M L)):=by unfold facL facO;rw [outP_length,facD_length]
def invL (S M:List Int) (L:Int):List Nat:=(List.range (colN M L)).map (gn (facL S M L))
theorem invL_length (S M:List Int) (L:Int):(invL S M L).length=colN M L:=by simp [invL]
theorem cols_le {S M:List Int} {L:Int}:cols (rowsOf S M L)<=colN M L:=by
 rcases Nat.eq_zero_or_pos S.length with e|e
 · unfold rowsOf;rw [e];simp [matM,cols]
 · rw [rowsOf_cols e];exact Nat.le_refl _
theorem splice_inv (S M:List Int) (L:Int):splice (List.replicate (colN M L) (Value.int .i64 0)) 0 (nc (facL S M L))=nc (invL S M L):=by
 have hl:(facL S M L).length<=colN M L:=by rw [facL_length];exact Nat.le_trans (Nat.min_le_right _ _) cols_le
 unfold splice
 apply List.ext_getElem?
 intro i
 simp only [List.take_zero,List.nil_append,Nat.zero_add]
 have hn:(nc (facL S M L)).length=(facL S M L).length:=by simp [nc]
 rcases Nat.lt_or_ge i (facL S M L).length with q|q
 · rw [List.getElem?_append_left (by rw [hn];exact q),nc_get q,nc_get (by rw [invL_length];omega)]
   unfold invL;rw [gn_map_range,if_pos (by omega)]
 · rw [List.getElem?_append_right (by rw [hn];exact q),List.getElem?_drop,List.getElem?_replicate,hn]
   rcases Nat.lt_or_ge i (colN M L) with q2|q2
   · rw [if_pos (by omega),nc_get (by rw [invL_length];exact q2)]
     unfold invL;rw [gn_map_range,if_pos q2,gn_out q];rfl
   · rw [if_neg (by omega),List.getElem?_eq_none (by simp [nc,invL_length];exact q2)]
theorem nc_one (l:List Nat):∀ v∈nc l,v.oneCell'=true:=by
 intro v hv;obtain ⟨k,_,rfl⟩:=List.mem_map.1 hv;rfl
theorem colN_small {S M:List Int} {L:Int} (k:Ok S M L) (hn:S.length<=14) (hL:L<=4):colN M L<=60:=by
 unfold colN
 have:=rk_le (labA M M.length M.length) M.length
 have:=k.m;have:=k.l0
 omega
set_option maxHeartbeats 1000000 in
theorem Inv_full (vs vm:Value) (S M:List Int) (L:Int) (w:World) (hS:Ints w vs S) (hM:Ints w vm M) (hv:valB S M L=true) (hf:14<S.length\/4<L) :
 Calls Try.prog 9 #[.agg #[vs,vm,.int .i64 L]] w fun e w'=>e=.returned (.tuple #[.slice none 0 0,.int .i64 5])/\Below w.heap.size w w':=by
 have hW:Arr (w.alloc (.cells #[vs,vm,.int .i64 L] 24)) w.heap.size 24 [vs,vm,.int .i64 L]/\Below w.heap.size w (w.alloc (.cells #[vs,vm,.int .i64 L] 24)):=⟨Arr.new w _ _,(Below.refl _ _).alloc (Nat.le_refl _) _⟩
 have HC:=Lib.hid (fun W (hb:Below w.heap.size w W)=>Matrix_yes vs vm S M L W (hS.below hb) (hM.below hb) hv)
 have hsl:S.length<=64:=(valB_ok hv).n
 clear hv
 obtain ⟨A,c,rfl,hc,hx⟩:=hS
 obtain ⟨A2,c2,rfl,hc2,hx2⟩:=hM
 clear hx hx2
 go_enter Try.func9,Try.ntmps9
 go_upto_region 1 with fail
 generalize (w.alloc (.cells #[.slice A S.length c,.slice A2 M.length c2,.int .i64 L] 24))=w4 at hW ⊢
 obtain ⟨q0,hb4⟩:=hW
 have y0:=q0.cell 0
 have y1:=q0.cell 1
 have y2:=q0.cell 2
 go_upto_region 4 with (go_at_call 20;refine (HC.out _ hb4).mono ?_;rintro e w5 ⟨v,rfl,hv5,hb5⟩)
 have q5:=q0.below hb5 q0.lt
 clear y0 y1 y2
 have y0:=q5.cell 0
 have y2:=q5.cell 2
 by_cases h14:14<S.length
 · have z1:(14:Int)<(S.length:Int):=by omega
   go_wp2_with fail
   go_ret2
   exact ⟨rfl,hb4.trans (hb5.mono hb4.size)⟩
 · have z1:¬ ((14:Int)<(S.length:Int)):=by omega
   have z2:4<L:=by omega
   go_wp2_with fail
   go_ret2
   exact ⟨rfl,hb4.trans (hb5.mono hb4.size)⟩
set_option maxHeartbeats 2000000 in
theorem Inv_yes (vs vm:Value) (S M:List Int) (L:Int) (w:World) (hS:Ints w vs S) (hM:Ints w vm M) (hv:valB S M L=true) (hn:S.length<=14) (hL:L<=4) :
 Calls Try.prog 9 #[.agg #[vs,vm,.int .i64 L]] w fun e w'=>∃ g,e=.returned (.tuple #[.slice (some ⟨g,0,none⟩) (colN M L) (colN M L),.int .i64 0])/\w.heap.size<=g/\Arr w' g 3 (nc (invL S M L))/\Below w.heap.size w w':=by
 obtain ⟨i2,hi2,hx0,hx1,hx2⟩:=info_parts intInfo
 have hcs:=colN_small (valB_ok hv) hn hL
 have hcl:=cols_le (S:=S) (M:=M) (L:=L)
 have HMI:=Lib.hid (run_make_one (P:=Try.prog) 22 3 i2 (.int .i64 0) Try.underlying22 hi2 hx0 hx1 rfl (by omega) (colN M L) (by omega))
 have hW:Arr (w.alloc (.cells #[vs,vm,.int .i64 L] 24)) w.heap.size 24 [vs,vm,.int .i64 L]/\Below w.heap.size w (w.alloc (.cells #[vs,vm,.int .i64 L] 24)):=⟨Arr.new w _ _,(Below.refl _ _).alloc (Nat.le_refl _) _⟩
 have HC:=Lib.hid (fun W (hb:Below w.heap.size w W)=>Matrix_yes vs vm S M L W (hS.below hb) (hM.below hb) hv)
 have HA:=Lib.hid (fun W (hb:Below w.heap.size w W)=>Arcs_yes vs vm S M L W (hS.below hb) (hM.below hb) hv)
 have HSM:=Lib.hid (fun v W (hm:Mat W v (rowsOf S M L))=>Smith_any v (rowsOf S M L) (cols (rowsOf S M L)) W hm (by rw [rowsOf_length];omega) (by omega) rfl rowsOf_len rowsOf_sum)
 rw [rowsOf_length] at HSM
 have HSM2:=Lib.hid (fun v W (hm:Mat W v (matM (arcL M) (colN M L) S.length))=>show Calls Try.prog 22 #[v] W fun e w'=>∃ g,e=.returned (.tuple #[.slice (some ⟨g,0,none⟩) (min S.length (cols (rowsOf S M L))) (min S.length (cols (rowsOf S M L))),.int .i64 0])/\W.heap.size<=g/\Arr w' g 3 (nc (facL S M L))/\Below W.heap.size W w' from HSM.out v W hm)
 have HFL:=Lib.hid (facL_length S M L)
 have HSP:=Lib.hid (splice_inv S M L)
 generalize facL S M L=F at *
 generalize hd:min S.length (cols (rowsOf S M L))=d at *
 have hdC:d<=colN M L:=by omega
 generalize invL S M L=I at *
 obtain ⟨K,hK⟩:∃ K,K=colN M L:=⟨_,rfl⟩
 rw [<- hK] at HC HA HSM2 HMI HSP hcs hdC ⊢
 clear hv HSM hd hcl hK
 obtain ⟨A,c,rfl,hc,hx⟩:=hS
 obtain ⟨A2,c2,rfl,hc2,hx2⟩:=hM
 clear hx hx2
 go_enter Try.func9,Try.ntmps9
 go_upto_region 1 with fail
 generalize (w.alloc (.cells #[.slice A S.length c,.slice A2 M.length c2,.int .i64 L] 24))=w4 at hW ⊢
 obtain ⟨q0,hb4⟩:=hW
 have y0:=q0.cell 0
 have y1:=q0.cell 1
 have y2:=q0.cell 2
 go_upto_region 4 with (go_at_call 20;refine (HC.out _ hb4).mono ?_;rintro e w5 ⟨v,rfl,hv5,hb5⟩)
 have q5:=q0.below hb5 q0.lt
 have hb5':=hb4.trans (hb5.mono hb4.size)
 clear y0 y1 y2
 have y0:=q5.cell 0
 have y1:=q5.cell 1
 have y2:=q5.cell 2
 have z1:¬ ((14:Int)<(S.length:Int)):=by omega
 have z2:¬ (4<L):=by omega
 have HV5:=Lib.hid hv5
 clear hv5
 go_upto_region 9 with (go_at_call 21;refine (HA.out _ hb5').mono ?_;rintro e w6 ⟨g6,rfl,hg6,ha6,hb6⟩)
 have HS6:=Lib.hid (HSM2.out v w6 (HV5.out.below hb6))
 have hb6':=hb5'.trans (hb6.mono hb5'.size)
 clear y0 y1 y2 ha6 q0 q5
 have hmk:=HMI.out
 go_upto_region 12 with (go_at_call 22;refine HS6.out.mono ?_;rintro e w7 ⟨g7,rfl,hg7,ha7,hb7⟩)
 have hb7':=hb6'.trans (hb7.mono hb6'.size)
 have lg:=ha7.lt
 have hW8:∀ W,W=w7.alloc (.cells (rowOf (List.replicate (K) (Value.int .i64 0))) 3)->Arr W w7.heap.size 3 (List.replicate (K) (Value.int .i64 0))/\Arr W g7 3 (nc F)/\Below w.heap.size w W:=by
  intro W hW;subst hW;exact ⟨Arr.new w7 _ _,ha7.alloc _,hb7'.alloc hb7'.size _⟩
 go_upto_region 13 with fail
 generalize w7.alloc (.cells (rowOf (List.replicate (K) (Value.int .i64 0))) 3)=w8 at hW8 ⊢
 obtain ⟨a8,f8,b8⟩:=hW8 w8 rfl
 have HLG:=Lib.hid (show w.heap.size<=w7.heap.size from hb7'.size)
 generalize w7.heap.size=g8 at *
 have hsz:(Try.prog.info? 3).map (·.size)=some 1:=by rw [hi2];simp [hx1]
 clear hmk ha7 hb7 hb7' hW8
 have h8:w8.heap[g8]? = some (.cells (List.replicate (K) (Value.int .i64 0)).toArray 3 (0,0)):=a8
 have hF:(nc F).length=d:=by rw [<- HFL.out];simp [nc]
 have hpos:0<(nc F).length->some (⟨g8,0,none⟩:Addr)=some ⟨g8,0,none⟩/\∃ ad,some (⟨g7,0,none⟩:Addr)=some ad/\∀ j v,(nc F)[j]? = some v->w8.cell? (ad.add j)=some v:=fun _=>⟨rfl,_,rfl,fun j v hj=>by
  have:(⟨g7,0,none⟩:Addr).add j=⟨g7,j,none⟩:=by unfold Addr.add;split <;> simp_all
  rw [this,f8.cell];exact hj⟩
 have H8:=Lib.hid h8
 have HF:=Lib.hid (show (nc F).length=Nat.min d (K) by rw [hF];exact (Nat.min_eq_left hdC).symm)
 have HPO:=Lib.hid hpos
 have HFI:=Lib.hid (show 0+(nc F).length<=(List.replicate (K) (Value.int .i64 0)).length by rw [hF];simp;exact hdC)
 have HSZ:=Lib.hid hsz
 have HN1:=Lib.hid (nc_one F)
 clear h8 hF hpos hsz hi2 hx0 hx1 hx2
 go_wp2_with (refine wpList_copy_splice rfl (.tmp 46) (.tmp 47) 22 22 rfl 3 Try.underlying22 HSZ.out (some ⟨g8,0,none⟩) (some ⟨g7,0,none⟩) K K d d (by rfl) (by rfl) g8 0 (List.replicate K (Value.int .i64 0)) 3 H8.out (nc F) HF.out HPO.out HFI.out HN1.out w.heap.size w b8 HLG.out ?_;intro w9 hg9 hb9)
 go_ret2
 exact ⟨g8,rfl,HLG.out,by unfold Arr rowOf;rw [<- HSP.out];exact hg9.out,hb9⟩
theorem outP_le {m:Nat} {D:List Nat} (h:Dvs m D) (hm:0<m) (x j:Nat):gn (outP m D x) j<=m:=by
 rcases Nat.lt_or_ge j D.length with q|q
 · rw [gn_outP q];split
   · exact Nat.le_of_dvd hm (h j q)
   · omega
 · rw [gn_out (by rw [outP_length];exact q)];omega
theorem facD_dvs (m C:Nat) (rows:List (List Int)) (d:Nat):Dvs m (facD m C rows d):=(dgP_dvs m C _ d).chI (dgP_length _ _ _ _ _) d (Nat.le_refl _)
theorem invL_le (S M:List Int) (L:Int) (j:Nat):gn (invL S M L) j<=2305843009213693950:=by
 unfold invL
 rw [gn_map_range]
 split
 · obtain ⟨h1,h2⟩:=smD_bd (C:=cols (rowsOf S M L)) (rows:=rowsOf S M L) rowsOf_len
   exact Nat.le_trans (outP_le (facD_dvs _ _ _ _) h1 _ _) h2
 · omega
def cntP (l:List Nat) (m:Nat):Nat->Option Nat
 | 0=>some 1
 | x+1=>match cntP l m x with
  | none=>none
  | some a=>if 1125899906842624/Nat.gcd (gn l x) m<a then none else some (a*Nat.gcd (gn l x) m)
theorem cntP_none {l:List Nat} {m x:Nat} (h:cntP l m x=none):∀ y,x<=y->cntP l m y=none:=by
 intro y hy
 induction y with
 | zero=>obtain rfl:x=0:=by omega
         exact h
 | succ y ih =>
  by_cases e:x=y+1
  · rw [<- e];exact h
  · rw [cntP,ih (by omega)]
theorem cntP_step {l:List Nat} {m x a:Nat} (h:cntP l m x=some a):cntP l m (x+1)=if 1125899906842624/Nat.gcd (gn l x) m<a then none else some (a*Nat.gcd (gn l x) m):=by rw [cntP,h]
theorem cntP_bd {l:List Nat} {m:Nat} (hm:0<m):∀ {x a:Nat},cntP l m x=some a->1<=a/\a<=1125899906842624
 | 0,a,h=>by injection h with h;omega
 | x+1,a,h=>by
  cases hx:cntP l m x with
  | none=>rw [cntP,hx] at h;cases h
  | some b =>
   rw [cntP_step hx] at h
   obtain ⟨h1,h2⟩:=cntP_bd hm hx
   have hg:0<Nat.gcd (gn l x) m:=Nat.gcd_pos_of_pos_right _ hm
   split at h
   · cases h
   · next q =>
     injection h with h
     subst h
     refine ⟨Nat.mul_pos h1 hg,?_⟩
     have:=Nat.mul_le_of_le_div _ _ _ (Nat.le_of_not_lt q)
     exact this
set_option maxHeartbeats 1000000 in
theorem Count_arg (vs vm:Value) (S M:List Int) (L md:Int) (w:World) (hS:Ints w vs S) (hM:Ints w vm M) (hv:valB S M L=false) :
 Calls Try.prog 7 #[.agg #[vs,vm,.int .i64 L],.int .i64 md] w fun e w'=>e=.returned (.tuple #[.int .i64 0,.int .i64 1])/\Below w.heap.size w w':=by
 have hW:Arr (w.alloc (.cells #[vs,vm,.int .i64 L] 24)) w.heap.size 24 [vs,vm,.int .i64 L]/\Below w.heap.size w (w.alloc (.cells #[vs,vm,.int .i64 L] 24)):=⟨Arr.new w _ _,(Below.refl _ _).alloc (Nat.le_refl _) _⟩
 have HC:=Lib.hid (fun W (hb:Below w.heap.size w W)=>valid_code vs vm S M L W (hS.below hb) (hM.below hb))
 rw [hv] at HC
 clear hv
 obtain ⟨A,c,rfl,hc,hx⟩:=hS
 obtain ⟨A2,c2,rfl,hc2,hx2⟩:=hM
 clear hx hx2
 go_enter Try.func7,Try.ntmps7
 go_upto_region 1 with fail
 generalize (w.alloc (.cells #[.slice A S.length c,.slice A2 M.length c2,.int .i64 L] 24))=w4 at hW ⊢
 obtain ⟨q0,hb4⟩:=hW
 have y0:=q0.cell 0
 have y1:=q0.cell 1
 have y2:=q0.cell 2
 go_wp2_with (go_at_call 11;refine (HC.out _ hb4).mono ?_;rintro e w5 ⟨rfl,hb5⟩)
 go_ret2
 exact ⟨rfl,hb4.trans (hb5.mono hb4.size)⟩
set_option maxHeartbeats 1000000 in
theorem Count_range (vs vm:Value) (S M:List Int) (L md:Int) (w:World) (hS:Ints w vs S) (hM:Ints w vm M) (hv:valB S M L=true) (hr:md<1\/1000<md) :
 Calls Try.prog 7 #[.agg #[vs,vm,.int .i64 L],.int .i64 md] w fun e w'=>e=.returned (.tuple #[.int .i64 0,.int .i64 2])/\Below w.heap.size w w':=by
 have hW:Arr (w.alloc (.cells #[vs,vm,.int .i64 L] 24)) w.heap.size 24 [vs,vm,.int .i64 L]/\Below w.heap.size w (w.alloc (.cells #[vs,vm,.int .i64 L] 24)):=⟨Arr.new w _ _,(Below.refl _ _).alloc (Nat.le_refl _) _⟩
 have HC:=Lib.hid (fun W (hb:Below w.heap.size w W)=>valid_code vs vm S M L W (hS.below hb) (hM.below hb))
 rw [hv] at HC
 clear hv
 obtain ⟨A,c,rfl,hc,hx⟩:=hS
 obtain ⟨A2,c2,rfl,hc2,hx2⟩:=hM
 clear hx hx2
 by_cases h1:md<1
 · go_enter Try.func7,Try.ntmps7
   go_upto_region 1 with fail
   generalize (w.alloc (.cells #[.slice A S.length c,.slice A2 M.length c2,.int .i64 L] 24))=w4 at hW ⊢
   obtain ⟨q0,hb4⟩:=hW
   have y0:=q0.cell 0
   have y1:=q0.cell 1
   have y2:=q0.cell 2
   go_wp2_with (go_at_call 11;refine (HC.out _ hb4).mono ?_;rintro e w5 ⟨rfl,hb5⟩)
   go_ret2
   exact ⟨rfl,hb4.trans (hb5.mono hb4.size)⟩
 · have h2:1000<md:=by omega
   have h1':¬ (md<1):=h1
   clear hr
   go_enter Try.func7,Try.ntmps7
   go_upto_region 1 with fail
   generalize (w.alloc (.cells #[.slice A S.length c,.slice A2 M.length c2,.int .i64 L] 24))=w4 at hW ⊢
   obtain ⟨q0,hb4⟩:=hW
   have y0:=q0.cell 0
   have y1:=q0.cell 1
   have y2:=q0.cell 2
   go_wp2_with (go_at_call 11;refine (HC.out _ hb4).mono ?_;rintro e w5 ⟨rfl,hb5⟩)
   go_ret2
   exact ⟨rfl,hb4.trans (hb5.mono hb4.size)⟩
set_option maxHeartbeats 1000000 in
theorem Count_full (vs vm:Value) (S M:List Int) (L:Int) (md:Nat) (w:World) (hS:Ints w vs S) (hM:Ints w vm M) (hv:valB S M L=true) (h1:1<=md) (h2:md<=1000) (hf:14<S.length\/4<L) :
 Calls Try.prog 7 #[.agg #[vs,vm,.int .i64 L],.int .i64 (md:Nat)] w fun e w'=>e=.returned (.tuple #[.int .i64 0,.int .i64 5])/\Below w.heap.size w w':=by
 have hW:Arr (w.alloc (.cells #[vs,vm,.int .i64 L] 24)) w.heap.size 24 [vs,vm,.int .i64 L]/\Below w.heap.size w (w.alloc (.cells #[vs,vm,.int .i64 L] 24)):=⟨Arr.new w _ _,(Below.refl _ _).alloc (Nat.le_refl _) _⟩
 have HC:=Lib.hid (fun W (hb:Below w.heap.size w W)=>valid_code vs vm S M L W (hS.below hb) (hM.below hb))
 have HI:=Lib.hid (fun W (hb:Below w.heap.size w W)=>Inv_full vs vm S M L W (hS.below hb) (hM.below hb) hv hf)
 rw [hv] at HC
 have z1:¬ ((md:Int)<1):=by omega
 have z2:¬ ((1000:Int)<(md:Int)):=by omega
 clear hv hf
 obtain ⟨A,c,rfl,hc,hx⟩:=hS
 obtain ⟨A2,c2,rfl,hc2,hx2⟩:=hM
 clear hx hx2
 go_enter Try.func7,Try.ntmps7
 go_upto_region 1 with fail
 generalize (w.alloc (.cells #[.slice A S.length c,.slice A2 M.length c2,.int .i64 L] 24))=w4 at hW ⊢
 obtain ⟨q0,hb4⟩:=hW
 have y0:=q0.cell 0
 have y1:=q0.cell 1
 have y2:=q0.cell 2
 go_upto_region 5 with (go_at_call 11;refine (HC.out _ hb4).mono ?_;rintro e w5 ⟨rfl,hb5⟩)
 have q5:=q0.below hb5 q0.lt
 have hb5':=hb4.trans (hb5.mono hb4.size)
 clear y0 y1 y2
 have y0:=q5.cell 0
 have y1:=q5.cell 1
 have y2:=q5.cell 2
 go_wp2_with (go_at_call 9;refine (HI.out _ hb5').mono ?_;rintro e w6 ⟨rfl,hb6⟩)
 go_ret2
 exact ⟨rfl,hb5'.trans (hb6.mono hb5'.size)⟩
def cntE (r:Option Nat) (e:Ending):Prop:=match r with
 | some a=>e=.returned (.tuple #[.int .i64 (a:Nat),.int .i64 0])
 | none=>e=.returned (.tuple #[.int .i64 0,.int .i64 9])
set_option maxHeartbeats 2000000 in
theorem Count_yes (vs vm:Value) (S M:List Int) (L:Int) (md:Nat) (w:World) (hS:Ints w vs S) (hM:Ints w vm M) (hv:valB S M L=true) (h1:1<=md) (h2:md<=1000) (hn:S.length<=14) (hL:L<=4) :
 Calls Try.prog 7 #[.agg #[vs,vm,.int .i64 L],.int .i64 (md:Nat)] w fun e w'=>cntE (cntP (invL S M L) md (colN M L)) e/\Below w.heap.size w w':=by
 have hW:Arr (w.alloc (.cells #[vs,vm,.int .i64 L] 24)) w.heap.size 24 [vs,vm,.int .i64 L]/\Below w.heap.size w (w.alloc (.cells #[vs,vm,.int .i64 L] 24)):=⟨Arr.new w _ _,(Below.refl _ _).alloc (Nat.le_refl _) _⟩
 have HC:=Lib.hid (fun W (hb:Below w.heap.size w W)=>valid_code vs vm S M L W (hS.below hb) (hM.below hb))
 have HI:=Lib.hid (fun W (hb:Below w.heap.size w W)=>Inv_yes vs vm S M L W (hS.below hb) (hM.below hb) hv hn hL)
 rw [hv] at HC
 have z1:¬ ((md:Int)<1):=by omega
 have z2:¬ ((1000:Int)<(md:Int)):=by omega
 have hcs:=colN_small (valB_ok hv) hn hL
 have HLE:=Lib.hid (invL_le S M L)
 have HIL:=Lib.hid (invL_length S M L)
 obtain ⟨I,hI⟩:∃ I,I=invL S M L:=⟨_,rfl⟩
 obtain ⟨K,hK⟩:∃ K,K=colN M L:=⟨_,rfl⟩
 rw [<- hI,<- hK] at HI HIL ⊢
 rw [<- hI] at HLE
 rw [<- hK] at hcs
 clear hv hI hK
 obtain ⟨A,c,rfl,hc,hx⟩:=hS
 obtain ⟨A2,c2,rfl,hc2,hx2⟩:=hM
 clear hx hx2
 go_enter Try.func7,Try.ntmps7
 go_upto_region 1 with fail
 generalize (w.alloc (.cells #[.slice A S.length c,.slice A2 M.length c2,.int .i64 L] 24))=w4 at hW ⊢
 obtain ⟨q0,hb4⟩:=hW
 have y0:=q0.cell 0
 have y1:=q0.cell 1
 have y2:=q0.cell 2
 go_upto_region 5 with (go_at_call 11;refine (HC.out _ hb4).mono ?_;rintro e w5 ⟨rfl,hb5⟩)
 have q5:=q0.below hb5 q0.lt
 have hb5':=hb4.trans (hb5.mono hb4.size)
 clear y0 y1 y2
 have y0:=q5.cell 0
 have y1:=q5.cell 1
 have y2:=q5.cell 2
 go_upto_region 8 with (go_at_call 9;refine (HI.out _ hb5').mono ?_;rintro e w6 ⟨g,rfl,hg,ha,hb6⟩)
 have hb6':=hb5'.trans (hb6.mono hb5'.size)
 clear y0 y1 y2 q0 q5 hb4 hb5 hb5' hb6
 go_wp2_with fail
 go_loopg [8,10,11,31] K (fun gk s8 s10 s11 s31 wr=>∃ x a n:Nat,x<=K/\gk=K-x/\s31=.int .i64 (x:Int)/\s8=.int .i64 (a:Int)/\Hid (cntP I md x=some a)/\wr=w6.drewN n)
 case atStart=>exact ⟨0,1,0,Nat.zero_le _,rfl,rfl,rfl,Lib.hid rfl,rfl⟩
 case round =>
  obtain ⟨x,a,n,hx,rfl,rfl,rfl,HP,rfl⟩:=hrel
  have hab:=cntP_bd h1 HP.out
  by_cases hxt:x<K
  · have z3:(x:Int)<(K:Int):=by omega
    have c1:(w6.drewN n).cell? ⟨g,x,none⟩=some (.int .i64 (gn I x:Nat)):=(ha.cell x).trans (nc_get (by rw [HIL.out];exact hxt))
    have hle:=HLE.out x
    have HG:=Lib.hid (fun W=>gcdI_any (gn I x) md W (by omega) (by omega))
    have HST:=Lib.hid (cntP_step HP.out)
    have hg0:0<Nat.gcd (gn I x) md:=Nat.gcd_pos_of_pos_right _ h1
    have hg1:Nat.gcd (gn I x) md<=1000:=Nat.le_trans (Nat.le_of_dvd h1 (Nat.gcd_dvd_right _ _)) h2
    have e1:(1125899906842624:Int)/(Nat.gcd (gn I x) md:Int)=((1125899906842624/Nat.gcd (gn I x) md:Nat):Int):=by simp
    generalize Nat.gcd (gn I x) md=gv at *
    generalize gn I x=vx at *
    have z4:((gv:Int)==0)=false:=by simp;omega
    have z5:(gv:Int)≠0:=by omega
    have hagb:a*gv<=1125899906842624*1000:=Nat.mul_le_mul hab.2 hg1
    have e2:(a:Int)*(gv:Int)=((a*gv:Nat):Int):=by simp
    generalize 1125899906842624/gv=qv at *
    obtain ⟨ag,hag⟩:∃ k,k=a*gv:=⟨_,rfl⟩
    rw [<- hag] at e2 hagb HST
    clear hag HP
    by_cases hbig:qv<a
    · have z6:(qv:Int)<(a:Int):=by omega
      rw [if_pos hbig] at HST
      have HN:=Lib.hid (cntP_none HST.out K (by omega))
      clear hbig
      go_wp2_with (go_at_call 19;(with_reducible refine (HG.out _).mono ?_);rintro e w' ⟨q,rfl,rfl⟩)
      go_ret2
      refine ⟨?_,bdrewN hb6' _⟩
      rw [HN.out];rfl
    · have z6:¬ ((qv:Int)<(a:Int)):=by omega
      rw [if_neg hbig] at HST
      clear hbig
      go_wp2_with (go_at_call 19;(with_reducible refine (HG.out _).mono ?_);rintro e w' ⟨q,rfl,rfl⟩)
      go_roundg (K-(x+1))
      case measure=>omega
      case rel=>exact ⟨x+1,ag,_,by omega,rfl,by go_num,rfl,HST,rfl⟩
  · have z3:¬ ((x:Int)<(K:Int)):=by omega
    have hxn:x=K:=by omega
    have HN:=Lib.hid (show cntP I md K=some a by rw [<- hxn];exact HP.out)
    clear hxn HP
    go_wp2_with fail
    go_ret2
    refine ⟨?_,bdrewN hb6' _⟩
    rw [HN.out];rfl
def tS:List Int:=[1,1,1]
def tM:List Int:=[9,4,7,10,1,8,11,2,5,0,3,6]
theorem tref_valid:valB tS tM 0=true:=by decide +kernel
theorem tref_cols:colN tM 0=3:=by decide +kernel
theorem tref_inv:invL tS tM 0=[1,3,0]:=by decide +kernel
theorem tref_three:cntP (invL tS tM 0) 3 (colN tM 0)=some 9:=by decide +kernel
theorem tref_five:cntP (invL tS tM 0) 5 (colN tM 0)=some 5:=by decide +kernel
theorem Ints.litA (w:World) (t:TypeId) (xs:List Int) (cs:Array Value) (k n:Nat) (hk:k=w.heap.size) (hn:n=xs.length) (hc:cs=rowOf (xs.map (Value.int .i64))):Ints (w.alloc (.cells cs t)) (.slice (some ⟨k,0,none⟩) n n) xs:=by
 subst hk hn hc
 exact Ints.of_arr (Arr.new w t (xs.map (Value.int .i64)))
set_option maxHeartbeats 1000000 in
theorem trefoil_any (w:World):Calls Try.prog 8 #[] w fun e w'=>∃ vs vm,e=.returned (.agg #[vs,vm,.int .i64 0])/\Ints w' vs tS/\Ints w' vm tM/\Below w.heap.size w w':=by
 go_enter Try.func8,Try.ntmps8
 go_wp2_with fail
 refine bodyPost_ret (v:=.agg (rowOf [.slice (some ⟨w.heap.size+1,0,none⟩) 3 3,.slice (some ⟨w.heap.size+1+1,0,none⟩) 12 12,.int .i64 0])) ?_ rfl ?_
 · refine results_c (fn:=Try.f8) (by rfl) _ _ w.heap.size 24 [.slice (some ⟨w.heap.size+1,0,none⟩) 3 3,.slice (some ⟨w.heap.size+1+1,0,none⟩) 12 12,.int .i64 0] _ (by rfl) ?_ Try.underlying24 (by rfl) (by kernel_rfl)
   exact ((Arr.new w 24 [_,_,_]).alloc _).alloc _
 · refine ⟨_,_,rfl,?_,?_,?_⟩
   · exact (Ints.litA (w.alloc _) 3 tS _ _ _ (by simp) rfl rfl).alloc _
   · exact Ints.litA ((w.alloc _).alloc _) 3 tM _ _ _ (by simp) rfl rfl
   · exact (((Below.refl _ _).alloc (Nat.le_refl _) _).alloc (by simp) _).alloc (by simp <;> omega) _
theorem tref_list:nc (invL tS tM 0)=[.int .i64 1,.int .i64 3,.int .i64 0]:=by rw [tref_inv];rfl
set_option maxHeartbeats 2000000 in
theorem awake_any (w:World):Calls Try.prog 4 #[] w fun e w'=>e=.returned (.bool true)/\Below w.heap.size w w':=by
 have HT:=Lib.hid trefoil_any
 have HC3:=Lib.hid (fun vs vm W (h1:Ints W vs tS) (h2:Ints W vm tM)=>Count_yes vs vm tS tM 0 3 W h1 h2 tref_valid (by omega) (by omega) (by decide) (by decide))
 have HC5:=Lib.hid (fun vs vm W (h1:Ints W vs tS) (h2:Ints W vm tM)=>Count_yes vs vm tS tM 0 5 W h1 h2 tref_valid (by omega) (by omega) (by decide) (by decide))
 have HI:=Lib.hid (fun vs vm W (h1:Ints W vs tS) (h2:Ints W vm tM)=>Inv_yes vs vm tS tM 0 W h1 h2 tref_valid (by decide) (by decide))
 rw [tref_three] at HC3
 rw [tref_five] at HC5
 rw [tref_cols,tref_list] at HI
 go_enter Try.func4,Try.ntmps4
 go_wp2_with fail
 refine (HT.out _).mono ?_
 rintro e w1 ⟨vs,vm,rfl,i1,i2,hb1⟩
 go_wp2_with fail
 refine (HC3.out vs vm w1 i1 i2).mono ?_
 rintro e w2 ⟨he,hb2⟩
 have he':e=.returned (.tuple #[.int .i64 9,.int .i64 0]):=he
 subst he'
 clear he i1 i2
 have hb2':=hb1.trans (hb2.mono hb1.size)
 clear hb1 hb2
 go_wp2_with fail
 refine (HT.out _).mono ?_
 rintro e w3 ⟨vs3,vm3,rfl,i1,i2,hb3⟩
 have hb3':=hb2'.trans (hb3.mono hb2'.size)
 clear hb2' hb3
 go_wp2_with fail
 refine (HC5.out vs3 vm3 w3 i1 i2).mono ?_
 rintro e w4 ⟨he,hb4⟩
 have he':e=.returned (.tuple #[.int .i64 5,.int .i64 0]):=he
 subst he'
 clear he i1 i2
 have hb4':=hb3'.trans (hb4.mono hb3'.size)
 clear hb3' hb4
 go_wp2_with fail
 refine (HT.out _).mono ?_
 rintro e w5 ⟨vs5,vm5,rfl,i1,i2,hb5⟩
 have hb5':=hb4'.trans (hb5.mono hb4'.size)
 clear hb4' hb5
 go_wp2_with fail
 refine (HI.out vs5 vm5 w5 i1 i2).mono ?_
 rintro e w6 ⟨g,rfl,hg,ha,hb6⟩
 have hb6':=hb5'.trans (hb6.mono hb5'.size)
 clear hb5' hb6 i1 i2
 go_wp2_with fail
 refine (Try.slices_Equal_int g 0 3 3 w6.heap.size 0 3 3 [1,3,0] [1,3,0] _ (by simp) (by simp) (by omega) (by omega) ?_ ?_).mono ?_
 · intro j hj
   have:=(ha.alloc (.cells #[.int .i64 1,.int .i64 3,.int .i64 0] 3)).cell j
   rw [Nat.zero_add,this]
   match j,hj with
   | 0,_=>rfl
   | 1,_=>rfl
   | 2,_=>rfl
 · intro j hj
   have:=(Arr.new w6 3 [.int .i64 1,.int .i64 3,.int .i64 0]).cell j
   rw [Nat.zero_add]
   refine this.trans ?_
   match j,hj with
   | 0,_=>rfl
   | 1,_=>rfl
   | 2,_=>rfl
 rintro e w7 ⟨rfl,q,rfl⟩
 go_wp2_with fail
 go_ret
 refine ⟨rfl,?_⟩
 exact bdrewN (hb6'.alloc hb6'.size _) _
end Go.Proofs.Ytfnmeigpfmeomaa
namespace Go.Proofs.Ytfnmeigpfmeomaa
set_option linter.unusedVariables false
theorem rs_mod {m:Nat} (hm:0<m) (x:Int):(m:Int) ∣ (rs m x:Int)-x:=by
 unfold rs
 split
 · next h =>
   have:=mod_sub_dvd m 0 x.natAbs hm
   rwa [show ((0:Nat):Int)-(x.natAbs:Int)=x by omega] at this
 · next h =>
   have h1:=Nat.div_add_mod x.natAbs m
   refine ⟨-((x.natAbs/m:Nat):Int),?_⟩
   have h2:((m*(x.natAbs/m)+x.natAbs%m:Nat):Int)=(x.natAbs:Int):=by rw [h1]
   rw [Int.natCast_add,Int.natCast_mul] at h2
   rw [Int.mul_neg]
   omega
theorem ge_resF {m:Nat} {rows:List (List Int)} {i j:Nat} (hi:i<rows.length) (hj:j<rows[i].length):ge (resF m rows) i j=rs m (gi rows[i] j):=by
 unfold ge gr resF
 rw [List.getElem?_map,List.getElem?_eq_getElem hi]
 simp only [Option.map_some,Option.getD_some]
 unfold gn resR gi
 rw [List.getElem?_map,List.getElem?_eq_getElem hj];rfl
section
variable {S M:List Int} {L:Int}
theorem gn_invL {j:Nat} (h:j<colN M L):gn (invL S M L) j=gn (facL S M L) j:=by unfold invL;rw [gn_map_range,if_pos h]
end
def vec (e C t:Nat):List Nat:=(List.range C).map (dg e t)
theorem gn_vec {e C t j:Nat} (h:j<C):gn (vec e C t) j=dg e t j:=by unfold vec;rw [gn_map_range,if_pos h]
def crB (m:Nat) (a b d:Nat):Bool :=
 let x:Int:=(a:Int)-(b:Int)
 let y:Int:=(a:Int)-(d:Int)
 decide (x=0-y) || (decide (0<y) && decide (x=(m:Int)-y)) || (decide (y<0) && decide (x=0-(m:Int)-y))
theorem crB_iff {m a b d:Nat} (ha:a<m) (hb:b<m) (hd:d<m):crB m a b d=true ↔ (m:Int) ∣ 2*(a:Int)-(b:Int)-(d:Int):=by
 unfold crB
 simp only [Bool.or_eq_true,Bool.and_eq_true,decide_eq_true_eq]
 constructor
 · rintro ((h|⟨_,h⟩)|⟨_,h⟩)
   · exact ⟨0,by omega⟩
   · exact ⟨1,by omega⟩
   · exact ⟨-1,by omega⟩
 · rintro ⟨q,hq⟩
   have h1:-2<q:=by
    rcases Int.lt_or_le (-2) q with z|z
    · exact z
    · have:(m:Int)*q<=(m:Int)*(-2):=Int.mul_le_mul_of_nonneg_left z (by omega)
      omega
   have h2:q<2:=by
    rcases Int.lt_or_le q 2 with z|z
    · exact z
    · have:(m:Int)*2<=(m:Int)*q:=Int.mul_le_mul_of_nonneg_left z (by omega)
      omega
   have h3:q = -1\/q=0\/q=1:=by omega
   rcases h3 with rfl|rfl|rfl
   · right;constructor <;> omega
   · left;left;omega
   · left;right;constructor <;> omega
def colB (arc:List Nat) (n m:Nat) (x:List Nat):Bool:=(List.range n).all fun c=>crB m (gn x (gn arc (4*c+1))) (gn x (gn arc (4*c))) (gn x (gn arc (4*c+2)))
theorem dotI {C i:Nat} {r:List Int} {d:Int} {y:Nat->Int} (hr:r.length=C) (hi:i<C):sumI C (fun j=>gi (addI r i d) j*y j)=sumI C (fun j=>gi r j*y j)+d*y i:=by
 have h:=sumI_one (f:=fun j=>gi (addI r i d) j*y j) (g:=fun j=>gi r j*y j) hi (fun l _ hne=>by
  show gi (addI r i d) l*y l=gi r l*y l
  unfold addI;rw [gi_set _ _ _ _ (by omega),if_neg hne])
 rw [h]
 unfold addI
 rw [gi_set _ _ _ _ (by omega),if_pos rfl,Int.add_mul];omega
theorem dot_rowM {arc:List Nat} {cols c:Nat} (y:Nat->Int) (h0:gn arc (4*c)<cols) (h1:gn arc (4*c+1)<cols) (h2:gn arc (4*c+2)<cols) :
 sumI cols (fun j=>gi (rowM arc cols c) j*y j)=2*y (gn arc (4*c+1))-y (gn arc (4*c))-y (gn arc (4*c+2)):=by
 unfold rowM
 rw [dotI (by simp [addI_length]) h2,dotI (by simp [addI_length]) h0,dotI (by simp) h1]
 have:sumI cols (fun j=>gi (List.replicate cols 0) j*y j)=0:=by
  rw [sumI_congr (g:=fun _=>0) (fun l _=>by rw [gi_zeros cols l,Int.zero_mul])];exact sumI_zero
 rw [this];omega
theorem matZ_rows {S M:List Int} {L:Int} {c:Nat} (h:c<S.length) (j:Nat):matZ (rowsOf S M L) c j=gi (rowM (arcL M) (colN M L) c) j:=by
 rw [matZ_get (by rw [rowsOf_length];exact h)]
 unfold rowsOf
 congr 1
 simp [matM]
theorem colB_sol {S M:List Int} {L:Int} (k:Ok S M L) {m:Nat} {x:Nat->Nat} {l:List Nat} (hm:0<m) (hx:∀ j,j<colN M L->x j<m) (hl:∀ j,j<colN M L->gn l j=x j):colB (arcL M) S.length m l=solB S.length (colN M L) (matZ (rowsOf S M L)) m x:=by
 have hmm:=k.m
 rw [Bool.eq_iff_iff,solB_true]
 unfold colB
 rw [List.all_eq_true]
 have key:∀ c,c<S.length->(crB m (gn l (gn (arcL M) (4*c+1))) (gn l (gn (arcL M) (4*c))) (gn l (gn (arcL M) (4*c+2)))=true ↔ (m:Int) ∣ sumI (colN M L) (fun j=>matZ (rowsOf S M L) c j*(x j:Int))):=by
  intro c hc
  have h0:gn (arcL M) (4*c)<colN M L:=arc_lt k (by omega)
  have h1:gn (arcL M) (4*c+1)<colN M L:=arc_lt k (by omega)
  have h2:gn (arcL M) (4*c+2)<colN M L:=arc_lt k (by omega)
  rw [sumI_congr (g:=fun j=>gi (rowM (arcL M) (colN M L) c) j*(x j:Int)) (fun j _=>by rw [matZ_rows hc]),dot_rowM (fun j=>(x j:Int)) h0 h1 h2,hl _ h0,hl _ h1,hl _ h2]
  exact crB_iff (hx _ h1) (hx _ h0) (hx _ h2)
 constructor
 · intro h i hi
   exact (key i hi).1 (h i (List.mem_range.2 hi))
 · intro h c hc
   exact (key c (List.mem_range.1 hc)).2 (h c (List.mem_range.1 hc))
def nCol (S M:List Int) (L:Int) (m t:Nat):Nat:=cN t (fun s=>colB (arcL M) S.length m (vec m (colN M L) s))
theorem nCol_sol {S M:List Int} {L:Int} (k:Ok S M L) {m:Nat} (hm:0<m):nCol S M L m (m ^ colN M L)=nSol S.length (colN M L) (matZ (rowsOf S M L)) m:=by
 unfold nCol nSol cntV
 rw [cN_filter]
 exact cN_congr (fun t _=>colB_sol k hm (fun j _=>dg_lt hm t j) (fun j hj=>gn_vec hj))
end Go.Proofs.Ytfnmeigpfmeomaa
namespace Go.Proofs.Ytfnmeigpfmeomaa
open Go.RowKit
set_option linter.unusedVariables false
def zs (l:List Nat):List Int:=l.map fun (k:Nat)=>(k:Int)
theorem zs_length (l:List Nat):(zs l).length=l.length:=by simp [zs]
theorem nc_zs (l:List Nat):(zs l).map (Value.int .i64)=nc l:=by unfold zs nc;rw [List.map_map];rfl
theorem OwnI.arr {e:TypeId} {base:Nat} {w:World} {v:Value} {xs:List Nat} (h:OwnI e base w v (zs xs)) (hne:0<xs.length):∃ g c Y,v=.slice (some ⟨g,0,none⟩) xs.length c/\base<=g/\xs.length<=c/\Arr w g e (nc xs ++ Y):=by
 rcases h.2 with ⟨_,h0⟩|⟨g,cap,cur,rfl,hg,hh,hn,_,hc,ht⟩
 · rw [zs_length] at h0;omega
 · rw [zs_length,nc_zs,Nat.mul_one] at ht
   rw [zs_length] at hn
   refine ⟨g,cap,cur.toList.drop xs.length,by rw [zs_length],hg,hn,?_⟩
   unfold Arr rowOf
   rw [<- ht,List.take_append_drop,hh]
end Go.Proofs.Ytfnmeigpfmeomaa
namespace Go.Proofs.Ytfnmeigpfmeomaa
set_option linter.unusedVariables false
theorem nSol_mod {n C e:Nat} {M M':Nat->Nat->Int} (h:∀ i j,i<n->j<C->(e:Int) ∣ M i j-M' i j):nSol n C M e=nSol n C M' e:=by
 refine cntV_congr (fun x=>?_)
 rw [Bool.eq_iff_iff,solB_true,solB_true]
 have hd:∀ i,i<n->(e:Int) ∣ sumI C (fun j=>M i j*(x j:Int))-sumI C (fun j=>M' i j*(x j:Int)):=fun i hi=>sumI_mod (fun l hl=>by
  show (e:Int) ∣ M i l*(x l:Int)-M' i l*(x l:Int)
  rw [<- Int.sub_mul]
  exact Int.dvd_trans (h i l hi hl) (Int.dvd_mul_right _ _))
 constructor
 · intro q i hi
   have:=Int.dvd_sub (q i hi) (hd i hi)
   rwa [show ∀ a b:Int,a-(a-b)=b from fun a b=>by omega] at this
 · intro q i hi
   have:=Int.dvd_add (hd i hi) (q i hi)
   rwa [Int.sub_add_cancel] at this
theorem nSol_rows {n C e:Nat} {M M':Nat->Nat->Int} (f g:Nat->Nat) (hf:∀ i,i<n->f i<n) (hg:∀ i,i<n->g i<n) (h1:∀ i j,i<n->j<C->M' i j=M (f i) j) (h2:∀ i j,i<n->j<C->M i j=M' (g i) j):nSol n C M' e=nSol n C M e:=by
 refine cntV_congr (fun x=>?_)
 rw [Bool.eq_iff_iff,solB_true,solB_true]
 constructor
 · intro q i hi
   have:=q (g i) (hg i hi)
   rwa [sumI_congr (g:=fun j=>M i j*(x j:Int)) (fun j hj=>by rw [h2 i j hi hj])] at this
 · intro q i hi
   have:=q (f i) (hf i hi)
   rwa [sumI_congr (g:=fun j=>M' i j*(x j:Int)) (fun j hj=>by rw [h1 i j hi hj])] at this
theorem nSol_swap_le {n C e:Nat} {M M':Nat->Nat->Int} (he:0<e) {a b:Nat} (ha:a<C) (hb:b<C) (hab:a≠b)
 (hg:∀ i j,i<n->j<C->M' i j=M i (if j=b then a else if j=a then b else j)):nSol n C M e<=nSol n C M' e:=by
 refine cntV_le he (solB_loc n C M' e) (fun x j=>x (if j=b then a else if j=a then b else j)) (fun x hx hs=>⟨?_,fun j hj=>?_⟩) (fun x y hx hy h j hj=>?_)
 · rw [solB_true] at hs ⊢
   intro i hi
   have e1:=sumI_two (f:=fun j=>M' i j*((x (if j=b then a else if j=a then b else j):Nat):Int)) (g:=fun j=>M i j*(x j:Int)) ha hb hab (fun l h1 h2 h3=>by
    show M' i l*_=_
    rw [hg i l hi h1,if_neg h3,if_neg h2])
   simp only [hg i a hi ha,hg i b hi hb,if_neg hab,if_pos] at e1
   rw [e1,show sumI C (fun j=>M i j*(x j:Int))+(M i b*(x b:Int)-M i a*(x a:Int))+(M i a*(x a:Int)-M i b*(x b:Int))=sumI C (fun j=>M i j*(x j:Int)) by omega]
   exact hs i hi
 · show x _<e
   apply hx
   split
   · exact ha
   · split
     · exact hb
     · exact hj
 · have h1:=h (if j=b then a else if j=a then b else j) (by
    split
    · exact ha
    · split
      · exact hb
      · exact hj)
   have e1:(if (if j=b then a else if j=a then b else j)=b then a else if (if j=b then a else if j=a then b else j)=a then b else (if j=b then a else if j=a then b else j))=j:=by
    by_cases q1:j=b
    · simp [q1,hab]
    · by_cases q2:j=a
      · simp [q2,hab]
      · simp [q1,q2]
   simp only [e1] at h1
   exact h1
theorem nSol_swap {n C e:Nat} {M M':Nat->Nat->Int} (he:0<e) {a b:Nat} (ha:a<C) (hb:b<C) (hab:a≠b)
 (hg:∀ i j,i<n->j<C->M' i j=M i (if j=b then a else if j=a then b else j)):nSol n C M' e=nSol n C M e:=by
 apply Nat.le_antisymm _ (nSol_swap_le he ha hb hab hg)
 refine nSol_swap_le he ha hb hab (fun i j hi hj=>?_)
 rw [hg i _ hi (by
  split
  · exact ha
  · split
    · exact hb
    · exact hj)]
 by_cases q1:j=b
 · simp [q1,hab]
 · by_cases q2:j=a
   · simp [q2,hab]
   · simp [q1,q2]
def gZ (A:List (List Nat)) (i j:Nat):Int:=(ge A i j:Int)
structure Ns (m C k:Nat) (x0:Nat->Nat) (e N:Nat) (A:List (List Nat)):Prop where
 blk:∀ i j,i<A.length->j<C->(i<k\/j<k)->i≠j->ge A i j=0
 num:nSol A.length C (gZ A) e=N
 dia:∀ i,i<k->ge A i i=x0 i
 ep:0<e
 em:e ∣ m
 kl:k<=A.length
section
variable {m C k e N:Nat} {x0:Nat->Nat} {A:List (List Nat)}
theorem Ns.swR (h:Ns m C k x0 e N A) {a b:Nat} (ha:a<A.length) (hb:b<A.length) (hka:k<=a) (hkb:k<=b):Ns m C k x0 e N (swR A a b):=by
 have hg:∀ i j,ge (Go.Proofs.Ytfnmeigpfmeomaa.swR A a b) i j=if i=b then ge A a j else if i=a then ge A b j else ge A i j:=by
  intro i j
  unfold ge
  rw [gr_swR ha hb]
  split
  · rfl
  · split <;> rfl
 refine ⟨fun i j hi hj hor hne=>?_,?_,fun i hi=>?_,h.ep,h.em,by rw [swR_length];exact h.kl⟩
 · rw [swR_length] at hi
   rw [hg]
   split
   · next e=>exact h.blk a j ha hj (by omega) (by omega)
   · split
     · exact h.blk b j hb hj (by omega) (by omega)
     · exact h.blk i j hi hj hor hne
 · rw [swR_length,<- h.num]
   have hlt:∀ i,i<A.length->(if i=b then a else if i=a then b else i)<A.length:=by
    intro i hi
    split
    · exact ha
    · split
      · exact hb
      · exact hi
   refine nSol_rows (fun i=>if i=b then a else if i=a then b else i) (fun i=>if i=b then a else if i=a then b else i) hlt hlt (fun i j hi hj=>?_) (fun i j hi hj=>?_)
   · unfold gZ;rw [hg]
     split
     · rfl
     · split <;> rfl
   · unfold gZ;rw [hg]
     by_cases q1:i=b
     · by_cases q3:a=b
       · simp [q1,q3]
       · simp [q1,q3]
     · by_cases q2:i=a
       · simp [q2]
       · simp [q1,q2]
 · rw [hg,if_neg (by omega),if_neg (by omega)];exact h.dia i hi
theorem Ns.swap {B:List (List Nat)} (h:Ns m C k x0 e N A) (hl:B.length=A.length) {a b:Nat} (ha:a<C) (hb:b<C) (hka:k<=a) (hkb:k<=b) (hab:a≠b)
 (hg:∀ i j,i<A.length->j<C->ge B i j=ge A i (if j=b then a else if j=a then b else j)):Ns m C k x0 e N B:=by
 refine ⟨fun i j hi hj hor hne=>?_,?_,fun i hi=>?_,h.ep,h.em,by rw [hl];exact h.kl⟩
 · rw [hl] at hi
   rw [hg i j hi hj]
   split
   · next e=>exact h.blk i a hi ha (by omega) (by omega)
   · split
     · exact h.blk i b hi hb (by omega) (by omega)
     · exact h.blk i j hi hj hor hne
 · rw [hl,<- h.num]
   exact nSol_swap h.ep ha hb hab (fun i j hi hj=>by unfold gZ;rw [hg i j hi hj])
 · rw [hg i i (by have:=h.kl;omega) (by omega),if_neg (by omega),if_neg (by omega)];exact h.dia i hi
theorem Ns.col {B:List (List Nat)} (h:Ns m C k x0 e N A) (hl:B.length=A.length) {j:Nat} {b:Int} (hj:j<C) (hkC:k<C) (hkj:k<j)
 (hg:∀ i l,i<A.length->l<C->l≠j->ge B i l=ge A i l) (hm:∀ i,i<A.length->(m:Int) ∣ (ge B i j:Int)-((ge A i j:Int)-b*(ge A i k:Int))) (hz:∀ i,i<k->i<A.length->ge B i j=0):Ns m C k x0 e N B:=by
 have hem':(e:Int) ∣ (m:Int):=Int.natCast_dvd_natCast.2 h.em
 refine ⟨fun i l hi hl' hor hne=>?_,?_,fun i hi=>?_,h.ep,h.em,by rw [hl];exact h.kl⟩
 · rw [hl] at hi
   by_cases q:l=j
   · subst q
     exact hz i (by omega) hi
   · rw [hg i l hi hl' q];exact h.blk i l hi hl' hor hne
 · rw [hl,<- h.num,<- nSol_col (M:=gZ A) (a:=j) (b:=k) h.ep (-b) hj hkC (by omega)]
   refine nSol_mod (fun i l hi hl'=>?_)
   unfold cAdd gZ
   by_cases q:l=j
   · subst q
     rw [if_pos rfl,Int.neg_mul,<- Int.sub_eq_add_neg]
     exact Int.dvd_trans hem' (hm i hi)
   · rw [if_neg q,hg i l hi hl' q,Int.sub_self];exact Int.dvd_zero _
 · rw [hg i i (by have:=h.kl;omega) (by omega) (by omega)];exact h.dia i hi
theorem Ns.row {B:List (List Nat)} (h:Ns m C k x0 e N A) (hl:B.length=A.length) {i:Nat} {b:Int} (hi:i<A.length) (hki:k<i)
 (hg:∀ r l,r<A.length->r≠i->ge B r l=ge A r l) (hm:∀ l,l<C->(m:Int) ∣ (ge B i l:Int)-((ge A i l:Int)-b*(ge A k l:Int))) (hz:∀ l,l<k->l<C->ge B i l=0):Ns m C k x0 e N B:=by
 have hem':(e:Int) ∣ (m:Int):=Int.natCast_dvd_natCast.2 h.em
 refine ⟨fun r l hr hl' hor hne=>?_,?_,fun r hr=>?_,h.ep,h.em,by rw [hl];exact h.kl⟩
 · rw [hl] at hr
   by_cases q:r=i
   · subst q;exact hz l (by omega) hl'
   · rw [hg r l hr q];exact h.blk r l hr hl' hor hne
 · rw [hl,<- h.num,<- nSol_row (M:=gZ A) (a:=i) (b:=k) (-b) hi (by omega) (by omega)]
   refine nSol_mod (fun r l hr hl'=>?_)
   unfold rAdd gZ
   by_cases q:r=i
   · subst q
     rw [if_pos rfl,Int.neg_mul,<- Int.sub_eq_add_neg]
     exact Int.dvd_trans hem' (hm l hl')
   · rw [if_neg q,hg r l hr q,Int.sub_self];exact Int.dvd_zero _
 · rw [hg r r (by have:=h.kl;omega) (by omega)];exact h.dia r hr
end
section
variable {m C k e N:Nat} {x0:Nat->Nat} {A:List (List Nat)}
theorem Ns.elS (h:Ns m C k x0 e N A) (hc:Cl C A) {x y:Nat} (hk:k<A.length) (hkC:k<C) (hx:x<A.length) (hy:y<C) (hkx:k<=x) (hky:k<=y):Ns m C k x0 e N (elS A k x y):=by
 have h1:=h.swR hx hk hkx (Nat.le_refl k)
 have hc1:=hc.swR hx hk
 unfold Go.Proofs.Ytfnmeigpfmeomaa.elS
 by_cases e:y=k
 · rw [e,swC_self];exact h1
 · refine h1.swap (swC_length _ _ _) hy hkC hky (Nat.le_refl k) e (fun i j hi hj=>?_)
   have hl:=hc1 i hi
   unfold ge
   rw [gr_swC hi,gn_swp (by rw [hl];exact hy) (by rw [hl];exact hkC)]
   split
   · rfl
   · split <;> rfl
theorem Ns.rowPre (h:Ns m C k x0 e N A) (hw:Wk m k C A) {i:Nat} (hi:i<A.length) (hki:k<i):Ns m C k x0 e N (rowPre k i A):=by
 unfold Go.Proofs.Ytfnmeigpfmeomaa.rowPre
 split
 · exact h.swR hw.kn hi (Nat.le_refl _) (by omega)
 · exact h
theorem Ns.rowStep (h:Ns m C k x0 e N A) (hw:Wk m k C A) {i:Nat} (hi:i<A.length) (hki:k<i):Ns m C k x0 e N (rowStep m k i A):=by
 have h1:=h.rowPre hw hi hki
 have hc:=hw.cl.rowPre hi hw.kn (k:=k) (i:=i)
 have hl:(gr (Go.Proofs.Ytfnmeigpfmeomaa.rowPre k i A) i).length=C:=hc i (by rw [rowPre_length];exact hi)
 have hge:∀ l,l<C->ge (Go.Proofs.Ytfnmeigpfmeomaa.rowStep m k i A) i l=if k<=l then (ge (Go.Proofs.Ytfnmeigpfmeomaa.rowPre k i A) i l+(m-ge (Go.Proofs.Ytfnmeigpfmeomaa.rowPre k i A) i k/ge (Go.Proofs.Ytfnmeigpfmeomaa.rowPre k i A) k k*ge (Go.Proofs.Ytfnmeigpfmeomaa.rowPre k i A) k l%m))%m else ge (Go.Proofs.Ytfnmeigpfmeomaa.rowPre k i A) i l:=by
  intro l hl'
  show gn (gr (Go.Proofs.Ytfnmeigpfmeomaa.rowStep m k i A) i) l=_
  rw [gr_rowStep hi,if_pos rfl,gn_cmb (by rw [hl];exact hl')]
  by_cases q:k<=l
  · rw [if_pos q,if_pos ⟨q,by rw [hl];exact hl'⟩];rfl
  · rw [if_neg q,if_neg (fun z=>q z.1)];rfl
 have hh:=h1
 have hi':i<(Go.Proofs.Ytfnmeigpfmeomaa.rowPre k i A).length:=by rw [rowPre_length];exact hi
 have hk':k<(Go.Proofs.Ytfnmeigpfmeomaa.rowPre k i A).length:=by rw [rowPre_length];exact hw.kn
 refine Ns.row (b:=((ge (Go.Proofs.Ytfnmeigpfmeomaa.rowPre k i A) i k/ge (Go.Proofs.Ytfnmeigpfmeomaa.rowPre k i A) k k:Nat):Int)) hh (by rw [rowStep_length,rowPre_length]) hi' hki (fun r l hr hne=>?_) (fun l hl'=>?_) (fun l hlk hl'=>?_)
 · unfold ge;rw [gr_rowStep hi,if_neg hne]
 · rw [hge l hl']
   by_cases q:k<=l
   · rw [if_pos q,<- Int.natCast_mul]
     exact mod_sub_dvd m _ _ hw.m0
   · rw [if_neg q,hh.blk i l hi' hl' (by omega) (by omega),hh.blk k l hk' hl' (by omega) (by omega)]
     simp
 · rw [hge l hl',if_neg (by omega)]
   exact hh.blk i l hi' hl' (by omega) (by omega)
theorem Ns.colPre (h:Ns m C k x0 e N A) (hw:Wk m k C A) {j:Nat} (hj:j<C) (hkj:k<j):Ns m C k x0 e N (colPre k j A):=by
 unfold Go.Proofs.Ytfnmeigpfmeomaa.colPre
 split
 · have hh:=h
   refine Ns.swap (a:=k) (b:=j) hh (updR_length _ _ _ _) hw.kC hj (Nat.le_refl k) (by omega) (by omega) (fun i l hi hl'=>?_)
   have hl:=hw.cl i hi
   show gn (gr _ i) l=_
   rw [gr_updR hi]
   by_cases q:k<=i
   · rw [if_pos ⟨q,hi⟩,gn_swp (by rw [hl];exact hw.kC) (by rw [hl];exact hj)]
     split
     · rfl
     · split <;> rfl
   · rw [if_neg (fun z=>q z.1)]
     have z1:=hh.blk i k hi hw.kC (by omega) (by omega)
     have z2:=hh.blk i j hi hj (by omega) (by omega)
     split
     · next e=>rw [e];exact z2.trans z1.symm
     · split
       · next e=>rw [e];exact z1.trans z2.symm
       · rfl
 · exact h
theorem Ns.colStep (h:Ns m C k x0 e N A) (hw:Wk m k C A) {j:Nat} (hj:j<C) (hkj:k<j):Ns m C k x0 e N (colStep m k j A):=by
 have h1:=h.colPre hw hj hkj
 have hp:=hw.colPre hj
 have hh:=h1
 have hlen:∀ i,i<A.length->(gr (Go.Proofs.Ytfnmeigpfmeomaa.colPre k j A) i).length=C:=fun i hi=>hp.cl i (by rw [colPre_length];exact hi)
 refine Ns.col (b:=((ge (Go.Proofs.Ytfnmeigpfmeomaa.colPre k j A) k j/ge (Go.Proofs.Ytfnmeigpfmeomaa.colPre k j A) k k:Nat):Int)) hh (by rw [colStep_length,colPre_length]) hj hw.kC hkj (fun i l hi hl' hne=>?_) (fun i hi=>?_) (fun i hik hi=>?_)
 · rw [colPre_length] at hi
   unfold ge
   rw [gr_colStep hi]
   split
   · rw [gn_colF (by rw [hlen i hi];exact hj),if_neg hne]
   · rfl
 · have hi':=hi
   rw [colPre_length] at hi
   by_cases q:k<=i
   · have e:ge (Go.Proofs.Ytfnmeigpfmeomaa.colStep m k j A) i j=(ge (Go.Proofs.Ytfnmeigpfmeomaa.colPre k j A) i j+(m-ge (Go.Proofs.Ytfnmeigpfmeomaa.colPre k j A) k j/ge (Go.Proofs.Ytfnmeigpfmeomaa.colPre k j A) k k*ge (Go.Proofs.Ytfnmeigpfmeomaa.colPre k j A) i k%m))%m:=by
      show gn (gr _ i) j=_
      rw [gr_colStep hi,if_pos q,gn_colF (by rw [hlen i hi];exact hj),if_pos rfl];rfl
     rw [e,<- Int.natCast_mul]
     exact mod_sub_dvd m _ _ hw.m0
   · have e:ge (Go.Proofs.Ytfnmeigpfmeomaa.colStep m k j A) i j=ge (Go.Proofs.Ytfnmeigpfmeomaa.colPre k j A) i j:=by
      show gn (gr _ i) j=_
      rw [gr_colStep hi,if_neg q];rfl
     rw [e,hh.blk i j hi' hj (by omega) (by omega),hh.blk i k hi' hw.kC (by omega) (by omega)]
     simp
 · have hi':=hi
   rw [colPre_length] at hi
   show gn (gr _ i) j=0
   rw [gr_colStep hi,if_neg (by omega)]
   exact hh.blk i j hi' hj (by omega) (by omega)
end
theorem Ns.rowWhile {m C k i e N:Nat} {x0:Nat->Nat} (hki:k<i):∀ (f:Nat) (A:List (List Nat)),Ns m C k x0 e N A->Wk m k C A->i<A.length->Ns m C k x0 e N (rowWhile m k i f A)
 | 0,A,h,_,_=>h
 | f+1,A,h,hw,hi=>by
  rw [Go.Proofs.Ytfnmeigpfmeomaa.rowWhile];split
  · exact h
  · exact Ns.rowWhile hki f _ (h.rowStep hw hi hki) (hw.rowStep hi (by omega)) (by rw [rowStep_length];exact hi)
theorem Ns.rowsU {m C k e N:Nat} {x0:Nat->Nat} {A:List (List Nat)} (h:Ns m C k x0 e N A) (hw:Wk m k C A):∀ x,k+1+x<=A.length->Ns m C k x0 e N (rowsU m k A x)
 | 0,_=>h
 | x+1,hx=>by
  rw [Go.Proofs.Ytfnmeigpfmeomaa.rowsU]
  exact Ns.rowWhile (by omega) _ _ (Ns.rowsU h hw x (by omega)) (rowsU_all hw x (by omega)).1 (by rw [rowsU_length];omega)
theorem Ns.colWhile {m C k j e N:Nat} {x0:Nat->Nat} (hj:j<C) (hkj:k<j):∀ (f:Nat) (A:List (List Nat)),Ns m C k x0 e N A->Wk m k C A->Ns m C k x0 e N (colWhile m k j f A)
 | 0,A,h,_=>h
 | f+1,A,h,hw=>by
  rw [Go.Proofs.Ytfnmeigpfmeomaa.colWhile];split
  · exact h
  · exact Ns.colWhile hj hkj f _ (h.colStep hw hj hkj) (hw.colStep hj (by omega))
theorem Ns.colsU {m C k e N:Nat} {x0:Nat->Nat} {A:List (List Nat)} (h:Ns m C k x0 e N A) (hw:Wk m k C A):∀ y,k+1+y<=C->Ns m C k x0 e N (colsU m k A y)
 | 0,_=>h
 | y+1,hy=>by
  rw [Go.Proofs.Ytfnmeigpfmeomaa.colsU]
  exact Ns.colWhile (by omega) (by omega) _ _ (Ns.colsU h hw y (by omega)) (colsU_all hw y (by omega)).1
theorem Ns.rowsAll {m C k e N:Nat} {x0:Nat->Nat} {A:List (List Nat)} (h:Ns m C k x0 e N A) (hw:Wk m k C A):Ns m C k x0 e N (rowsAll m k A):=h.rowsU hw _ (by have:=hw.kn;omega)
theorem Ns.colsAll {m C k e N:Nat} {x0:Nat->Nat} {A:List (List Nat)} (h:Ns m C k x0 e N A) (hw:Wk m k C A):Ns m C k x0 e N (colsAll m k C A):=h.colsU hw _ (by have:=hw.kC;omega)
theorem Ns.isoF {m C k e N:Nat} {x0:Nat->Nat}:∀ (f:Nat) (A:List (List Nat)),Ns m C k x0 e N A->Wk m k C A->Ns m C k x0 e N (isoF m k C f A)
 | 0,A,h,_=>h
 | f+1,A,h,hw=>by
  rw [Go.Proofs.Ytfnmeigpfmeomaa.isoF];split
  · exact Ns.isoF f _ ((h.rowsAll hw).colsAll hw.rowsAll) hw.rowsAll.colsAll
  · exact (h.rowsAll hw).colsAll hw.rowsAll
theorem gcd_gcd_dvd {a m e:Nat} (h:e ∣ m):Nat.gcd (Nat.gcd a m) e=Nat.gcd a e:=by
 rw [Nat.gcd_assoc,Nat.gcd_eq_right h]
theorem Ns.succ {m C k e N:Nat} {x0:Nat->Nat} {A:List (List Nat)} (h:Ns m C k x0 e N A) (hk:k<A.length) (hkC:k<C) (hc:∀ i,k<i->i<A.length->ge A i k=0) (hr:∀ j,k<j->j<C->ge A k j=0) :
 Ns m C (k+1) (fun i=>if i=k then ge A k k else x0 i) e N A:=by
 refine ⟨fun i j hi hj hor hne=>?_,h.num,fun i hi=>?_,h.ep,h.em,hk⟩
 · by_cases q:i<k\/j<k
   · exact h.blk i j hi hj q hne
   · by_cases e:i=k
     · subst e;exact hr j (by omega) hj
     · have e2:j=k:=by omega
       subst e2;exact hc i (by omega) hi
 · show _=if i=k then ge A k k else x0 i
   by_cases q:i=k
   · rw [if_pos q,q]
   · rw [if_neg q];exact h.dia i (by omega)
theorem facA_ns {m C:Nat} {A:List (List Nat)} (hl:Ltm m A) (hc:Cl C A) (hm:0<m) {e:Nat} (he:0<e) (hem:e ∣ m):∀ k,k<=A.length->k<=C->Ns m C k (fun i=>ge (facA m C A (i+1)) i i) e (nSol A.length C (gZ A) e) (facA m C A k)
 | 0,_,_=>⟨fun i j _ _ q=>by omega,rfl,fun i hi=>by omega,he,hem,Nat.zero_le _⟩
 | k+1,h1,h2=>by
  have hx:=facA_ns hl hc hm he hem k (by omega) (by omega)
  obtain ⟨l1,l2,l3⟩:=facA_all hl hc hm k
  have key:Ns m C k (fun i=>ge (facA m C A (i+1)) i i) e (nSol A.length C (gZ A) e) (facA m C A (k+1))/\(∀ i,k<i->i<A.length->ge (facA m C A (k+1)) i k=0)/\(∀ j,k<j->j<C->ge (facA m C A (k+1)) k j=0)/\(facA m C A (k+1)).length=A.length:=by
   cases hF:findF (facA m C A k) k C with
   | none =>
    have e1:facA m C A (k+1)=facA m C A k:=by rw [facA];exact facS_none hF
    rw [e1]
    have hz:=findF_none hF
    exact ⟨hx,fun i q1 q2=>hz i k (by omega) (by omega) (Nat.le_refl _) (by omega),fun j q1 q2=>hz k j (Nat.le_refl _) (by omega) (by omega) q2,l3⟩
   | some xy =>
    obtain ⟨a,b⟩:=xy
    obtain ⟨q1,q2,q3,q4,_⟩:=findF_some hF
    have e1:facA m C A (k+1)=isoF m k C (isoM k C (elS (facA m C A k) k a b)+1) (elS (facA m C A k) k a b):=by rw [facA];exact facS_some hF
    rw [e1]
    have hw:=wk_of_find hF l1 l2 hm
    have hk1:=Ns.elS (x:=a) (y:=b) hx l2 (by omega) (by omega) q2 q4 q1 q3
    have hx':=Ns.isoF (isoM k C (elS (facA m C A k) k a b)+1) _ hk1 hw
    obtain ⟨z1,z2⟩:=isoF_zero (isoM k C (elS (facA m C A k) k a b)+1) _ hw (by omega)
    exact ⟨hx',fun i p1 p2=>z1 i p1 (by rw [elS_length];omega),z2,by rw [isoF_length,elS_length];exact l3⟩
  obtain ⟨hx',z1,z2,l4⟩:=key
  have s1:=hx'.succ (by omega) (by omega) (fun i p1 p2=>z1 i p1 (by omega)) z2
  refine ⟨s1.blk,s1.num,fun i hi=>?_,s1.ep,s1.em,s1.kl⟩
  rw [s1.dia i hi]
  show (if i=k then _ else _)=_
  by_cases q:i=k
  · rw [if_pos q,q]
  · rw [if_neg q]
def pG (d:Nat) (D:List Nat) (e:Nat):Nat:=prodN d (fun j=>Nat.gcd (gn D j) e)
theorem prodN_split {f:Nat->Nat} {e d:Nat} (c:Nat) (h:∀ j,d<=j->j<d+c->f j=e):prodN (d+c) f=prodN d f*e ^ c:=by
 induction c with
 | zero=>simp
 | succ c ih=>rw [<- Nat.add_assoc,prodN,ih (fun j h1 h2=>h j h1 (by omega)),h (d+c) (by omega) (by omega),Nat.pow_succ,Nat.mul_assoc]
theorem nSol_fac {m C:Nat} {A:List (List Nat)} (hl:Ltm m A) (hc:Cl C A) (hm:0<m) {e:Nat} (he:0<e) (hem:e ∣ m) :
 nSol A.length C (gZ A) e=pG (min A.length C) (dgP m C A (min A.length C) (min A.length C)) e*e ^ (C-min A.length C):=by
 obtain ⟨d,hd⟩:∃ d,d=min A.length C:=⟨_,rfl⟩
 rw [<- hd]
 have h:=facA_ns hl hc hm he hem d (by omega) (by omega)
 obtain ⟨l1,l2,l3⟩:=facA_all hl hc hm d
 have hz:∀ i j,i<A.length->j<C->i≠j->gZ (facA m C A d) i j=0:=fun i j hi hj hne=>by
  unfold gZ
  rw [h.blk i j (by omega) hj (by omega) hne];rfl
 rw [<- h.num,l3,nSol_diag he hz]
 have e1:∀ j,j<d->fct A.length (gZ (facA m C A d)) e j=Nat.gcd (gn (dgP m C A d d) j) e:=fun j hj=>by
  unfold fct gZ
  rw [if_pos (by omega),h.dia j hj,gn_dgP hj,if_pos hj,Int.natAbs_natCast]
  exact (gcd_gcd_dvd hem).symm
 have e2:∀ j,d<=j->j<d+(C-d)->fct A.length (gZ (facA m C A d)) e j=e:=fun j h1 h2=>by
  unfold fct
  rw [if_neg (by omega)]
 have e3:prodN C (fct A.length (gZ (facA m C A d)) e)=prodN (d+(C-d)) (fct A.length (gZ (facA m C A d)) e):=by rw [show d+(C-d)=C by omega]
 rw [e3,prodN_split _ e2,prodN_congr e1];rfl
end Go.Proofs.Ytfnmeigpfmeomaa
