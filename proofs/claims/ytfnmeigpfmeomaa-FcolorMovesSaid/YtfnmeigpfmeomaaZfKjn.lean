/- Chains of divisors: kept products, and they are told by their products (plain). -/
import Derived.Test.YtfnmeigpfmeomaaZfNsq
import Derived.Lib.AppendZerosOnto
import Derived.Test.YtfnmeigpfmeomaaZfTwo
import Derived.BigRegion
namespace Go.Proofs.Ytfnmeigpfmeomaa
set_option linter.unusedVariables false
theorem gcd_lcm_mul (a b:Nat) {e:Nat} (he:0<e):Nat.gcd (Nat.gcd a b) e*Nat.gcd (Nat.lcm a b) e=Nat.gcd a e*Nat.gcd b e:=by
 rcases Nat.eq_zero_or_pos a with q|q
 · subst q;simp [Nat.mul_comm]
 obtain ⟨g,hg⟩:∃ g,g=Nat.gcd a b:=⟨_,rfl⟩
 have hg0:0<g:=by rw [hg];exact Nat.gcd_pos_of_pos_left _ q
 obtain ⟨a',ha⟩:g ∣ a:=by rw [hg];exact Nat.gcd_dvd_left _ _
 obtain ⟨b',hb⟩:g ∣ b:=by rw [hg];exact Nat.gcd_dvd_right _ _
 have hco:Nat.gcd a' b'=1:=by
  have h1:Nat.gcd (g*a') (g*b')=g:=by rw [<- ha,<- hb];exact hg.symm
  rw [Nat.gcd_mul_left] at h1
  exact Nat.eq_of_mul_eq_mul_left hg0 (by rw [h1,Nat.mul_one])
 have hl:Nat.lcm a b=g*(a'*b'):=by
  unfold Nat.lcm
  rw [<- hg]
  apply Nat.div_eq_of_eq_mul_right hg0
  rw [ha,hb,Nat.mul_assoc,Nat.mul_left_comm a' g b']
 obtain ⟨h,hh⟩:∃ h,h=Nat.gcd g e:=⟨_,rfl⟩
 have hh0:0<h:=by rw [hh];exact Nat.gcd_pos_of_pos_left _ hg0
 obtain ⟨g',hg'⟩:h ∣ g:=by rw [hh];exact Nat.gcd_dvd_left _ _
 obtain ⟨e',he'⟩:h ∣ e:=by rw [hh];exact Nat.gcd_dvd_right _ _
 have hco2:Nat.gcd g' e'=1:=by
  have h1:Nat.gcd (h*g') (h*e')=h:=by rw [<- hg',<- he'];exact hh.symm
  rw [Nat.gcd_mul_left] at h1
  exact Nat.eq_of_mul_eq_mul_left hh0 (by rw [h1,Nat.mul_one])
 have key:∀ x,Nat.gcd (g*x) e=h*Nat.gcd x e':=by
  intro x
  rw [hg',he',Nat.mul_assoc,Nat.gcd_mul_left]
  congr 1
  exact Nat.Coprime.gcd_mul_left_cancel x hco2
 have k2:Nat.gcd (a'*b') e'=Nat.gcd a' e'*Nat.gcd b' e':=by
  rw [Nat.gcd_comm (a'*b'),Nat.gcd_comm a',Nat.gcd_comm b']
  exact Nat.Coprime.gcd_mul e' hco
 have k3:Nat.gcd (Nat.gcd a b) e=h:=by rw [<- hg,hh]
 rw [k3,hl,key,k2]
 have ka:Nat.gcd a e=h*Nat.gcd a' e':=by rw [ha];exact key a'
 have kb:Nat.gcd b e=h*Nat.gcd b' e':=by rw [hb];exact key b'
 rw [ka,kb]
 simp only [Nat.mul_assoc,Nat.mul_left_comm]
theorem prodN_two {d i k:Nat} {f g:Nat->Nat} (hi:i<d) (hk:k<d) (hik:i≠k) (h:∀ j,j<d->j≠i->j≠k->f j=g j) (h2:f i*f k=g i*g k):prodN d f=prodN d g:=by
 have one:∀ (d j:Nat) (f:Nat->Nat),j<d->prodN d f=f j*prodN d (fun l=>if l=j then 1 else f l):=by
  intro d
  induction d with
  | zero=>intro j f hj;omega
  | succ d ih =>
   intro j f hj
   rw [prodN,prodN]
   by_cases e:j=d
   · subst e
     rw [prodN_congr (f:=f) (g:=fun l=>if l=j then 1 else f l) (fun l hl=>by rw [if_neg (by omega)]),if_pos rfl,Nat.mul_one,Nat.mul_comm]
   · rw [ih j f (by omega),if_neg (fun q=>e q.symm),Nat.mul_assoc]
 rw [one d i f hi,one d k (fun l=>if l=i then 1 else f l) hk,one d i g hi,one d k (fun l=>if l=i then 1 else g l) hk,if_neg (fun q=>hik q.symm),if_neg (fun q=>hik q.symm),<- Nat.mul_assoc,<- Nat.mul_assoc,h2]
 congr 1
 refine prodN_congr (fun l hl=>?_)
 by_cases q1:l=k
 · rw [if_pos q1,if_pos q1]
 · rw [if_neg q1,if_neg q1]
   by_cases q2:l=i
   · rw [if_pos q2,if_pos q2]
   · rw [if_neg q2,if_neg q2];exact h l hl q2 q1
theorem pG_chS {d i k:Nat} {D:List Nat} (hD:D.length=d) (hi:i<d) (hk:k<d) (hik:i≠k) {e:Nat} (he:0<e):pG d (chS i k D) e=pG d D e:=by
 unfold pG
 refine prodN_two hi hk hik (fun j hj h1 h2=>?_) ?_
 · rw [gn_chS (by omega) (by omega),if_neg h2,if_neg h1]
 · rw [gn_chS (by omega) (by omega),gn_chS (by omega) (by omega),if_neg hik,if_pos rfl,if_pos rfl]
   exact gcd_lcm_mul _ _ he
theorem pG_chU {d i:Nat} {D:List Nat} (hD:D.length=d) (hi:i<d) {e:Nat} (he:0<e):∀ x,i+1+x<=d->pG d (chU i D x) e=pG d D e
 | 0,_=>rfl
 | x+1,hx=>by
  rw [chU,pG_chS (by rw [chU_length];exact hD) hi (by omega) (by omega) he]
  exact pG_chU hD hi he x (by omega)
theorem pG_chI {d:Nat} {D:List Nat} (hD:D.length=d) {e:Nat} (he:0<e):∀ i,i<=d->pG d (chI d D i) e=pG d D e
 | 0,_=>rfl
 | i+1,hi=>by
  rw [chI,pG_chU (by rw [chI_length];exact hD) (by omega) he _ (by omega)]
  exact pG_chI hD he i (by omega)
theorem chI_all {d:Nat} {D:List Nat} (hD:D.length=d) (P:Nat->Prop) (h1:∀ a b,P a->P b->P (Nat.gcd a b)) (h2:∀ a b,P a->P b->P (Nat.lcm a b)) (h:∀ j,j<d->P (gn D j)):∀ i,i<=d->∀ j,j<d->P (gn (chI d D i) j)
 | 0,_=>h
 | i+1,hi=>by
  have ih:=chI_all hD P h1 h2 h i (by omega)
  have hl:(chI d D i).length=d:=by rw [chI_length];exact hD
  rw [chI]
  generalize chI d D i=E at *
  have key:∀ x,i+1+x<=d->∀ j,j<d->P (gn (chU i E x) j):=by
   intro x
   induction x with
   | zero=>intro _;exact ih
   | succ x ihx =>
    intro hx j hj
    have hE:(chU i E x).length=d:=by rw [chU_length];exact hl
    rw [chU,gn_chS (by omega) (by omega)]
    have a:=ihx (by omega) i (by omega)
    have b:=ihx (by omega) (i+1+x) (by omega)
    split
    · exact h2 _ _ a b
    · split
      · exact h1 _ _ a b
      · exact ihx (by omega) j hj
  exact key _ (by omega)
theorem prodN_le_cancel {d:Nat} {f g:Nat->Nat} (hle:∀ j,j<d->f j<=g j) (hp:∀ j,j<d->0<g j) (h:prodN d f=prodN d g):∀ j,j<d->f j=g j:=by
 induction d with
 | zero=>intro j hj;omega
 | succ d ih =>
  rw [prodN,prodN] at h
  have hm:prodN d f<=prodN d g:=prodN_mono (fun j hj=>hle j (by omega))
  have hpp:0<prodN d g:=by
   have:∀ d,(∀ j,j<d->0<g j)->0<prodN d g:=by
    intro d
    induction d with
    | zero=>intro _;simp [prodN]
    | succ d ih=>intro hq;rw [prodN];exact Nat.mul_pos (ih (fun j hj=>hq j (by omega))) (hq d (by omega))
   exact this d (fun j hj=>hp j (by omega))
  have h1:=hle d (by omega)
  have h2:=hp d (by omega)
  have e1:f d=g d:=by
   rcases Nat.lt_or_ge (f d) (g d) with q|q
   · have h3:prodN d f*f d<=prodN d g*f d:=Nat.mul_le_mul_right _ hm
     have h4:prodN d g*f d<prodN d g*g d:=Nat.mul_lt_mul_of_pos_left q hpp
     omega
   · omega
  have e2:prodN d f=prodN d g:=by
   rw [e1] at h
   exact Nat.eq_of_mul_eq_mul_right h2 h
  intro j hj
  by_cases q:j=d
  · rw [q];exact e1
  · exact ih (fun j hj=>hle j (by omega)) (fun j hj=>hp j (by omega)) e2 j (by omega)
theorem chain_half {d D:Nat} {g t:Nat->Nat} (hD:0<D) (ht:∀ j,j<d->t j ∣ D) (hct:∀ a b,a<b->b<d->t a ∣ t b)
 (h:∀ e,0<e->e ∣ D->prodN d (fun j=>Nat.gcd (g j) e)=prodN d (fun j=>Nat.gcd (t j) e)) {i:Nat} (hi:i<d) (hs:∀ j,j<i->g j=t j):t i ∣ g i:=by
 have ti0:0<t i:=Nat.pos_of_dvd_of_pos (ht i hi) hD
 have h1:=h (t i) ti0 (ht i hi)
 have h2:=prodN_le_cancel (f:=fun j=>Nat.gcd (g j) (t i)) (g:=fun j=>Nat.gcd (t j) (t i)) (d:=d) (fun j hj=>by
  show Nat.gcd (g j) (t i)<=Nat.gcd (t j) (t i)
  rcases Nat.lt_or_ge j i with q|q
  · rw [hs j q];exact Nat.le_refl _
  · have:Nat.gcd (t j) (t i)=t i:=by
     rcases Nat.eq_or_lt_of_le q with q|q
     · rw [q,Nat.gcd_self]
     · exact Nat.gcd_eq_right (hct i j q hj)
    rw [this]
    exact Nat.le_of_dvd ti0 (Nat.gcd_dvd_right _ _)) (fun j hj=>Nat.gcd_pos_of_pos_right _ ti0) h1 i hi
 simp only [Nat.gcd_self] at h2
 rw [<- h2]
 exact Nat.gcd_dvd_left _ _
theorem chain_uniq {d D:Nat} {g t:Nat->Nat} (hD:0<D) (hg:∀ j,j<d->g j ∣ D) (ht:∀ j,j<d->t j ∣ D) (hcg:∀ a b,a<b->b<d->g a ∣ g b) (hct:∀ a b,a<b->b<d->t a ∣ t b)
 (h:∀ e,0<e->e ∣ D->prodN d (fun j=>Nat.gcd (g j) e)=prodN d (fun j=>Nat.gcd (t j) e)):∀ i,i<d->g i=t i:=by
 intro i
 induction i using Nat.strongRecOn with
 | ind i ih =>
  intro hi
  have hs:∀ j,j<i->g j=t j:=fun j hj=>ih j hj (by omega)
  exact Nat.dvd_antisymm (chain_half hD hg hcg (fun e h1 h2=>(h e h1 h2).symm) hi (fun j hj=>(hs j hj).symm)) (chain_half hD ht hct h hi hs)
theorem fac_uniq {rows:List (List Int)} {n C d:Nat} {δ:Int} {t:Nat->Nat} (hn:rows.length=n) (hd:d=min n C) (hc:∀ r∈rows,r.length=C) (hδ:δ≠0) (hD:smD C rows=2*δ.natAbs)
 (htd:∀ j,j<d->t j=0\/t j ∣ δ.natAbs) (hct:∀ a b,a<b->b<d->t a ∣ t b) (hs:∀ e,0<e->nSol n C (matZ rows) e=prodN d (fun j=>Nat.gcd (t j) e)*e ^ (C-d)) :
 ∀ j,j<d->gn (facO (smD C rows) C rows d) j=t j:=by
 obtain ⟨D,hDD⟩:∃ D,D=smD C rows:=⟨_,rfl⟩
 rw [<- hDD] at hD ⊢
 have hδ':0<δ.natAbs:=by omega
 have hD0:0<D:=by omega
 have hl:=resF_ltm (m:=D) hD0 rows
 have hcl:=resF_cl (m:=D) hc
 have hln:(resF D rows).length=n:=by rw [resF_length];exact hn
 have hmod:∀ e,e ∣ D->nSol n C (gZ (resF D rows)) e=nSol n C (matZ rows) e:=fun e he=>nSol_mod (fun i j hi hj=>by
  have hi':i<rows.length:=by omega
  unfold gZ
  rw [ge_resF hi' (by rw [hc _ (List.getElem_mem hi')];exact hj),matZ_get hi']
  exact Int.dvd_trans (Int.natCast_dvd_natCast.2 he) (rs_mod hD0 _))
 have hlf:(facD D C rows d).length=d:=facD_length _ _ _ _
 have hfac:∀ e,0<e->e ∣ D->prodN d (fun j=>Nat.gcd (gn (facD D C rows d) j) e)=prodN d (fun j=>Nat.gcd (Nat.gcd (t j) D) e):=by
  intro e he hed
  have h1:=nSol_fac hl hcl hD0 he hed
  rw [hln,<- hd,hmod e hed,hs e he] at h1
  have h2:0<e ^ (C-d):=Nat.pow_pos he
  have h3:=Nat.eq_of_mul_eq_mul_right h2 h1
  have h4:prodN d (fun j=>Nat.gcd (gn (facD D C rows d) j) e)=pG d (dgP D C (resF D rows) d d) e:=pG_chI (dgP_length _ _ _ _ _) he d (Nat.le_refl _)
  rw [h4,<- h3]
  exact prodN_congr (fun j _=>(gcd_gcd_dvd hed).symm)
 have key:=chain_uniq (d:=d) (D:=D) (g:=fun j=>gn (facD D C rows d) j) (t:=fun j=>Nat.gcd (t j) D) hD0
  (fun j hj=>facD_dvs D C rows d j (by omega)) (fun j hj=>Nat.gcd_dvd_right _ _) (fun a b h1 h2=>facD_chn D C rows d a b (by omega) h1 h2)
  (fun a b h1 h2=>Nat.dvd_gcd (Nat.dvd_trans (Nat.gcd_dvd_left _ _) (hct a b h1 h2)) (Nat.gcd_dvd_right _ _)) hfac
 intro j hj
 have hk:gn (facD D C rows d) j=Nat.gcd (t j) D:=key j hj
 unfold facO
 rw [gn_outP (by omega),hk]
 rcases htd j hj with h0|h0
 · rw [h0,Nat.gcd_zero_left,if_neg (fun z=>z.2 rfl)]
 · have h1:t j ∣ D:=by rw [hD];exact Nat.dvd_trans h0 (Nat.dvd_mul_left _ _)
   have h2:=Nat.le_of_dvd hδ' h0
   rw [Nat.gcd_eq_left h1,if_pos ⟨hj,by omega⟩]
theorem nSol_diag2 {n C d:Nat} {M:Nat->Nat->Int} {e:Nat} (hd:d=min n C) (he:0<e) (hz:∀ i j,i<n->j<C->i≠j->M i j=0):nSol n C M e=prodN d (fun j=>Nat.gcd (M j j).natAbs e)*e ^ (C-d):=by
 rw [nSol_diag he hz]
 have e1:prodN C (fct n M e)=prodN (d+(C-d)) (fct n M e):=by rw [show d+(C-d)=C by omega]
 rw [e1,prodN_split (e:=e) (C-d) (fun j h1 h2=>by unfold fct;rw [if_neg (by omega)])]
 congr 1
 exact prodN_congr (fun j hj=>by unfold fct;rw [if_pos (by omega)])
theorem fac_sol {rows:List (List Int)} {n C d:Nat} (hn:rows.length=n) (hn14:n<=14) (hd:d=min n C) (hc:∀ r∈rows,r.length=C) (hs:∀ r∈rows,asum r<=4) {e:Nat} (he:0<e) :
 nSol n C (matZ rows) e=prodN d (fun j=>Nat.gcd (gn (facO (smD C rows) C rows d) j) e)*e ^ (C-d):=by
 obtain ⟨r,ρ,κ,δ,hm,hD⟩:=minor_facts (by omega) hc hs
 rw [hn] at hm
 obtain ⟨M',h1,h2,h3⟩:=diag_ex hm.tk
 obtain ⟨s,hsd⟩:∃ s,s=(List.range d).map (fun j=>(M' j j).natAbs):=⟨_,rfl⟩
 have hsl:s.length=d:=by rw [hsd];simp
 have hsg:∀ j,j<d->gn s j=(M' j j).natAbs:=fun j hj=>by rw [hsd,gn_map_range,if_pos hj]
 have hsol:∀ e,0<e->nSol n C (matZ rows) e=prodN d (fun j=>Nat.gcd (gn (chI d s d) j) e)*e ^ (C-d):=by
  intro e he
  rw [<- h1 e he,nSol_diag2 hd he h2]
  congr 1
  have h4:prodN d (fun j=>Nat.gcd (gn (chI d s d) j) e)=pG d s e:=pG_chI hsl he d (Nat.le_refl _)
  rw [h4]
  exact prodN_congr (fun j hj=>by rw [hsg j hj])
 have hall:=chI_all hsl (fun a=>a=0\/a ∣ δ.natAbs) (fun a b ha hb=>by
  rcases ha with rfl|ha
  · rw [Nat.gcd_zero_left];exact hb
  · exact Or.inr (Nat.dvd_trans (Nat.gcd_dvd_left _ _) ha)) (fun a b ha hb=>by
  rcases ha with rfl|ha
  · left;simp
  · rcases hb with rfl|hb
    · left;simp
    · exact Or.inr (Nat.lcm_dvd ha hb)) (fun j hj=>by
  rw [hsg j hj]
  rcases h3 j (by omega) (by omega) with q|q
  · left;rw [q];rfl
  · right;exact Int.natAbs_dvd_natAbs.2 q) d (Nat.le_refl _)
 have key:=fac_uniq hn hd hc hm.ne hD hall (fun a b h1 h2=>chI_chn hsl d (Nat.le_refl _) a b (by omega) h1 h2) hsol
 rw [hsol e he]
 congr 1
 exact prodN_congr (fun j hj=>by rw [key j hj])
theorem inv_sol {S M:List Int} {L:Int} (k:Ok S M L) (hn:S.length<=14) {e:Nat} (he:0<e):nSol S.length (colN M L) (matZ (rowsOf S M L)) e=prodN (colN M L) (fun j=>Nat.gcd (gn (invL S M L) j) e):=by
 obtain ⟨C,hC⟩:∃ C,C=colN M L:=⟨_,rfl⟩
 obtain ⟨d,hd⟩:∃ d,d=min S.length C:=⟨_,rfl⟩
 have hsplit:prodN C (fun j=>Nat.gcd (gn (invL S M L) j) e)=prodN d (fun j=>Nat.gcd (gn (facL S M L) j) e)*e ^ (C-d):=by
  have e1:prodN C (fun j=>Nat.gcd (gn (invL S M L) j) e)=prodN (d+(C-d)) (fun j=>Nat.gcd (gn (invL S M L) j) e):=by rw [show d+(C-d)=C by omega]
  have hfl:=facL_length S M L
  have hcl:=cols_le (S:=S) (M:=M) (L:=L)
  rw [e1,prodN_split (e:=e) (C-d) (fun j h1 h2=>by
   show Nat.gcd (gn (invL S M L) j) e=e
   rw [gn_invL (by omega),gn_out (by omega),Nat.gcd_zero_left])]
  congr 1
  exact prodN_congr (fun j hj=>by
   show Nat.gcd (gn (invL S M L) j) e=Nat.gcd (gn (facL S M L) j) e
   rw [gn_invL (by omega)])
 rw [<- hC,hsplit]
 rcases Nat.eq_zero_or_pos S.length with h0|h0
 · have hd0:d=0:=by omega
   have h1:=nSol_diag2 (n:=S.length) (C:=C) (M:=matZ (rowsOf S M L)) (e:=e) hd he (fun i j hi=>by omega)
   rw [h1,hd0];rfl
 · have hcols:=rowsOf_cols (S:=S) (M:=M) (L:=L) h0
   rw [<- hC] at hcols
   have h1:=fac_sol (rows:=rowsOf S M L) (n:=S.length) (C:=C) (d:=d) (rowsOf_length S M L) hn hd (fun r hr=>by rw [rowsOf_len r hr,hcols]) rowsOf_sum he
   rw [h1]
   unfold facL
   rw [hcols,<- hd]
end Go.Proofs.Ytfnmeigpfmeomaa
namespace Go.Proofs.Ytfnmeigpfmeomaa
open Go.RowKit
set_option linter.unusedVariables false
def grB (S M:List Int):Bool:=(decide (9<S.length) && decide (S.length<=14)) || decide (60<M.length)
theorem grB_true {S M:List Int} (h:(9<S.length/\S.length<=14)\/60<M.length):grB S M=true:=by
 unfold grB;rcases h with ⟨a,b⟩|a
 · simp [a,b]
 · simp [a]
theorem grB_false {S M:List Int} (h:¬ ((9<S.length/\S.length<=14)\/60<M.length)):grB S M=false:=by
 cases q:grB S M with
 | false=>rfl
 | true =>
  unfold grB at q
  simp only [Bool.or_eq_true,Bool.and_eq_true,decide_eq_true_eq] at q
  exact absurd q h
set_option maxHeartbeats 1000000 in
theorem great_any (vs vm:Value) (S M:List Int) (L:Int) (w:World) (hS:Ints w vs S) (hM:Ints w vm M) :
 Calls Try.prog 5 #[.agg #[vs,vm,.int .i64 L]] w fun e w'=>e=.returned (.bool (grB S M))/\Below w.heap.size w w':=by
 have hB:Below w.heap.size w (w.alloc (.cells #[vs,vm,.int .i64 L] 24)):=(Below.refl _ _).alloc (Nat.le_refl _) _
 obtain ⟨A,c,rfl,hc,hx⟩:=hS
 obtain ⟨A2,c2,rfl,hc2,hx2⟩:=hM
 clear hx hx2
 by_cases h9:9<S.length
 · have z1:(9:Int)<(S.length:Int):=by omega
   by_cases h14:S.length<=14
   · have z2:(S.length:Int)<=14:=by omega
     rw [grB_true (Or.inl ⟨h9,h14⟩)]
     go_enter Try.func5,Try.ntmps5
     go_wp2_with fail
     go_ret
     exact ⟨rfl,hB⟩
   · have z2:¬ ((S.length:Int)<=14):=by omega
     by_cases h60:60<M.length
     · have z3:(60:Int)<(M.length:Int):=by omega
       rw [grB_true (Or.inr h60)]
       go_enter Try.func5,Try.ntmps5
       go_wp2_with fail
       go_ret
       exact ⟨rfl,hB⟩
     · have z3:¬ ((60:Int)<(M.length:Int)):=by omega
       rw [grB_false (by omega)]
       go_enter Try.func5,Try.ntmps5
       go_wp2_with fail
       go_ret
       exact ⟨rfl,hB⟩
 · have z1:¬ ((9:Int)<(S.length:Int)):=by omega
   by_cases h60:60<M.length
   · have z3:(60:Int)<(M.length:Int):=by omega
     rw [grB_true (Or.inr h60)]
     go_enter Try.func5,Try.ntmps5
     go_wp2_with fail
     go_ret
     exact ⟨rfl,hB⟩
   · have z3:¬ ((60:Int)<(M.length:Int)):=by omega
     rw [grB_false (by omega)]
     go_enter Try.func5,Try.ntmps5
     go_wp2_with fail
     go_ret
     exact ⟨rfl,hB⟩
theorem cntE_form {r:Option Nat} {e:Ending} (h:cntE r e):∃ nv ev:Nat,e=.returned (.tuple #[.int .i64 (nv:Int),.int .i64 (ev:Int)])/\((r=none/\nv=0/\ev=9)\/(r=some nv/\ev=0)):=by
 cases r with
 | none=>exact ⟨0,9,h,.inl ⟨rfl,rfl,rfl⟩⟩
 | some a=>exact ⟨a,0,h,.inr ⟨rfl,rfl⟩⟩
theorem cntP_prod {l:List Nat} {m:Nat}:∀ {x a:Nat},cntP l m x=some a->a=prodN x (fun j=>Nat.gcd (gn l j) m)
 | 0,a,h=>by injection h with h;exact h.symm
 | x+1,a,h=>by
  cases hx:cntP l m x with
  | none=>rw [cntP,hx] at h;cases h
  | some b =>
   rw [cntP_step hx] at h
   split at h
   · cases h
   · injection h with h
     rw [<- h,cntP_prod hx];rfl
theorem cntP_small {l:List Nat} {m:Nat} (hm:0<m):∀ {x:Nat},prodN x (fun j=>Nat.gcd (gn l j) m)<=1125899906842624->cntP l m x=some (prodN x (fun j=>Nat.gcd (gn l j) m))
 | 0,_=>rfl
 | x+1,h=>by
  rw [prodN] at h
  have hg:0<Nat.gcd (gn l x) m:=Nat.gcd_pos_of_pos_right _ hm
  have h1:=Nat.le_mul_of_pos_right (prodN x (fun j=>Nat.gcd (gn l j) m)) hg
  have h2:=cntP_small hm (x:=x) (Nat.le_trans h1 h)
  rw [cntP_step h2,if_neg (Nat.not_lt.2 ((Nat.le_div_iff_mul_le hg).2 h))];rfl
theorem colB_iff {arc x:List Nat} {n m K:Nat} (hA:∀ h,h<4*n->gn arc h<K) (hx:∀ j,j<K->gn x j<m):colB arc n m x=true ↔ ∀ c,c<n->(m:Int) ∣ 2*(gn x (gn arc (4*c+1)):Int)-(gn x (gn arc (4*c)):Int)-(gn x (gn arc (4*c+2)):Int):=by
 unfold colB
 rw [List.all_eq_true]
 constructor
 · intro h c hc
   exact (crB_iff (hx _ (hA _ (by omega))) (hx _ (hA _ (by omega))) (hx _ (hA _ (by omega)))).1 (h c (List.mem_range.2 hc))
 · intro h c hc
   have hc':=List.mem_range.1 hc
   exact (crB_iff (hx _ (hA _ (by omega))) (hx _ (hA _ (by omega))) (hx _ (hA _ (by omega)))).2 (h c hc')
theorem cntV_le2 {e C1 C2:Nat} {p q:(Nat->Nat)->Bool} (he:0<e) (hq:Loc C2 q) (φ:(Nat->Nat)->Nat->Nat) (h1:∀ x,(∀ j,j<C1->x j<e)->p x=true->q (φ x)=true/\∀ j,j<C2->φ x j<e)
 (h2:∀ x y,(∀ j,j<C1->x j<e)->(∀ j,j<C1->y j<e)->p x=true->p y=true->(∀ j,j<C2->φ x j=φ y j)->∀ j,j<C1->x j=y j):cntV e C1 p<=cntV e C2 q:=by
 unfold cntV
 have hsub:∀ z∈((List.range (e ^ C1)).filter (fun t=>p (dg e t))).map (fun t=>enc e (φ (dg e t)) C2),z∈(List.range (e ^ C2)).filter (fun t=>q (dg e t)):=by
  intro z hz
  obtain ⟨t,ht,rfl⟩:=List.mem_map.1 hz
  obtain ⟨ht1,ht2⟩:=List.mem_filter.1 ht
  obtain ⟨a,b⟩:=h1 (dg e t) (fun j _=>dg_lt he t j) ht2
  refine List.mem_filter.2 ⟨List.mem_range.2 (enc_lt he b),?_⟩
  rw [hq (dg e (enc e (φ (dg e t)) C2)) (φ (dg e t)) (fun j hj=>dg_enc he b hj)]
  exact a
 have hnd:(((List.range (e ^ C1)).filter (fun t=>p (dg e t))).map (fun t=>enc e (φ (dg e t)) C2)).Nodup:=by
  rw [List.Nodup,List.pairwise_map]
  refine ((List.nodup_range (n:=e ^ C1)).filter _).imp_of_mem (fun {s t} hs ht hne he'=>hne ?_)
  obtain ⟨hs1,hs2⟩:=List.mem_filter.1 hs
  obtain ⟨ht1,ht2⟩:=List.mem_filter.1 ht
  have hs3:=(h1 (dg e s) (fun j _=>dg_lt he s j) hs2).2
  have ht3:=(h1 (dg e t) (fun j _=>dg_lt he t j) ht2).2
  have h3:=h2 (dg e s) (dg e t) (fun j _=>dg_lt he s j) (fun j _=>dg_lt he t j) hs2 ht2 (fun j hj=>by
   rw [<- dg_enc he hs3 hj,<- dg_enc he ht3 hj,he'])
  have h4:∀ c,c<=C1->enc e (dg e s) c=enc e (dg e t) c:=by
   intro c
   induction c with
   | zero=>intro _;rfl
   | succ c ih=>intro hc;rw [enc,enc,ih (by omega),h3 c (by omega)]
  have h5:=h4 C1 (Nat.le_refl _)
  rw [enc_dg,enc_dg,Nat.mod_eq_of_lt (List.mem_range.1 hs1),Nat.mod_eq_of_lt (List.mem_range.1 ht1)] at h5
  exact h5
 have:=len_le_of_sub _ _ hnd hsub
 rwa [List.length_map] at this
def Fox (n:Nat) (α:Nat->Nat) (m:Nat) (x:Nat->Nat):Prop:=(∀ h,h<4*n->x (α h)=x h)/\∀ c,c<n->x (4*c+1)=x (4*c+3)/\(m:Int) ∣ 2*(x (4*c+1):Int)-(x (4*c):Int)-(x (4*c+2):Int)
def foxB (n:Nat) (α:Nat->Nat) (m:Nat) (x:Nat->Nat):Bool:=(List.range (4*n)).all (fun h=>decide (x (α h)=x h)) && (List.range n).all fun c=>decide (x (4*c+1)=x (4*c+3)) && decide ((m:Int) ∣ 2*(x (4*c+1):Int)-(x (4*c):Int)-(x (4*c+2):Int))
theorem foxB_iff {n m:Nat} {α x:Nat->Nat}:foxB n α m x=true ↔ Fox n α m x:=by
 unfold foxB Fox
 simp only [Bool.and_eq_true,List.all_eq_true,List.mem_range,decide_eq_true_eq]
theorem foxB_loc {n m:Nat} {α:Nat->Nat} (hα:∀ h,h<4*n->α h<4*n):Loc (4*n) (foxB n α m):=by
 intro x y h
 rw [Bool.eq_iff_iff,foxB_iff,foxB_iff]
 unfold Fox
 constructor
 · rintro ⟨a,b⟩
   refine ⟨fun q hq=>by rw [<- h _ (hα q hq),<- h q hq];exact a q hq,fun c hc=>?_⟩
   rw [<- h _ (show 4*c+1<4*n by omega),<- h _ (show 4*c+3<4*n by omega),<- h _ (show 4*c<4*n by omega),<- h _ (show 4*c+2<4*n by omega)]
   exact b c hc
 · rintro ⟨a,b⟩
   refine ⟨fun q hq=>by rw [h _ (hα q hq),h q hq];exact a q hq,fun c hc=>?_⟩
   rw [h _ (show 4*c+1<4*n by omega),h _ (show 4*c+3<4*n by omega),h _ (show 4*c<4*n by omega),h _ (show 4*c+2<4*n by omega)]
   exact b c hc
def nFox (n:Nat) (α:Nat->Nat) (m:Nat):Nat:=cntV m (4*n) (foxB n α m)
theorem rk_root {l:List Nat} {a b:Nat} (ha:gn l a=a) (h:a<b):rk l a<rk l b:=by
 have h1:rk l (a+1)=rk l a+1:=by rw [rk,if_pos ha]
 have h2:=rk_mono l (show a+1<=b by omega)
 omega
theorem rk_surj {l:List Nat}:∀ N a,a<rk l N->∃ q,q<N/\gn l q=q/\rk l q=a
 | 0,a,h=>by simp [rk] at h
 | N+1,a,h=>by
  rw [rk] at h
  by_cases e:gn l N=N
  · rw [if_pos e] at h
    by_cases w:a=rk l N
    · exact ⟨N,by omega,e,w.symm⟩
    · obtain ⟨q,h1,h2,h3⟩:=rk_surj (l:=l) N a (by omega)
      exact ⟨q,by omega,h2,h3⟩
  · rw [if_neg e] at h
    obtain ⟨q,h1,h2,h3⟩:=rk_surj N a h
    exact ⟨q,by omega,h2,h3⟩
section
variable {S M:List Int} {L:Int}
theorem arc_facts (k:Ok S M L):(∀ a b,a<M.length->b<M.length->Conn (Sees M M.length) a b->gn (arcL M) a=gn (arcL M) b)/\(∀ a b,a<M.length->b<M.length->gn (arcL M) a=gn (arcL M) b->Conn (Sees M M.length) a b) /\
 (∀ a,a<rk (labA M M.length M.length) M.length->∃ h,h<M.length/\gn (arcL M) h=a)/\(∀ a,a<M.length->gn (arcL M) a<rk (labA M M.length M.length) M.length):=by
 have hm:=k.m
 have hR:Rh M M.length:=⟨by omega,fun h hh=>k.lt h hh⟩
 have sym:∀ a b,Sees M M.length a b->Sees M M.length b a:=fun a b h=>by
  obtain ⟨hb,e|⟨e1,e2⟩⟩:=h
  · have:=k.lt b hb
    exact ⟨by rw [e];exact this,Or.inl (by rw [e,k.inv b hb])⟩
  · refine ⟨by rw [e2];unfold opp;omega,Or.inr ⟨by rw [e2];unfold opp;omega,by rw [e2];unfold opp;omega⟩⟩
 obtain ⟨lab,hlab⟩:∃ lab,lab=labA M M.length M.length:=⟨_,rfl⟩
 have lconn:∀ c,c<M.length->Conn (Sees M M.length) (gn lab c) c:=fun c hc=>by rw [hlab];exact labA_conn hR _ c hc
 have lleast:∀ c q,q<M.length->Conn (Sees M M.length) q c->gn lab c<=q:=fun c q hq h=>by rw [hlab];exact labA_least hR hq h
 have ll:∀ c,c<M.length->gn lab c<M.length:=fun c hc=>Nat.lt_of_le_of_lt (lleast c c hc (.refl _)) hc
 have leq:∀ a b,a<M.length->b<M.length->Conn (Sees M M.length) a b->gn lab a=gn lab b:=fun a b ha hb h=>by
  refine Nat.le_antisymm (lleast a _ (ll b hb) ?_) (lleast b _ (ll a ha) ?_)
  · exact (lconn b hb).trans (Conn.symm sym h)
  · exact (lconn a ha).trans h
 have li:∀ c,c<M.length->gn lab (gn lab c)=gn lab c:=fun c hc=>leq _ c (ll c hc) hc (lconn c hc)
 have harc:∀ h,h<M.length->gn (arcL M) h=rk lab (gn lab h):=fun h hh=>by
  unfold arcL
  rw [gn_numA hh,if_pos hh,hlab]
 rw [<- hlab]
 refine ⟨fun a b ha hb h=>by rw [harc a ha,harc b hb,leq a b ha hb h],fun a b ha hb e=>?_,fun a ha=>?_,fun a ha=>?_⟩
 · rw [harc a ha,harc b hb] at e
   have e2:gn lab a=gn lab b:=by
    rcases Nat.lt_trichotomy (gn lab a) (gn lab b) with q|q|q
    · have:=rk_root (li a ha) q;omega
    · exact q
    · have:=rk_root (li b hb) q;omega
   exact (Conn.symm sym (lconn a ha)).trans (by rw [e2];exact lconn b hb)
 · obtain ⟨q,h1,h2,h3⟩:=rk_surj _ a ha
   exact ⟨q,h1,by rw [harc q h1,h2,h3]⟩
 · rw [harc a ha]
   exact rk_root (li a ha) (ll a ha)
theorem fox_conn {n m:Nat} {x:Nat->Nat} (k:Ok S M L) (hx:Fox S.length (mt M) m x) {a b:Nat} (h:Conn (Sees M M.length) a b):x a=x b:=by
 have hm:=k.m
 refine h.closed (P:=fun c=>x a=x c) (fun c d e hc=>?_) rfl
 obtain ⟨hd,e|⟨e1,e2⟩⟩:=e
 · rw [hc,e,hx.1 d (by omega)]
 · rw [hc,e2]
   have h1:=(hx.2 (d/4) (by omega)).1
   have h2:d%4=1\/d%4=3:=by omega
   rcases h2 with q|q
   · have e3:opp d=4*(d/4)+3:=by unfold opp;omega
     have e4:d=4*(d/4)+1:=by omega
     rw [e3,<- h1];congr 1;omega
   · have e3:opp d=4*(d/4)+1:=by unfold opp;omega
     rw [e3,h1];congr 1;omega
theorem nCol_fox (k:Ok S M L) {m:Nat} (hm:0<m):nCol S M L m (m ^ colN M L)=nFox S.length (mt M) m*m ^ L.toNat:=by
 obtain ⟨R,hR⟩:∃ R,R=rk (labA M M.length M.length) M.length:=⟨_,rfl⟩
 obtain ⟨f1,f2,f3,f4⟩:=arc_facts k
 rw [<- hR] at f3 f4
 have hml:=k.m
 have hK:colN M L=R+L.toNat:=by unfold colN;rw [hR]
 have e1:nCol S M L m (m ^ colN M L)=cN (m ^ R*m ^ L.toNat) (fun t=>(fun t=>colB (arcL M) S.length m (vec m R t)) (t%m ^ R) && (fun _=>true) (t/m ^ R)):=by
  unfold nCol
  rw [hK,Nat.pow_add]
  refine cN_congr (fun t _=>?_)
  simp only [Bool.and_true]
  have hg:∀ h,h<M.length->gn (vec m (R+L.toNat) t) (gn (arcL M) h)=gn (vec m R (t%m ^ R)) (gn (arcL M) h):=fun h hh=>by
   have:=f4 h hh
   rw [gn_vec (by omega),gn_vec this,dg_mod this]
  unfold colB
  rw [Bool.eq_iff_iff,List.all_eq_true,List.all_eq_true]
  constructor
  · intro w c hc
    have hc':=List.mem_range.1 hc
    rw [<- hg _ (by omega),<- hg _ (by omega),<- hg _ (by omega)]
    exact w c hc
  · intro w c hc
    have hc':=List.mem_range.1 hc
    rw [hg _ (by omega),hg _ (by omega),hg _ (by omega)]
    exact w c hc
 rw [e1,cN_mul (Nat.pow_pos hm) (m ^ L.toNat) (fun t=>colB (arcL M) S.length m (vec m R t)) (fun _=>true),cN_true]
 congr 1
 have e2:cN (m ^ R) (fun t=>colB (arcL M) S.length m (vec m R t))=cntV m R (fun x=>colB (arcL M) S.length m ((List.range R).map x)):=by
  unfold cntV
  rw [cN_filter];rfl
 rw [e2]
 unfold nFox
 have hgx:∀ (x:Nat->Nat) a,a<R->gn ((List.range R).map x) a=x a:=fun x a ha=>by rw [gn_map_range,if_pos ha]
 have sees:∀ h,h<M.length->gn (arcL M) (mt M h)=gn (arcL M) h:=fun h hh=>f1 _ _ (k.lt h hh) hh (Conn.one ⟨hh,Or.inl rfl⟩)
 have opps:∀ c,c<S.length->gn (arcL M) (4*c+1)=gn (arcL M) (4*c+3):=fun c hc=>f1 _ _ (by omega) (by omega) (Conn.one ⟨by omega,Or.inr ⟨by omega,by unfold opp;omega⟩⟩)
 apply Nat.le_antisymm
 · refine cntV_le2 hm (foxB_loc (fun h hh=>by have:=k.lt h (by omega);omega)) (fun y h=>y (gn (arcL M) h)) (fun y hy hp=>⟨foxB_iff.2 ⟨fun h hh=>?_,fun c hc=>⟨?_,?_⟩⟩,fun h hh=>?_⟩) (fun y z hy hz _ _ he a ha=>?_)
   · show y (gn (arcL M) (mt M h))=y (gn (arcL M) h)
     rw [sees h (by omega)]
   · show y (gn (arcL M) (4*c+1))=y (gn (arcL M) (4*c+3))
     rw [opps c hc]
   · have h1:=(colB_iff (K:=R) (fun q hq=>f4 q (by omega)) (fun j hj=>by rw [hgx y j hj];exact hy j hj)).1 hp c hc
     rw [hgx y _ (f4 _ (by omega)),hgx y _ (f4 _ (by omega)),hgx y _ (f4 _ (by omega))] at h1
     exact h1
   · exact hy _ (f4 h (by omega))
   · obtain ⟨h,hh,e⟩:=f3 a ha
     have:=he h (by omega)
     simp only [e] at this
     exact this
 · obtain ⟨ρ,hρ⟩:∃ ρ:Nat->Nat,∀ a,a<R->ρ a<M.length/\gn (arcL M) (ρ a)=a:=by
    obtain ⟨g,hg⟩:=choose_list (P:=fun a h=>h<M.length/\gn (arcL M) h=a) (List.range R) (fun a ha=>f3 a (List.mem_range.1 ha))
    exact ⟨g,fun a ha=>hg a (List.mem_range.2 ha)⟩
   have hloc:Loc R (fun x=>colB (arcL M) S.length m ((List.range R).map x)):=by
    intro x y h
    have:(List.range R).map x=(List.range R).map y:=List.map_congr_left (fun j hj=>h j (List.mem_range.1 hj))
    simp only [this]
   have hval:∀ x:Nat->Nat,Fox S.length (mt M) m x->∀ h,h<M.length->x (ρ (gn (arcL M) h))=x h:=fun x hx h hh=>by
    have h1:=hρ _ (f4 h hh)
    exact fox_conn (n:=S.length) k hx (f2 _ _ h1.1 hh h1.2)
   refine cntV_le2 hm hloc (fun x a=>x (ρ a)) (fun x hx hp=>⟨?_,fun a ha=>hx _ (by have:=(hρ a ha).1;omega)⟩) (fun x y hx hy hpx hpy he h hh=>?_)
   · have hF:=foxB_iff.1 hp
     refine (colB_iff (K:=R) (fun q hq=>f4 q (by omega)) (fun j hj=>by rw [hgx _ j hj];exact hx _ (by have:=(hρ j hj).1;omega))).2 (fun c hc=>?_)
     rw [hgx _ _ (f4 _ (by omega)),hgx _ _ (f4 _ (by omega)),hgx _ _ (f4 _ (by omega))]
     simp only [hval x hF _ (show 4*c+1<M.length by omega),hval x hF _ (show 4*c<M.length by omega),hval x hF _ (show 4*c+2<M.length by omega)]
     exact (hF.2 c hc).2
   · have h1:=he (gn (arcL M) h) (f4 h (by omega))
     simp only [hval x (foxB_iff.1 hpx) h (by omega),hval y (foxB_iff.1 hpy) h (by omega)] at h1
     exact h1
end
end Go.Proofs.Ytfnmeigpfmeomaa
namespace Go.Proofs.Ytfnmeigpfmeomaa
set_option linter.unusedVariables false
section
variable {n:Nat} {α fc lab:Nat->Nat}
theorem Plnr.board (p:Plnr n α fc lab):∃ s:Nat->Int,(∀ f,s f=1\/s f = -1)/\∀ h,h<4*n->s (fc (α h)) = - s (fc h):=by
 obtain ⟨r,hr⟩:=p.pot 2 (fun _=>1) (fun _ _=>⟨1,by omega⟩) (fun _ _=>⟨2,by omega⟩)
 refine ⟨fun f=>if r f%2=0 then 1 else -1,fun f=>?_,fun h hh=>?_⟩
 · by_cases w:r f%2=0
   · exact Or.inl (if_pos w)
   · exact Or.inr (if_neg w)
 · obtain ⟨q,hq⟩:=hr h hh
   show (if r (fc (α h))%2=0 then (1:Int) else -1) = -(if r (fc h)%2=0 then (1:Int) else -1)
   by_cases w:r (fc h)%2=0
   · rw [if_pos w,if_neg (by omega)]
   · rw [if_neg w,if_pos (by omega)];rfl
theorem Plnr.around (p:Plnr n α fc lab) {c:Nat} (hc:c<n):fc (α (4*c))=fc (4*c+3)/\fc (α (4*c+1))=fc (4*c)/\fc (α (4*c+2))=fc (4*c+1)/\fc (α (4*c+3))=fc (4*c+2):=by
 have hnext:∀ s,s<4->fc (α (4*c+(s+1)%4))=fc (4*c+s):=fun s hs=>by
  have h1:=p.next (h:=4*c+s) (by omega)
  have h2:turnN (4*c+s) 1=4*c+(s+1)%4:=by unfold turnN;omega
  rw [h2] at h1
  exact h1
 have n0:=hnext 0 (by omega)
 have n1:=hnext 1 (by omega)
 have n2:=hnext 2 (by omega)
 have n3:=hnext 3 (by omega)
 simp only [Nat.reduceAdd,Nat.reduceMod,Nat.add_zero] at n0 n1 n2 n3
 exact ⟨n3,n0,n1,n2⟩
end
end Go.Proofs.Ytfnmeigpfmeomaa
namespace Go.Proofs.Ytfnmeigpfmeomaa
open Go.RowKit
set_option linter.unusedVariables false
section
variable {n:Nat} {M M':List Int} {τ ti:Nat->Nat}
end
section
variable {n:Nat} {M M':List Int} {τ ti:Nat->Nat}
end
theorem cntP_fox {S M:List Int} {L:Int} (k:Ok S M L) (hn:S.length<=14) {m:Nat} (hm:0<m) :
 cntP (invL S M L) m (colN M L)=if nFox S.length (mt M) m*m ^ L.toNat<=1125899906842624 then some (nFox S.length (mt M) m*m ^ L.toNat) else none:=by
 rw [<- nCol_fox k hm,nCol_sol k hm,inv_sol k hn hm]
 by_cases h:prodN (colN M L) (fun j=>Nat.gcd (gn (invL S M L) j) m)<=1125899906842624
 · rw [if_pos h,cntP_small hm h]
 · rw [if_neg h]
   cases e:cntP (invL S M L) m (colN M L) with
   | none=>rfl
   | some a =>
    have h1:=cntP_bd hm e
    rw [cntP_prod e] at h1
    exact absurd h1.2 h
section
variable {S M:List Int} {L:Int}
end
end Go.Proofs.Ytfnmeigpfmeomaa
namespace Go.Proofs.Ytfnmeigpfmeomaa
set_option linter.unusedVariables false
theorem sum4 (g:Nat->Int):∀ n,sumI (4*n) g=sumI n (fun c=>g (4*c)+g (4*c+1)+g (4*c+2)+g (4*c+3))
 | 0=>rfl
 | n+1=>by
  have e:4*(n+1)=4*n+1+1+1+1:=by omega
  rw [e,sumI,sumI,sumI,sumI,sum4 g n,sumI]
  omega
theorem Plnr.cut {n:Nat} {α fc lab:Nat->Nat} (p:Plnr n α fc lab) {m:Nat} {x:Nat->Nat} {a:Nat} (ha:a<4*n) (hx:∀ h,h<4*n->h≠a->h≠α a->x (α h)=x h)
 (hc:∀ c,c<n->x (4*c+1)=x (4*c+3)/\(m:Int) ∣ 2*(x (4*c+1):Int)-(x (4*c):Int)-(x (4*c+2):Int)) (hl:∀ h,h<4*n->x h<m):x (α a)=x a:=by
 obtain ⟨s,hs1,hs2⟩:=p.board
 have hS:(m:Int) ∣ sumI (4*n) (fun h=>s (fc h)*(x h:Int)):=by
  rw [sum4]
  have:=sumI_mod (m:=(m:Int)) (C:=n) (f:=fun c=>s (fc (4*c))*(x (4*c):Int)+s (fc (4*c+1))*(x (4*c+1):Int)+s (fc (4*c+2))*(x (4*c+2):Int)+s (fc (4*c+3))*(x (4*c+3):Int)) (g:=fun _=>0) (fun c hcn=>by
   obtain ⟨a0,a1,a2,a3⟩:=p.around hcn
   have b1:=hs2 (4*c+1) (by omega)
   have b2:=hs2 (4*c+2) (by omega)
   have b3:=hs2 (4*c+3) (by omega)
   rw [a1] at b1
   rw [a2] at b2
   rw [a3] at b3
   obtain ⟨e,q,hq⟩:=hc c hcn
   show (m:Int) ∣ (s (fc (4*c))*(x (4*c):Int)+s (fc (4*c+1))*(x (4*c+1):Int)+s (fc (4*c+2))*(x (4*c+2):Int)+s (fc (4*c+3))*(x (4*c+3):Int))-0
   rw [<- e]
   generalize s (fc (4*c))=s0 at *
   generalize s (fc (4*c+1))=s1 at *
   generalize s (fc (4*c+2))=s2 at *
   generalize s (fc (4*c+3))=s3 at *
   have e1:s1 = -s0:=by omega
   have e2:s2=s0:=by omega
   have e3:s3 = -s0:=by omega
   subst e1
   refine ⟨-s0*q,?_⟩
   rw [show (m:Int)*(-s0*q) = -s0*(m*q) from by rw [Int.mul_left_comm],<- hq,e2,e3]
   simp only [Int.neg_mul,Int.mul_sub,Int.mul_left_comm s0 2]
   omega)
  rw [sumI_zero] at this
  simpa using this
 have hT:sumI (4*n) (fun h=>s (fc h)*(x h:Int))=s (fc a)*((x a:Int)-(x (α a):Int)):=by
  have e1:sumI (4*n) (fun h=>s (fc h)*(x h:Int))=sumI (4*n) (fun h=>- (s (fc h)*(x (α h):Int))):=by
   rw [<- sumI_perm p.k.lt p.k.inj (fun h=>s (fc h)*(x h:Int))]
   exact sumI_congr fun h hh=>by
    show s (fc (α h))*(x (α h):Int)=_
    rw [hs2 h hh,Int.neg_mul]
  have e2:sumI (4*n) (fun h=>s (fc h)*(x h:Int))+sumI (4*n) (fun h=>- (s (fc h)*(x (α h):Int)))=sumI (4*n) (fun h=>s (fc h)*((x h:Int)-(x (α h):Int))):=by
   rw [<- sumI_plus]
   exact sumI_congr fun h _=>by
    show s (fc h)*(x h:Int) + -(s (fc h)*(x (α h):Int))=_
    rw [Int.mul_sub];omega
  have e3:=sumI_two (C:=4*n) (j:=a) (k:=α a) (f:=fun h=>s (fc h)*((x h:Int)-(x (α h):Int))) (g:=fun _=>0) ha (p.k.lt a ha) (fun e=>p.k.ne a ha e.symm) (fun l hl h1 h2=>by
   show s (fc l)*((x l:Int)-(x (α l):Int))=0
   rw [hx l hl h1 h2,Int.sub_self,Int.mul_zero])
  rw [sumI_zero] at e3
  have e4:s (fc (α a))*((x (α a):Int)-(x (α (α a)):Int))=s (fc a)*((x a:Int)-(x (α a):Int)):=by
   rw [p.k.inv a ha,hs2 a ha,Int.neg_mul,Int.mul_sub,Int.mul_sub];omega
  simp only [Int.sub_zero,e4] at e3
  omega
 rw [hT] at hS
 have h1:=hl a ha
 have h2:=hl (α a) (p.k.lt a ha)
 have h3:(m:Int) ∣ (x a:Int)-(x (α a):Int):=by
  rcases hs1 (fc a) with e|e
  · rw [e,Int.one_mul] at hS;exact hS
  · rw [e,Int.neg_mul,Int.one_mul] at hS;exact Int.dvd_neg.1 hS
 have h4:=Int.eq_zero_of_dvd_of_natAbs_lt_natAbs h3 (by omega)
 omega
theorem dg_modp {e:Nat} (t:Nat) {A j:Nat} (h:j<A):dg e (t%e ^ A) j=dg e t j:=by
 unfold dg
 have e1:e ^ A=e ^ j*e ^ (A-j):=by rw [<- Nat.pow_add];congr 1;omega
 have e2:e ∣ e ^ (A-j):=⟨e ^ (A-j-1),by rw [<- Nat.pow_succ'];congr 1;omega⟩
 rw [e1,Nat.mod_mul_right_div_self,Nat.mod_mod_of_dvd _ e2]
theorem dg_div {e:Nat} (t A j:Nat):dg e t (A+j)=dg e (t/e ^ A) j:=by
 unfold dg
 rw [Nat.pow_add,Nat.div_div_eq_div_mul]
theorem cntV_mul {e:Nat} (he:0<e) (A B:Nat) {p q:(Nat->Nat)->Bool} (hp:Loc A p):cntV e (A+B) (fun x=>p x && q (fun j=>x (A+j)))=cntV e A p*cntV e B q:=by
 unfold cntV
 rw [cN_filter,cN_filter,cN_filter,Nat.pow_add,<- cN_mul (Nat.pow_pos he) (e ^ B) (fun t=>p (dg e t)) (fun t=>q (dg e t))]
 refine cN_congr fun t _=>?_
 have e1:p (dg e t)=p (dg e (t%e ^ A)):=hp _ _ fun j hj=>(dg_modp t hj).symm
 have e2:(fun j=>dg e t (A+j))=dg e (t/e ^ A):=funext fun j=>dg_div t A j
 show (p (dg e t) && q (fun j=>dg e t (A+j)))=_
 rw [e1,e2]
section
variable {na nb:Nat} {α β μ:Nat->Nat} {m:Nat} {x:Nat->Nat}
end
section
variable {na nb:Nat} {α β μ:Nat->Nat} {a b m:Nat} {x:Nat->Nat} {f1 l1 f2 l2:Nat->Nat}
end
theorem mt_set (M:List Int) (i h v:Nat):mt (M.set i ((v:Nat):Int)) h=if h=i/\i<M.length then v else mt M h:=by
 unfold mt
 rw [List.getElem?_set]
 by_cases e:i=h
 · subst e
   rw [if_pos rfl]
   by_cases q:i<M.length
   · rw [if_pos q,if_pos ⟨rfl,q⟩];rfl
   · rw [if_neg q,if_neg (fun w=>q w.2),List.getElem?_eq_none (by omega)]
 · rw [if_neg e,if_neg (fun w=>e w.1.symm)]
section
variable {Sa Ma Sb Mb:List Int} {La Lb:Int}
end
theorem cnt_val {S M:List Int} {L:Int} (k:Ok S M L) (hn:S.length<=14) {m v:Nat} (hm:0<m) (h:cntP (invL S M L) m (colN M L)=some v):v=nFox S.length (mt M) m*m ^ L.toNat:=by
 rw [cntP_fox k hn hm] at h
 split at h
 · injection h with h;exact h.symm
 · cases h
end Go.Proofs.Ytfnmeigpfmeomaa
namespace Go.Proofs.Ytfnmeigpfmeomaa
open Go.RowKit
set_option linter.unusedVariables false
set_option maxHeartbeats 1000000 in
theorem grow_nil (n:Nat) (w:World) (hn:n<=10000) :
 Calls Try.prog 75 #[.slice none 0 0,.int .i64 (n:Nat)] w fun e w'=>∃ v,e=.returned v/\OwnI 3 w.heap.size w' v []/\Below w.heap.size w w':=by
 have h1:¬ ((n:Int)<0):=by omega
 rcases Nat.eq_zero_or_pos n with rfl|h0
 · go_enter Try.func75,Try.ntmps75
   go_wp2_with fail
   go_ret
   exact ⟨_,rfl,OwnI.nil _ _ _,Below.refl _ _⟩
 · have h2:(0:Int)<(n:Int):=by omega
   obtain ⟨i0,hi0,hz0,hz1,hz2⟩:=info_parts info_int
   have hGn:=grownCap_ge w n 0 3
   have hGm:=grownCap_le_maxLen w n 0 3 (by unfold maxLen;omega)
   have hrz:=Lib.hid (fun ty=>Lib.run_append_grow_zeros w 22 3 ty 3 i0 (.int .i64 0) .i64 .i64 Try.underlying22 Try.underlying3 hi0 hz0 none 0 0 [] (run_firstCells_none w.drew i0.size 0 0 0) n h0 (by rw [hz1];decide) (by omega) (by omega) (by rw [hz2];omega) (growslice_fits (by omega) (by rw [hz2];omega)))
   rw [Nat.zero_add] at hrz
   have HR:=Lib.hid (show OwnI 3 w.heap.size (w.drew.alloc (.cells (([]:List Value).toArray ++ Builtin.zeroCells (Value.int .i64 0).cells n ++ Builtin.zeroCells (Value.int .i64 0).cells (grownCap w n 0 3-n)) 3)) (.slice (some ⟨w.heap.size,0,none⟩) 0 (grownCap w n 0 3)) [] from
    ⟨rfl,.inr ⟨w.heap.size,_,_,rfl,Nat.le_refl _,heap_alloc_new w.drew _,Nat.zero_le _,hGm,by
     rw [Array.size_append,Array.size_append,size_zeroCells,size_zeroCells]
     show 0+n*1+(grownCap w n 0 3-n)*1=grownCap w n 0 3*1
     omega,rfl⟩⟩)
   have HB:=Lib.hid (show Below w.heap.size w (w.drew.alloc (.cells (([]:List Value).toArray ++ Builtin.zeroCells (Value.int .i64 0).cells n ++ Builtin.zeroCells (Value.int .i64 0).cells (grownCap w n 0 3-n)) 3)) from ((Below.refl _ _).drew).alloc (Nat.le_refl _) _)
   generalize (w.drew.alloc (.cells (([]:List Value).toArray ++ Builtin.zeroCells (Value.int .i64 0).cells n ++ Builtin.zeroCells (Value.int .i64 0).cells (grownCap w n 0 3-n)) 3))=w1 at *
   have hG63:grownCap w n 0 3<=9223372036854775807:=by unfold maxLen at hGm;omega
   generalize grownCap w n 0 3=G at *
   go_enter Try.func75,Try.ntmps75
   go_wp2_with (at_builtin;refine Lib.wpList_append_run _ rfl _ _ _ _ rfl _ _ rfl rfl _ _ (hrz.out _) ?_)
   go_ret
   exact ⟨_,rfl,HR.out,HB.out⟩
def pre2 (xs ys:List Int) (k:Nat):List Int:=if k=0 then [] else if k=1 then xs else xs ++ ys
set_option maxHeartbeats 2000000 in
theorem concat_any (b:Nat) (va vb:Value) (xs ys:List Int) (w:World) (hA:Arr w b 22 [va,vb]) (hx:Ints w va xs) (hy:Ints w vb ys) (lx:xs.length<=1000) (ly:ys.length<=1000) :
 Calls Try.prog 54 #[.slice (some ⟨b,0,none⟩) 2 2] w fun e w'=>∃ v,e=.returned v/\OwnI 3 w.heap.size w' v (xs ++ ys)/\Below w.heap.size w w':=by
 obtain ⟨i0,hi0,hz0,hz1,hz2⟩:=info_parts info_int
 have HX:=Lib.hid (fun W (hb:Below w.heap.size w W)=>hx.below hb)
 have HY:=Lib.hid (fun W (hb:Below w.heap.size w W)=>hy.below hb)
 have HAA:=Lib.hid (fun W (hb:Below w.heap.size w W)=>hA.below hb hA.lt)
 obtain ⟨A,c,rfl,hc,hx'⟩:=hx
 obtain ⟨A2,c2,rfl,hc2,hy'⟩:=hy
 clear hx' hy'
 have y0:=hA.cell 0
 have y1:=hA.cell 1
 go_enter Try.func54,Try.ntmps54
 go_wp2_with fail
 go_loopg [3,11] (2:Nat) (fun gk s3 s11 wr=>∃ k:Nat,k<=2/\gk=2-k/\s11=.int .i64 (k:Int)/\s3=.int .i64 ((pre2 xs ys k).length:Int)/\w=wr)
 case atStart=>exact ⟨0,by omega,rfl,rfl,rfl,rfl⟩
 case round =>
  obtain ⟨k,hk,rfl,rfl,rfl,rfl⟩:=hrel
  rcases (by omega:k=0\/k=1\/k=2) with rfl|rfl|rfl
  · have e0:((pre2 xs ys 0).length:Int)=0:=rfl
    rw [e0]
    clear e0
    have z1:¬ ((xs.length:Int)<0):=by omega
    go_wp2_with fail
    go_roundg (1:Nat)
    case measure=>omega
    case rel=>exact ⟨1,by omega,rfl,rfl,by rw [show pre2 xs ys 1=xs from rfl],rfl⟩
  · have e0:((pre2 xs ys 1).length:Int)=(xs.length:Int):=rfl
    rw [e0]
    clear e0
    have z1:¬ ((xs.length:Int)+(ys.length:Int)<0):=by omega
    go_wp2_with fail
    go_roundg (0:Nat)
    case measure=>omega
    case rel=>exact ⟨2,by omega,rfl,rfl,by rw [show pre2 xs ys 2=xs ++ ys from rfl,List.length_append];go_num,rfl⟩
  · have e0:((pre2 xs ys 2).length:Int)=((xs.length+ys.length:Nat):Int):=by rw [show pre2 xs ys 2=xs ++ ys from rfl,List.length_append]
    rw [e0]
    clear e0
    have HGR:=Lib.hid (grow_nil (xs.length+ys.length) w (by omega))
    generalize xs.length+ys.length=n2 at HGR ⊢
    go_upto_region 10 with (go_at_call 75;refine HGR.out.mono ?_;rintro e w1 ⟨v,rfl,hown,hb1⟩)
    clear y0 y1
    have HOW:=Lib.hid hown
    clear hown
    go_wp2_with fail
    go_loopg [6,27] (2:Nat) (fun gk s6 s27 wr=>∃ k:Nat,k<=2/\gk=2-k/\s27=.int .i64 (k:Int)/\OwnI 3 w.heap.size wr s6 (pre2 xs ys k)/\Below w.heap.size w wr)
    case atStart=>exact ⟨0,by omega,rfl,rfl,HOW.out,hb1⟩
    case round =>
     clear HOW hb1
     obtain ⟨k,hk,rfl,rfl,hown,hbw⟩:=hrel
     have y0:=(HAA.out wr hbw).cell 0
     have y1:=(HAA.out wr hbw).cell 1
     have HOW:=Lib.hid hown
     clear hown
     rcases (by omega:k=0\/k=1\/k=2) with rfl|rfl|rfl
     · go_wp2_with (at_builtin;refine wpList_appI rfl _ _ 22 rfl Try.underlying22 hi0 hz0 hz1 hz2 rfl HOW.out rfl (HX.out _ hbw) (by show 0+xs.length<=_;omega) hbw.size ?_;intro v' w2 hown' hb2 hk2)
       go_roundg (1:Nat)
       case measure=>omega
       case rel=>exact ⟨1,by omega,rfl,rfl,hown',hbw.trans (hb2.mono (Nat.le_refl _))⟩
     · go_wp2_with (at_builtin;refine wpList_appI rfl _ _ 22 rfl Try.underlying22 hi0 hz0 hz1 hz2 rfl HOW.out rfl (HY.out _ hbw) (by show xs.length+ys.length<=_;omega) hbw.size ?_;intro v' w2 hown' hb2 hk2)
       go_roundg (0:Nat)
       case measure=>omega
       case rel=>exact ⟨2,by omega,rfl,rfl,hown',hbw.trans (hb2.mono (Nat.le_refl _))⟩
     · go_wp2_with fail
       go_ret
       exact ⟨_,rfl,HOW.out,hbw⟩
theorem info_diag:(Try.prog.info? 24).map (·.size)=some 3:=by kernel_rfl
theorem OwnI.ltB {e:TypeId} {base:Nat} {w:World} {v:Value} {xs:List Int} (h:OwnI e base w v xs):∀ k,v.ownBlock=some k->k<w.heap.size:=by
 intro k hk
 rcases h.2 with ⟨rfl,h0⟩|⟨g,cap,cur,rfl,hg,hh,r⟩
 · simp [Value.ownBlock] at hk
 · simp [Value.ownBlock] at hk
   subst hk
   rcases Nat.lt_or_ge g w.heap.size with hlt|hge
   · exact hlt
   · rw [Array.getElem?_eq_none hge] at hh;cases hh
theorem OwnI.base {e:TypeId} {b b2:Nat} {w:World} {v:Value} {xs:List Int} (h:OwnI e b w v xs) (hb:b2<=b):OwnI e b2 w v xs:=by
 refine ⟨h.1,?_⟩
 rcases h.2 with h0|⟨g,cap,cur,rfl,hg,r⟩
 · exact .inl h0
 · exact .inr ⟨g,cap,cur,rfl,Nat.le_trans hb hg,r⟩
theorem OwnI.apart {e t:TypeId} {b g:Nat} {w:World} {v:Value} {xs:List Int} {cs:List Value} (h:OwnI e b w v xs) (hg:Arr w g t cs) (hne:e≠t):v.ownBlock≠some g:=by
 intro hk
 rcases h.2 with ⟨rfl,h0⟩|⟨k,cap,cur,rfl,_,hh,r⟩
 · simp [Value.ownBlock] at hk
 · simp [Value.ownBlock] at hk
   subst hk
   unfold Arr at hg
   rw [hg] at hh
   injection hh with hh
   injection hh with _ h2 _
   exact hne h2.symm
theorem OwnI.far {e:TypeId} {b g j:Nat} {w:World} {v:Value} {xs:List Int} (h:OwnI e b w v xs) (hg:v.ownBlock≠some g) (u:Value):OwnI e b (w.setCell ⟨g,j,none⟩ u) v xs:=by
 refine ⟨h.1,?_⟩
 rcases h.2 with h0|⟨k,cap,cur,rfl,hk,hh,r⟩
 · exact .inl h0
 · refine .inr ⟨k,cap,cur,rfl,hk,?_,r⟩
   rw [Below.heap_setCell w ⟨g,j,none⟩ u k (fun e=>hg (by rw [e];rfl))];exact hh
theorem OwnI.setAt {e:TypeId} {base n c i:Nat} {w:World} {A:Option Addr} {xs:List Int} (h:OwnI e base w (.slice A n c) xs) (hi:i<xs.length):∃ b,A=some ⟨b,0,none⟩/\base<=b/\n=xs.length/\w.cell? ⟨b,i,none⟩=some (.int .i64 xs[i])/\w.frozen? ⟨b,i,none⟩=false/\∀ y,OwnI e base (w.setCell ⟨b,i,none⟩ (.int .i64 y)) (.slice A n c) (xs.set i y):=by
 have hin:=h.ints
 obtain ⟨A',c',hv,hc,hx⟩:=hin
 injection hv with e1 e2 e3
 subst e1 e2 e3
 rcases h.2 with ⟨h1,h0⟩|⟨b,cap,cur,hv,hb,hh,hn,hm,hc',ht⟩
 · omega
 · injection hv with e1 _ e3
   subst e1 e3
   refine ⟨b,rfl,hb,rfl,?_,frozen_of_row w b i _ e hh,fun y=>?_⟩
   · obtain ⟨b',o',hA,hcell⟩:=hx i xs[i] (List.getElem?_eq_getElem hi)
     injection hA with hA
     injection hA with hb' ho'
     subst hb'
     rw [<- ho',Nat.zero_add] at hcell
     exact hcell
   · unfold OwnI
     rw [List.length_set]
     refine ⟨by rw [List.length_map,List.length_set,Nat.mul_one],.inr ⟨b,c,cur.setIfInBounds i (.int .i64 y),rfl,hb,?_,hn,hm,by rw [Array.size_setIfInBounds];exact hc',?_⟩⟩
     · exact heap_setCell_same w b i _ e _ hh
     · rw [Array.toList_setIfInBounds,List.map_set,<- ht,List.take_set]
def w4 (w:World) (b:Nat) (i1 i2 i3 i4:Nat) (a1 a2 a3 a4:Int):World:=(((w.setCell ⟨b,i1,none⟩ (.int .i64 a1)).setCell ⟨b,i2,none⟩ (.int .i64 a2)).setCell ⟨b,i3,none⟩ (.int .i64 a3)).setCell ⟨b,i4,none⟩ (.int .i64 a4)
theorem Arr.w4 {w:World} {b g i1 i2 i3 i4:Nat} {a1 a2 a3 a4:Int} {t:TypeId} {cs:List Value} (h:Arr w g t cs) (hg:g≠b):Arr (Go.Proofs.Ytfnmeigpfmeomaa.w4 w b i1 i2 i3 i4 a1 a2 a3 a4) g t cs :=
 (((h.far (p:=⟨b,i1,none⟩) hg _).far (p:=⟨b,i2,none⟩) hg _).far (p:=⟨b,i3,none⟩) hg _).far (p:=⟨b,i4,none⟩) hg _
theorem OwnI.w4 {w:World} {b base i1 i2 i3 i4:Nat} {a1 a2 a3 a4:Int} {t:TypeId} {v:Value} {xs:List Int} (h:OwnI t base w v xs) (hg:v.ownBlock≠some b):OwnI t base (Go.Proofs.Ytfnmeigpfmeomaa.w4 w b i1 i2 i3 i4 a1 a2 a3 a4) v xs:=(((h.far hg _).far hg _).far hg _).far hg _
theorem Below.w4 {w a:World} {b B i1 i2 i3 i4:Nat} {a1 a2 a3 a4:Int} (h:Below B a w) (hg:B<=b):Below B a (Go.Proofs.Ytfnmeigpfmeomaa.w4 w b i1 i2 i3 i4 a1 a2 a3 a4) :=
 (((h.setCell (p:=⟨b,i1,none⟩) hg _).setCell (p:=⟨b,i2,none⟩) hg _).setCell (p:=⟨b,i3,none⟩) hg _).setCell (p:=⟨b,i4,none⟩) hg _
theorem mt_cast {M:List Int} {i:Nat} (hi:i<M.length) (h0:0<=M[i]):M[i]=((mt M i:Nat):Int):=by
 unfold mt
 rw [List.getElem?_eq_getElem hi]
 show M[i]=((M[i].toNat:Nat):Int)
 omega
def SomeB (e:Ending):Prop:=∃ o:Bool,e=.returned (.bool o)
def CntQ (S M:List Int) (L md n:Int):Prop:=valB S M L=true/\1<=md/\md<=1000/\S.length<=14/\n=((nFox S.length (mt M) md.toNat*md.toNat ^ L.toNat:Nat):Int)/\n<=1125899906842624
end Go.Proofs.Ytfnmeigpfmeomaa
namespace Go.Proofs.Ytfnmeigpfmeomaa
set_option linter.unusedVariables false
def Fewer (m C1 C2:Nat) (p q:(Nat->Nat)->Prop):Prop:=∃ φ:(Nat->Nat)->Nat->Nat,(∀ x,(∀ j,j<C1->x j<m)->p x->q (φ x)/\∀ j,j<C2->φ x j<m)/\∀ x y,(∀ j,j<C1->x j<m)->(∀ j,j<C1->y j<m)->p x->p y->(∀ j,j<C2->φ x j=φ y j)->∀ j,j<C1->x j=y j
section
variable {m C1 C2 C3:Nat} {p q r:(Nat->Nat)->Prop}
theorem Fewer.trans (h:Fewer m C1 C2 p q) (g:Fewer m C2 C3 q r):Fewer m C1 C3 p r:=by
 obtain ⟨φ,a1,a2⟩:=h
 obtain ⟨ψ,b1,b2⟩:=g
 refine ⟨fun x=>ψ (φ x),fun x hx hp=>?_,fun x y hx hy hp hq e=>?_⟩
 · obtain ⟨c1,c2⟩:=a1 x hx hp
   exact b1 _ c2 c1
 · obtain ⟨c1,c2⟩:=a1 x hx hp
   obtain ⟨d1,d2⟩:=a1 y hy hq
   exact a2 x y hx hy hp hq (b2 _ _ c2 d2 c1 d1 e)
def Alike (m C1 C2:Nat) (p q:(Nat->Nat)->Prop):Prop:=Fewer m C1 C2 p q/\Fewer m C2 C1 q p
theorem Alike.trans (h:Alike m C1 C2 p q) (g:Alike m C2 C3 q r):Alike m C1 C3 p r:=⟨h.1.trans g.1,g.2.trans h.2⟩
theorem Alike.symm (h:Alike m C1 C2 p q):Alike m C2 C1 q p:=⟨h.2,h.1⟩
theorem Alike.iff (h:∀ x,p x ↔ q x):Alike m C1 C1 p q :=
 ⟨⟨fun x=>x,fun x hx hp=>⟨(h x).1 hp,hx⟩,fun x y _ _ _ _ e=>e⟩,⟨fun x=>x,fun x hx hp=>⟨(h x).2 hp,hx⟩,fun x y _ _ _ _ e=>e⟩⟩
end
theorem cntV_true {m:Nat} (hm:0<m) (k:Nat):cntV m k (fun _=>true)=m ^ k:=by
 unfold cntV
 rw [cN_filter,cN_true]
theorem Alike.count {m n1 n2 k1 k2:Nat} {α β:Nat->Nat} (hm:0<m) (h:Alike m (4*n1+k1) (4*n2+k2) (Fox n1 α m) (Fox n2 β m)) (hα:∀ h,h<4*n1->α h<4*n1) (hβ:∀ h,h<4*n2->β h<4*n2) :
 nFox n1 α m*m ^ k1=nFox n2 β m*m ^ k2:=by
 have e:∀ {n k:Nat} {γ:Nat->Nat},(∀ h,h<4*n->γ h<4*n)->nFox n γ m*m ^ k=cntV m (4*n+k) (foxB n γ m):=by
  intro n k γ hγ
  have h1:=cntV_mul hm (4*n) k (p:=foxB n γ m) (q:=fun _=>true) (foxB_loc hγ)
  simp only [Bool.and_true] at h1
  rw [h1,cntV_true hm];rfl
 have go:∀ {n1 n2 k1 k2:Nat} {α β:Nat->Nat},(∀ h,h<4*n2->β h<4*n2)->Fewer m (4*n1+k1) (4*n2+k2) (Fox n1 α m) (Fox n2 β m)->cntV m (4*n1+k1) (foxB n1 α m)<=cntV m (4*n2+k2) (foxB n2 β m):=by
  intro n1 n2 k1 k2 α β hβ h
  obtain ⟨φ,a1,a2⟩:=h
  refine cntV_le2 hm (fun x y h=>foxB_loc hβ x y fun j hj=>h j (by omega)) φ (fun x hx hp=>?_) (fun x y hx hy hp hq e=>a2 x y hx hy (foxB_iff.1 hp) (foxB_iff.1 hq) e)
  obtain ⟨c1,c2⟩:=a1 x hx (foxB_iff.1 hp)
  exact ⟨foxB_iff.2 c1,c2⟩
 rw [e hα,e hβ]
 exact Nat.le_antisymm (go hβ h.1) (go hα h.2)
def CrP (m:Nat) (x:Nat->Nat) (c:Nat):Prop:=x (4*c+1)=x (4*c+3)/\(m:Int) ∣ 2*(x (4*c+1):Int)-(x (4*c):Int)-(x (4*c+2):Int)
theorem CrP.of {m:Nat} {x y:Nat->Nat} {c:Nat} (h:CrP m x c) (e:∀ j,j/4=c->y j=x j):CrP m y c:=by
 unfold CrP
 rw [e (4*c+1) (by omega),e (4*c+3) (by omega),e (4*c) (by omega),e (4*c+2) (by omega)]
 exact h
def Sy (n:Nat) (α:Nat->Nat) (dead cx:List Nat) (arcs:List (Nat × Nat)) (m:Nat) (x:Nat->Nat):Prop :=
 (∀ h,h<4*n->h ∉ dead->x (α h)=x h)/\(∀ h∈dead,x h=0)/\(∀ c,c<n->c ∉ cx->CrP m x c)/\∀ p∈arcs,x p.1=x p.2
def Mtc (n:Nat) (α:Nat->Nat) (dead:List Nat):Prop:=∀ h,h<4*n->h ∉ dead->α h<4*n/\α h ∉ dead/\α (α h)=h/\α h≠h
def jnF (α:Nat->Nat) (u v:Nat) (h:Nat):Nat:=if h=v then u else if h=u then v else α h
section
variable {n m C a b:Nat} {α:Nat->Nat} {dead cx:List Nat} {rest:List (Nat × Nat)}
theorem Sy.arc_symm {x:Nat->Nat}:Sy n α dead cx ((a,b) :: rest) m x ↔ Sy n α dead cx ((b,a) :: rest) m x:=by
 unfold Sy
 simp only [List.forall_mem_cons]
 constructor <;> rintro ⟨h1,h2,h3,h4,h5⟩ <;> exact ⟨h1,h2,h3,h4.symm,h5⟩
theorem Mtc.join (k:Mtc n α dead) (ha:a<4*n) (hb:b<4*n) (had:a ∉ dead) (hbd:b ∉ dead) (hab:a≠b) (he:α a≠b):Mtc n (jnF α (α a) (α b)) (a :: b :: dead):=by
 obtain ⟨a1,a2,a3,a4⟩:=k a ha had
 obtain ⟨b1,b2,b3,b4⟩:=k b hb hbd
 have hne:α a≠α b:=fun e=>hab (by rw [<- a3,e,b3])
 have hba:α b≠a:=fun e=>he (by rw [<- e,b3])
 intro h hh hd
 simp only [List.mem_cons,not_or] at hd
 obtain ⟨d1,d2,d3⟩:=hd
 obtain ⟨c1,c2,c3,c4⟩:=k h hh d3
 by_cases w:h=α b
 · subst w
   have e:jnF α (α a) (α b) (α b)=α a:=by unfold jnF;rw [if_pos rfl]
   have e2:jnF α (α a) (α b) (α a)=α b:=by unfold jnF;rw [if_neg hne,if_pos rfl]
   rw [e]
   refine ⟨a1,?_,e2,hne⟩
   simp only [List.mem_cons,not_or];exact ⟨a4,he,a2⟩
 · by_cases v:h=α a
   · subst v
     have e:jnF α (α a) (α b) (α b)=α a:=by unfold jnF;rw [if_pos rfl]
     have e2:jnF α (α a) (α b) (α a)=α b:=by unfold jnF;rw [if_neg hne,if_pos rfl]
     rw [e2]
     refine ⟨b1,?_,e,fun e=>hne e.symm⟩
     simp only [List.mem_cons,not_or];exact ⟨hba,b4,b2⟩
   · have e:jnF α (α a) (α b) h=α h:=by unfold jnF;rw [if_neg w,if_neg v]
     have n1:α h≠a:=fun e=>v (by rw [<- c3,e])
     have n2:α h≠b:=fun e=>w (by rw [<- c3,e])
     have n3:α h≠α b:=fun e=>d2 (by rw [<- c3,e,b3])
     have n4:α h≠α a:=fun e=>d1 (by rw [<- c3,e,a3])
     have e2:jnF α (α a) (α b) (α h)=h:=by unfold jnF;rw [if_neg n3,if_neg n4,c3]
     rw [e]
     refine ⟨c1,?_,e2,c4⟩
     simp only [List.mem_cons,not_or];exact ⟨n1,n2,c2⟩
theorem Mtc.loop (k:Mtc n α dead) (ha:a<4*n) (had:a ∉ dead) (he:α a=b):Mtc n α (a :: b :: dead):=by
 obtain ⟨a1,a2,a3,a4⟩:=k a ha had
 intro h hh hd
 simp only [List.mem_cons,not_or] at hd
 obtain ⟨d1,d2,d3⟩:=hd
 obtain ⟨c1,c2,c3,c4⟩:=k h hh d3
 refine ⟨c1,?_,c3,c4⟩
 simp only [List.mem_cons,not_or]
 refine ⟨fun e=>d2 ?_,fun e=>d1 ?_,c2⟩
 · rw [<- he,<- e,c3]
 · rw [<- c3,e,<- he,a3]
theorem close_edge (k:Mtc n α dead) (ha:a<4*n) (hb:b<4*n) (had:a ∉ dead) (hbd:b ∉ dead) (hab:a≠b) (hax:a/4∈cx) (hbx:b/4∈cx) (hr:∀ p∈rest,p.1≠a/\p.1≠b/\p.2≠a/\p.2≠b) (he:α a≠b) (hC:4*n<=C) (hm:0<m) :
 Alike m C C (Sy n α dead cx ((a,b) :: rest) m) (Sy n (jnF α (α a) (α b)) (a :: b :: dead) cx rest m):=by
 obtain ⟨a1,a2,a3,a4⟩:=k a ha had
 obtain ⟨b1,b2,b3,b4⟩:=k b hb hbd
 have hne:α a≠α b:=fun e=>hab (by rw [<- a3,e,b3])
 have hba:α b≠a:=fun e=>he (by rw [<- e,b3])
 have off:∀ c,c ∉ cx->∀ j,j/4=c->j≠a/\j≠b:=fun c hc j hj=>⟨fun e=>hc (by rw [<- hj,e];exact hax),fun e=>hc (by rw [<- hj,e];exact hbx)⟩
 constructor
 · refine ⟨fun x h=>if h=a\/h=b then 0 else x h,fun x hx hp=>?_,fun x y hx hy hp hq e j hj=>?_⟩
   · obtain ⟨p1,p2,p3,p4⟩:=hp
     have p5:x a=x b:=p4 (a,b) List.mem_cons_self
     refine ⟨⟨fun h hh hd=>?_,fun h hd=>?_,fun c hc hcx=>?_,fun p hpr=>?_⟩,fun j hj=>?_⟩
     · simp only [List.mem_cons,not_or] at hd
       obtain ⟨d1,d2,d3⟩:=hd
       obtain ⟨c1,c2,c3,c4⟩:=k h hh d3
       simp only
       rw [if_neg (show ¬ (h=a\/h=b) from fun w=>w.elim d1 d2)]
       unfold jnF
       by_cases w:h=α b
       · rw [if_pos w,if_neg (fun w=>w.elim a4 he),p1 a ha had,p5,w,p1 b hb hbd]
       · rw [if_neg w]
         by_cases v:h=α a
         · rw [if_pos v,if_neg (fun w=>w.elim hba b4),p1 b hb hbd,<- p5,v,p1 a ha had]
         · rw [if_neg v,if_neg (fun w'=>w'.elim (fun e=>v (by rw [<- c3,e])) (fun e=>w (by rw [<- c3,e]))),p1 h hh d3]
     · simp only
       by_cases w:h=a\/h=b
       · rw [if_pos w]
       · rw [if_neg w]
         simp only [List.mem_cons] at hd
         exact p2 h (by rcases hd with e|e|e;exact absurd (.inl e) w;exact absurd (.inr e) w;exact e)
     · exact (p3 c hc hcx).of fun j hj=>if_neg fun w=>w.elim (off c hcx j hj).1 (off c hcx j hj).2
     · obtain ⟨r1,r2,r3,r4⟩:=hr p hpr
       simp only
       rw [if_neg (fun w=>w.elim r1 r2),if_neg (fun w=>w.elim r3 r4)]
       exact p4 p (List.mem_cons_of_mem _ hpr)
     · simp only
       split
       · exact hm
       · exact hx j hj
   · have key:∀ j,j<C->j≠a->j≠b->x j=y j:=fun j hj h1 h2=>by
      have:=e j hj
      simp only [if_neg (show ¬ (j=a\/j=b) from fun w=>w.elim h1 h2)] at this
      exact this
     have hxa:x a=y a:=by
      rw [<- hp.1 a ha had,<- hq.1 a ha had]
      exact key _ (by omega) a4 he
     by_cases w:j=a
     · rw [w];exact hxa
     · by_cases v:j=b
       · rw [v,<- hp.2.2.2 (a,b) List.mem_cons_self,<- hq.2.2.2 (a,b) List.mem_cons_self];exact hxa
       · exact key j hj w v
 · refine ⟨fun y h=>if h=a\/h=b then y (α a) else y h,fun y hy hp=>?_,fun x y hx hy hp hq e j hj=>?_⟩
   · obtain ⟨p1,p2,p3,p4⟩:=hp
     have hab':y (α b)=y (α a):=by
      have:=p1 (α a) a1 (by simp only [List.mem_cons,not_or];exact ⟨a4,he,a2⟩)
      unfold jnF at this
      rwa [if_neg hne,if_pos rfl] at this
     refine ⟨⟨fun h hh hd=>?_,fun h hd=>?_,fun c hc hcx=>?_,fun p hpr=>?_⟩,fun j hj=>?_⟩
     · obtain ⟨c1,c2,c3,c4⟩:=k h hh hd
       simp only
       by_cases w:h=a
       · rw [if_pos (show h=a\/h=b from .inl w),w,if_neg (fun w=>w.elim a4 he)]
       · by_cases v:h=b
         · rw [if_pos (show h=a\/h=b from .inr v),v,if_neg (fun w=>w.elim hba b4)]
           exact hab'
         · rw [if_neg (show ¬ (h=a\/h=b) from fun z=>z.elim w v)]
           by_cases u:α h=a
           · rw [if_pos (.inl u)]
             have:h=α a:=by rw [<- u,c3]
             rw [this]
           · by_cases t:α h=b
             · rw [if_pos (.inr t)]
               have:h=α b:=by rw [<- t,c3]
               rw [this,hab']
             · rw [if_neg (fun z=>z.elim u t)]
               have:=p1 h hh (by simp only [List.mem_cons,not_or];exact ⟨w,v,hd⟩)
               unfold jnF at this
               rwa [if_neg (fun z=>t (by rw [z,b3])),if_neg (fun z=>u (by rw [z,a3]))] at this
     · simp only
       rw [if_neg (fun z=>z.elim (fun e=>had (e ▸ hd)) (fun e=>hbd (e ▸ hd)))]
       exact p2 h (List.mem_cons_of_mem _ (List.mem_cons_of_mem _ hd))
     · exact (p3 c hc hcx).of fun j hj=>if_neg fun w=>w.elim (off c hcx j hj).1 (off c hcx j hj).2
     · simp only
       rcases List.mem_cons.1 hpr with e|e
       · subst e
         rw [if_pos (.inl rfl),if_pos (.inr rfl)]
       · obtain ⟨r1,r2,r3,r4⟩:=hr p e
         rw [if_neg (fun w=>w.elim r1 r2),if_neg (fun w=>w.elim r3 r4)]
         exact p4 p e
     · simp only
       split
       · exact hy _ (by omega)
       · exact hy j hj
   · by_cases w:j=a\/j=b
     · have w':j∈a :: b :: dead:=by simp only [List.mem_cons];rcases w with e|e;exact .inl e;exact .inr (.inl e)
       rw [hp.2.1 j w',hq.2.1 j w']
     · have:=e j hj
       simp only [if_neg w] at this
       exact this
theorem close_loop (k:Mtc n α dead) (ha:a<4*n) (hb:b<4*n) (had:a ∉ dead) (hbd:b ∉ dead) (hab:a≠b) (hax:a/4∈cx) (hbx:b/4∈cx) (hdn:∀ h∈dead,h<4*n) (hr4:∀ p∈rest,p.1<4*n/\p.2<4*n) (hr:∀ p∈rest,p.1≠a/\p.1≠b/\p.2≠a/\p.2≠b) (he:α a=b) (hC:4*n<=C) (hm:0<m) :
 Alike m C (C+1) (Sy n α dead cx ((a,b) :: rest) m) (Sy n α (a :: b :: dead) cx rest m):=by
 obtain ⟨a1,a2,a3,a4⟩:=k a ha had
 obtain ⟨b1,b2,b3,b4⟩:=k b hb hbd
 have hba:α b=a:=by rw [<- he,a3]
 have off:∀ c,c ∉ cx->∀ j,j/4=c->j≠a/\j≠b:=fun c hc j hj=>⟨fun e=>hc (by rw [<- hj,e];exact hax),fun e=>hc (by rw [<- hj,e];exact hbx)⟩
 have off2:∀ h,h<4*n->h ∉ dead->h≠a->h≠b->α h≠a/\α h≠b:=fun h hh hd h1 h2=>by
  obtain ⟨c1,c2,c3,c4⟩:=k h hh hd
  exact ⟨fun e=>h2 (by rw [<- c3,e,he]),fun e=>h1 (by rw [<- c3,e,hba])⟩
 constructor
 · refine ⟨fun x h=>if h=C then x a else if h=a\/h=b then 0 else x h,fun x hx hp=>?_,fun x y hx hy hp hq e j hj=>?_⟩
   · obtain ⟨p1,p2,p3,p4⟩:=hp
     refine ⟨⟨fun h hh hd=>?_,fun h hd=>?_,fun c hc hcx=>?_,fun p hpr=>?_⟩,fun j hj=>?_⟩
     · simp only [List.mem_cons,not_or] at hd
       obtain ⟨d1,d2,d3⟩:=hd
       obtain ⟨c1,c2,c3,c4⟩:=k h hh d3
       obtain ⟨o1,o2⟩:=off2 h hh d3 d1 d2
       simp only
       rw [if_neg (show ¬ h=C by omega),if_neg (show ¬ α h=C by omega),if_neg (fun w=>w.elim o1 o2),if_neg (fun w=>w.elim d1 d2)]
       exact p1 h hh d3
     · have hlt:h<4*n:=by
        rcases List.mem_cons.1 hd with e|e
        · omega
        · rcases List.mem_cons.1 e with e|e
          · omega
          · exact hdn h e
       simp only
       rw [if_neg (show ¬ h=C by omega)]
       by_cases w:h=a\/h=b
       · rw [if_pos w]
       · rw [if_neg w]
         simp only [List.mem_cons] at hd
         exact p2 h (by rcases hd with e|e|e;exact absurd (.inl e) w;exact absurd (.inr e) w;exact e)
     · exact (p3 c hc hcx).of fun j hj=>by
        simp only
        rw [if_neg (show ¬ j=C by omega),if_neg fun w=>w.elim (off c hcx j hj).1 (off c hcx j hj).2]
     · obtain ⟨r1,r2,r3,r4⟩:=hr p hpr
       obtain ⟨s1,s2⟩:=hr4 p hpr
       simp only
       rw [if_neg (show ¬ p.1=C by omega),if_neg (show ¬ p.2=C by omega),if_neg (fun w=>w.elim r1 r2),if_neg (fun w=>w.elim r3 r4)]
       exact p4 p (List.mem_cons_of_mem _ hpr)
     · simp only
       split
       · exact hx a (by omega)
       · split
         · exact hm
         · exact hx j (by omega)
   · have ea:x a=y a:=by
      have:=e C (by omega)
      simp only [if_true] at this
      exact this
     by_cases w:j=a
     · rw [w];exact ea
     · by_cases v:j=b
       · rw [v,<- hp.2.2.2 (a,b) List.mem_cons_self,<- hq.2.2.2 (a,b) List.mem_cons_self];exact ea
       · have:=e j (by omega)
         simp only [if_neg (show ¬ j=C by omega),if_neg (show ¬ (j=a\/j=b) from fun z=>z.elim w v)] at this
         exact this
 · refine ⟨fun y h=>if h=a\/h=b then y C else y h,fun y hy hp=>?_,fun x y hx hy hp hq e j hj=>?_⟩
   · obtain ⟨p1,p2,p3,p4⟩:=hp
     refine ⟨⟨fun h hh hd=>?_,fun h hd=>?_,fun c hc hcx=>?_,fun p hpr=>?_⟩,fun j hj=>?_⟩
     · obtain ⟨c1,c2,c3,c4⟩:=k h hh hd
       simp only
       by_cases w:h=a
       · rw [if_pos (show h=a\/h=b from .inl w),w,if_pos (.inr he)]
       · by_cases v:h=b
         · rw [if_pos (show h=a\/h=b from .inr v),v,if_pos (.inl hba)]
         · obtain ⟨o1,o2⟩:=off2 h hh hd w v
           rw [if_neg (fun z=>z.elim o1 o2),if_neg (fun z=>z.elim w v)]
           exact p1 h hh (by simp only [List.mem_cons,not_or];exact ⟨w,v,hd⟩)
     · simp only
       rw [if_neg (fun z=>z.elim (fun e=>had (e ▸ hd)) (fun e=>hbd (e ▸ hd)))]
       exact p2 h (List.mem_cons_of_mem _ (List.mem_cons_of_mem _ hd))
     · exact (p3 c hc hcx).of fun j hj=>if_neg fun w=>w.elim (off c hcx j hj).1 (off c hcx j hj).2
     · simp only
       rcases List.mem_cons.1 hpr with e|e
       · subst e
         rw [if_pos (.inl rfl),if_pos (.inr rfl)]
       · obtain ⟨r1,r2,r3,r4⟩:=hr p e
         rw [if_neg (fun w=>w.elim r1 r2),if_neg (fun w=>w.elim r3 r4)]
         exact p4 p e
     · simp only
       split
       · exact hy _ (by omega)
       · exact hy j (by omega)
   · by_cases w:j=a\/j=b
     · have w':j∈a :: b :: dead:=by simp only [List.mem_cons];rcases w with e|e;exact .inl e;exact .inr (.inl e)
       rw [hp.2.1 j w',hq.2.1 j w']
     · by_cases v:j=C
       · have:=e a (by omega)
         simp only [if_pos (show a=a\/a=b from .inl rfl)] at this
         rw [v];exact this
       · have:=e j (by omega)
         simp only [if_neg w] at this
         exact this
end
theorem eq_of_dvd {m a b:Nat} (ha:a<m) (hb:b<m) (h:(m:Int) ∣ (a:Int)-(b:Int)):a=b:=by
 have h1:m ∣ ((a:Int)-(b:Int)).natAbs:=Int.ofNat_dvd_left.1 h
 have:=Nat.eq_zero_of_dvd_of_lt h1 (by omega)
 omega
def Slt (c o o' u u':Nat):Prop:=(o=4*c+1/\o'=4*c+3\/o=4*c+3/\o'=4*c+1)/\(u=4*c/\u'=4*c+2\/u=4*c+2/\u'=4*c)
theorem Slt.cr {c o o' u u' m:Nat} {x:Nat->Nat} (s:Slt c o o' u u'):CrP m x c ↔ x o=x o'/\(m:Int) ∣ 2*(x o:Int)-(x u:Int)-(x u':Int):=by
 unfold CrP
 obtain ⟨⟨rfl,rfl⟩|⟨rfl,rfl⟩,⟨rfl,rfl⟩|⟨rfl,rfl⟩⟩:=s
 · exact Iff.rfl
 · rw [show 2*(x (4*c+1):Int)-(x (4*c):Int)-(x (4*c+2):Int)=2*(x (4*c+1):Int)-(x (4*c+2):Int)-(x (4*c):Int) by omega]
 · constructor
   · rintro ⟨h1,h2⟩
     exact ⟨h1.symm,by rw [<- h1];exact h2⟩
   · rintro ⟨h1,h2⟩
     exact ⟨h1.symm,by rw [<- h1];exact h2⟩
 · rw [show 2*(x (4*c+3):Int)-(x (4*c+2):Int)-(x (4*c):Int)=2*(x (4*c+3):Int)-(x (4*c):Int)-(x (4*c+2):Int) by omega]
   constructor
   · rintro ⟨h1,h2⟩
     exact ⟨h1.symm,by rw [<- h1];exact h2⟩
   · rintro ⟨h1,h2⟩
     exact ⟨h1.symm,by rw [<- h1];exact h2⟩
theorem Slt.at_ {c o o' u u':Nat} (s:Slt c o o' u u'):o/4=c/\o'/4=c/\u/4=c/\u'/4=c:=by
 obtain ⟨⟨rfl,rfl⟩|⟨rfl,rfl⟩,⟨rfl,rfl⟩|⟨rfl,rfl⟩⟩:=s <;> refine ⟨by omega,by omega,by omega,by omega⟩
def Non (h a b c d:Nat):Prop:=¬ (h=a\/h=b\/h=c\/h=d)
theorem Non.one {h a b c d:Nat} (k:Non h a b c d):¬ (h=a\/h=b):=fun w=>k (by rcases w with e|e;exact .inl e;exact .inr (.inl e))
theorem Non.two {h a b c d:Nat} (k:Non h a b c d):¬ (h=c\/h=d):=fun w=>k (by rcases w with e|e;exact .inr (.inr (.inl e));exact .inr (.inr (.inr e)))
theorem Non.of {h a b c d:Nat} (h1:h≠a) (h2:h≠b) (h3:h≠c) (h4:h≠d):Non h a b c d:=fun w=>by rcases w with e|e|e|e;exact h1 e;exact h2 e;exact h3 e;exact h4 e
theorem Slt.ne {c o o' u u':Nat} (s:Slt c o o' u u'):o'≠o/\o'≠u/\u'≠o/\u'≠u/\o≠u:=by
 obtain ⟨⟨rfl,rfl⟩|⟨rfl,rfl⟩,⟨rfl,rfl⟩|⟨rfl,rfl⟩⟩:=s <;> refine ⟨by omega,by omega,by omega,by omega,by omega⟩
theorem Fox.sy {n m:Nat} {β x:Nat->Nat}:Fox n β m x ↔ Sy n β [] [] [] m x:=by
 unfold Fox Sy CrP
 constructor
 · rintro ⟨h1,h2⟩
   exact ⟨fun h hh _=>h1 h hh,fun h hd=>absurd hd (by simp),fun c hc _=>h2 c hc,fun p hp=>absurd hp (by simp)⟩
 · rintro ⟨h1,h2,h3,h4⟩
   exact ⟨fun h hh=>h1 h hh (by simp),fun c hc=>h3 c hc (by simp)⟩
theorem Fox.mk' {n m:Nat} {β x:Nat->Nat} (h1:∀ h,h<4*n->x (β h)=x h) (h2:∀ c,c<n->CrP m x c):Fox n β m x:=⟨h1,h2⟩
section
variable {n m c o o' u u':Nat} {β:Nat->Nat}
theorem kink_alike (k:Inv2 (4*n) β) (hc:c<n) (s:Slt c o o' u u') (he:β o=u) (hm:0<m):Alike m (4*n) (4*n) (Fox n β m) (Sy n β [o,u] [c] [(o',u')] m):=by
 obtain ⟨f1,f2,f3,f4⟩:=s.at_
 have ho:o<4*n:=by omega
 have ho':o'<4*n:=by omega
 have hu:u<4*n:=by omega
 have hu':u'<4*n:=by omega
 obtain ⟨g1,g2,g3,g4,g5⟩:=s.ne
 have n1:¬ (o'=o\/o'=u):=fun w=>w.elim g1 g2
 have n2:¬ (u'=o\/u'=u):=fun w=>w.elim g3 g4
 have n3:∀ d,d≠c->∀ j,j/4=d->¬ (j=o\/j=u):=fun d hd j hj w=>by rcases w with e|e <;> (subst e;exact hd (by rw [<- hj];assumption))
 have he2:β u=o:=by rw [<- he,k.inv o ho]
 have off2:∀ h,h<4*n->h≠o->h≠u->β h≠o/\β h≠u:=fun h hh h1 h2=>⟨fun e=>h2 (by rw [<- k.inv h hh,e,he]),fun e=>h1 (by rw [<- k.inv h hh,e,he2])⟩
 constructor
 · refine ⟨fun x h=>if h=o\/h=u then 0 else x h,fun x hx hp=>?_,fun x y hx hy hp hq e j hj=>?_⟩
   · obtain ⟨p1,p2⟩:=hp
     obtain ⟨q1,q2⟩:=s.cr.1 (p2 c hc)
     have h1:x u=x o:=by rw [<- he];exact p1 o ho
     have key:x o'=x u':=eq_of_dvd (hx _ ho') (hx _ hu') (by rw [h1] at q2;rw [<- q1];rwa [show 2*(x o:Int)-(x o:Int)-(x u':Int)=(x o:Int)-(x u':Int) by omega] at q2)
     refine ⟨⟨fun h hh hd=>?_,fun h hd=>?_,fun d hd hcx=>?_,fun p hp=>?_⟩,fun j hj=>?_⟩
     · simp only [List.mem_cons,List.not_mem_nil,or_false,not_or] at hd
       obtain ⟨o1,o2⟩:=off2 h hh hd.1 hd.2
       simp only
       rw [if_neg (fun w=>w.elim o1 o2),if_neg (fun w=>w.elim hd.1 hd.2)]
       exact p1 h hh
     · simp only
       rw [if_pos (by simpa using hd)]
     · have:d≠c:=by simpa using hcx
       exact CrP.of (x:=x) (p2 d hd) fun j hj=>if_neg (n3 d this j hj)
     · have:p=(o',u'):=by simpa using hp
       subst this
       simp only
       rw [if_neg n1,if_neg n2]
       exact key
     · simp only
       split
       · exact hm
       · exact hx j hj
   · have key:∀ j,j<4*n->j≠o->j≠u->x j=y j:=fun j hj h1 h2=>by
      have:=e j hj
      simp only [if_neg (show ¬ (j=o\/j=u) from fun w=>w.elim h1 h2)] at this
      exact this
     have e1:x o=y o:=by
      rw [(s.cr.1 (hp.2 c hc)).1,(s.cr.1 (hq.2 c hc)).1]
      exact key _ ho' g1 g2
     by_cases w:j=o
     · rw [w];exact e1
     · by_cases v:j=u
       · rw [v,<- he,hp.1 o ho,hq.1 o ho];exact e1
       · exact key j hj w v
 · refine ⟨fun y h=>if h=o\/h=u then y o' else y h,fun y hy hp=>?_,fun x y hx hy hp hq e j hj=>?_⟩
   · obtain ⟨p1,p2,p3,p4⟩:=hp
     have key:y o'=y u':=p4 (o',u') (by simp)
     refine ⟨Fox.mk' (fun h hh=>?_) (fun d hd=>?_),fun j hj=>?_⟩
     · simp only
       by_cases w:h=o
       · rw [if_pos (show h=o\/h=u from .inl w),w,if_pos (.inr he)]
       · by_cases v:h=u
         · rw [if_pos (show h=o\/h=u from .inr v),v,if_pos (.inl he2)]
         · obtain ⟨o1,o2⟩:=off2 h hh w v
           rw [if_neg (fun z=>z.elim o1 o2),if_neg (fun z=>z.elim w v)]
           exact p1 h hh (by simp;exact ⟨w,v⟩)
     · by_cases w:d=c
       · subst w
         refine s.cr.2 ⟨?_,?_⟩
         · simp only
           rw [if_pos (.inl trivial),if_neg n1]
         · simp only
           rw [if_pos (.inl trivial),if_pos (.inr trivial),if_neg n2,key]
           exact ⟨0,by omega⟩
       · exact (p3 d hd (by simpa using w)).of fun j hj=>if_neg (n3 d w j hj)
     · simp only
       split
       · exact hy _ ho'
       · exact hy j hj
   · by_cases w:j=o\/j=u
     · rw [hp.2.1 j (by simpa using w),hq.2.1 j (by simpa using w)]
     · have:=e j hj
       simp only [if_neg w] at this
       exact this
end
theorem dvd_under {m o v:Nat} (hv:v<m):(m:Int) ∣ 2*(o:Int)-(((2*o+(m-v))%m:Nat):Int)-(v:Int):=by
 have h:=Nat.div_add_mod (2*o+(m-v)) m
 refine ⟨(((2*o+(m-v))/m:Nat):Int)-1,?_⟩
 rw [Int.mul_sub,<- Int.natCast_mul]
 omega
section
variable {n m c1 c2 o1 o1' u1 u1' o2 o2' u2 u2':Nat} {β:Nat->Nat}
theorem lens_alike (k:Inv2 (4*n) β) (hc1:c1<n) (hc2:c2<n) (hcc:c1≠c2) (s1:Slt c1 o1 o1' u1 u1') (s2:Slt c2 o2 o2' u2 u2') (h1:β o1=o2) (h2:β u1=u2) (hm:0<m) :
 Alike m (4*n) (4*n) (Fox n β m) (Sy n β [o1,o2,u1,u2] [c1,c2] [(o1',o2'),(u1',u2')] m):=by
 obtain ⟨f1,f2,f3,f4⟩:=s1.at_
 obtain ⟨a1,a2,a3,a4⟩:=s2.at_
 have ho1:o1<4*n:=by omega
 have hu1:u1<4*n:=by omega
 have ho2:o2<4*n:=by omega
 have hu2:u2<4*n:=by omega
 have ho1':o1'<4*n:=by omega
 have hu1':u1'<4*n:=by omega
 have ho2':o2'<4*n:=by omega
 have hu2':u2'<4*n:=by omega
 obtain ⟨g1,g2,g3,g4,g5⟩:=s1.ne
 obtain ⟨b1,b2,b3,b4,b5⟩:=s2.ne
 have cc:∀ {x y},x/4=c1->y/4=c2->x≠y:=fun hx hy e=>hcc (by rw [<- hx,<- hy,e])
 have no1:Non o1' o1 o2 u1 u2:=.of g1 (cc f2 a1) g2 (cc f2 a3)
 have nu1:Non u1' o1 o2 u1 u2:=.of g3 (cc f4 a1) g4 (cc f4 a3)
 have no2:Non o2' o1 o2 u1 u2:=.of (cc f1 a2).symm b1 (cc f3 a2).symm b2
 have nu2:Non u2' o1 o2 u1 u2:=.of (cc f1 a4).symm b3 (cc f3 a4).symm b4
 have m1:¬ (u1=o1\/u1=o2):=fun w=>w.elim (fun e=>g5 e.symm) (cc f3 a1)
 have m2:¬ (u2=o1\/u2=o2):=fun w=>w.elim (fun e=>cc f1 a3 e.symm) (fun e=>b5 e.symm)
 have n3:∀ d,d≠c1->d≠c2->∀ j,j/4=d->Non j o1 o2 u1 u2:=fun d hd1 hd2 j hj=>.of (fun e=>hd1 (by rw [<- hj,e,f1])) (fun e=>hd2 (by rw [<- hj,e,a1])) (fun e=>hd1 (by rw [<- hj,e,f3])) (fun e=>hd2 (by rw [<- hj,e,a3]))
 have h3:β o2=o1:=by rw [<- h1,k.inv o1 ho1]
 have h4:β u2=u1:=by rw [<- h2,k.inv u1 hu1]
 have off2:∀ h,h<4*n->h≠o1->h≠o2->h≠u1->h≠u2->β h≠o1/\β h≠o2/\β h≠u1/\β h≠u2:=fun h hh q1 q2 q3 q4 =>
  ⟨fun e=>q2 (by rw [<- k.inv h hh,e,h1]),fun e=>q1 (by rw [<- k.inv h hh,e,h3]),fun e=>q4 (by rw [<- k.inv h hh,e,h2]),fun e=>q3 (by rw [<- k.inv h hh,e,h4])⟩
 constructor
 · refine ⟨fun x h=>if h=o1\/h=o2\/h=u1\/h=u2 then 0 else x h,fun x hx hp=>?_,fun x y hx hy hp hq e j hj=>?_⟩
   · obtain ⟨p1,p2⟩:=hp
     obtain ⟨q1,q2⟩:=s1.cr.1 (p2 c1 hc1)
     obtain ⟨q3,q4⟩:=s2.cr.1 (p2 c2 hc2)
     have e1:x o2=x o1:=by rw [<- h1];exact p1 o1 ho1
     have e2:x u2=x u1:=by rw [<- h2];exact p1 u1 hu1
     have key:x u1'=x u2':=eq_of_dvd (hx _ hu1') (hx _ hu2') (by
      rw [e1,e2] at q4
      have:=Int.dvd_sub q4 q2
      rwa [show 2*(x o1:Int)-(x u1:Int)-(x u2':Int)-(2*(x o1:Int)-(x u1:Int)-(x u1':Int))=(x u1':Int)-(x u2':Int) by omega] at this)
     refine ⟨⟨fun h hh hd=>?_,fun h hd=>?_,fun d hd hcx=>?_,fun p hp=>?_⟩,fun j hj=>?_⟩
     · simp only [List.mem_cons,List.not_mem_nil,or_false,not_or] at hd
       obtain ⟨d1,d2,d3,d4⟩:=hd
       obtain ⟨r1,r2,r3,r4⟩:=off2 h hh d1 d2 d3 d4
       simp only
       rw [if_neg (by simp only [not_or];exact ⟨r1,r2,r3,r4⟩),if_neg (by simp only [not_or];exact ⟨d1,d2,d3,d4⟩)]
       exact p1 h hh
     · simp only
       rw [if_pos (by simpa using hd)]
     · have:d≠c1/\d≠c2:=by simpa using hcx
       exact CrP.of (x:=x) (p2 d hd) fun j hj=>if_neg (n3 d this.1 this.2 j hj)
     · have:p=(o1',o2')\/p=(u1',u2'):=by simpa using hp
       rcases this with e|e
       · subst e
         simp only
         rw [if_neg no1,if_neg no2,<- q1,<- q3,e1]
       · subst e
         simp only
         rw [if_neg nu1,if_neg nu2]
         exact key
     · simp only
       split
       · exact hm
       · exact hx j hj
   · have key:∀ j,j<4*n->j≠o1->j≠o2->j≠u1->j≠u2->x j=y j:=fun j hj h1 h2 h3 h4=>by
      have:=e j hj
      simp only [if_neg (show ¬ (j=o1\/j=o2\/j=u1\/j=u2) by simp only [not_or];exact ⟨h1,h2,h3,h4⟩)] at this
      exact this
     obtain ⟨q1,q2⟩:=s1.cr.1 (hp.2 c1 hc1)
     obtain ⟨r1,r2⟩:=s1.cr.1 (hq.2 c1 hc1)
     have k1:=key o1' ho1' g1 (cc f2 a1) g2 (cc f2 a3)
     have k2:=key u1' hu1' g3 (cc f4 a1) g4 (cc f4 a3)
     have e1:x o1=y o1:=by rw [q1,r1];exact k1
     have e3:x u1=y u1:=eq_of_dvd (hx _ hu1) (hy _ hu1) (by
      rw [e1,k2] at q2
      have:=Int.dvd_sub r2 q2
      rwa [show 2*(y o1:Int)-(y u1:Int)-(y u1':Int)-(2*(y o1:Int)-(x u1:Int)-(y u1':Int))=(x u1:Int)-(y u1:Int) by omega] at this)
     by_cases w1:j=o1
     · rw [w1];exact e1
     by_cases w2:j=u1
     · rw [w2];exact e3
     by_cases w3:j=o2
     · rw [w3,<- h1,hp.1 o1 ho1,hq.1 o1 ho1];exact e1
     by_cases w4:j=u2
     · rw [w4,<- h2,hp.1 u1 hu1,hq.1 u1 hu1];exact e3
     exact key j hj w1 w3 w2 w4
 · refine ⟨fun y h=>if h=o1\/h=o2 then y o1' else if h=u1\/h=u2 then (2*y o1'+(m-y u1'))%m else y h,fun y hy hp=>?_,fun x y hx hy hp hq e j hj=>?_⟩
   · obtain ⟨p1,p2,p3,p4⟩:=hp
     have key1:y o1'=y o2':=p4 (o1',o2') (by simp)
     have key2:y u1'=y u2':=p4 (u1',u2') (by simp)
     refine ⟨Fox.mk' (fun h hh=>?_) (fun d hd=>?_),fun j hj=>?_⟩
     · simp only
       by_cases w1:h=o1
       · rw [if_pos (show h=o1\/h=o2 from .inl w1),w1,if_pos (.inr h1)]
       by_cases w3:h=o2
       · rw [if_pos (show h=o1\/h=o2 from .inr w3),w3,if_pos (.inl h3)]
       by_cases w2:h=u1
       · rw [w2,h2,if_neg m2,if_pos (.inr rfl),if_neg m1,if_pos (.inl rfl)]
       by_cases w4:h=u2
       · rw [w4,h4,if_neg m1,if_pos (.inl rfl),if_neg m2,if_pos (.inr rfl)]
       obtain ⟨r1,r2,r3,r4⟩:=off2 h hh w1 w3 w2 w4
       rw [if_neg (fun z=>z.elim r1 r2),if_neg (fun z=>z.elim r3 r4),if_neg (fun z=>z.elim w1 w3),if_neg (fun z=>z.elim w2 w4)]
       exact p1 h hh (by simp;exact ⟨w1,w3,w2,w4⟩)
     · by_cases w1:d=c1
       · subst w1
         refine s1.cr.2 ⟨?_,?_⟩
         · simp only
           rw [if_pos (.inl trivial),if_neg no1.one,if_neg no1.two]
         · simp only
           rw [if_pos (.inl trivial),if_neg m1,if_pos (.inl trivial),if_neg nu1.one,if_neg nu1.two]
           exact dvd_under (hy _ hu1')
       by_cases w2:d=c2
       · subst w2
         refine s2.cr.2 ⟨?_,?_⟩
         · simp only
           rw [if_pos (.inr trivial),if_neg no2.one,if_neg no2.two]
           exact key1
         · simp only
           rw [if_pos (.inr trivial),if_neg m2,if_pos (.inr trivial),if_neg nu2.one,if_neg nu2.two,<- key2]
           exact dvd_under (hy _ hu1')
       exact (p3 d hd (by simp;exact ⟨w1,w2⟩)).of fun j hj=>by
        have:=n3 d w1 w2 j hj
        simp only
        rw [if_neg this.one,if_neg this.two]
     · simp only
       split
       · exact hy _ ho1'
       · split
         · exact Nat.mod_lt _ hm
         · exact hy j hj
   · by_cases w:j∈[o1,o2,u1,u2]
     · rw [hp.2.1 j w,hq.2.1 j w]
     · have:=e j hj
       simp only [List.mem_cons,List.not_mem_nil,or_false,not_or] at w
       obtain ⟨w1,w2,w3,w4⟩:=w
       simp only [if_neg (show ¬ (j=o1\/j=o2) from fun z=>z.elim w1 w2),if_neg (show ¬ (j=u1\/j=u2) from fun z=>z.elim w3 w4)] at this
       exact this
end
theorem Sy.perm {n m:Nat} {α x:Nat->Nat} {d1 d2 cx1 cx2:List Nat} {r1 r2:List (Nat × Nat)} (hd:∀ h,h∈d1 ↔ h∈d2) (hc:∀ c,c∈cx1 ↔ c∈cx2) (hr:∀ p,p∈r1 ↔ p∈r2):Sy n α d1 cx1 r1 m x ↔ Sy n α d2 cx2 r2 m x:=by
 unfold Sy
 simp only [hd,hc,hr]
theorem drop_alike {n1 n2 m k:Nat} {α α' σ τ:Nat->Nat} {dead cx:List Nat} (h1:∀ j,j<4*n2->σ j<4*n1/\σ j ∉ dead/\τ (σ j)=j) (h2:∀ h,h<4*n1->h ∉ dead->τ h<4*n2/\σ (τ h)=h) (hdn:∀ h∈dead,h<4*n1)
 (hα:∀ j,j<4*n2->α j<4*n2/\α' (σ j)=σ (α j)) (c1:∀ c,c<n2->∃ d,d<n1/\d ∉ cx/\∀ s,s<4->σ (4*c+s)=4*d+s) (c2:∀ d,d<n1->d ∉ cx->∃ c,c<n2/\∀ s,s<4->σ (4*c+s)=4*d+s) (hm:0<m) :
 Alike m (4*n1+k) (4*n2+k) (Sy n1 α' dead cx [] m) (Fox n2 α m):=by
 constructor
 · refine ⟨fun x j=>if j<4*n2 then x (σ j) else x (4*n1+(j-4*n2)),fun x hx hp=>?_,fun x y hx hy hp hq e j hj=>?_⟩
   · obtain ⟨p1,p2,p3,p4⟩:=hp
     refine ⟨Fox.mk' (fun h hh=>?_) (fun c hc=>?_),fun j hj=>?_⟩
     · obtain ⟨q1,q2⟩:=hα h hh
       obtain ⟨r1,r2,r3⟩:=h1 h hh
       simp only
       rw [if_pos q1,if_pos hh,<- q2]
       exact p1 _ r1 r2
     · obtain ⟨d,hd,hdx,hs⟩:=c1 c hc
       obtain ⟨q1,q2⟩:=p3 d hd hdx
       unfold CrP
       simp only
       rw [if_pos (by omega),if_pos (by omega),if_pos (by omega),if_pos (by omega),hs 1 (by omega),hs 3 (by omega),hs 2 (by omega),show 4*c=4*c+0 from rfl,hs 0 (by omega)]
       exact ⟨q1,q2⟩
     · simp only
       split
       · next w=>exact hx _ (by have:=(h1 j w).1;omega)
       · exact hx _ (by omega)
   · by_cases w:j<4*n1
     · by_cases v:j∈dead
       · rw [hp.2.1 j v,hq.2.1 j v]
       · obtain ⟨q1,q2⟩:=h2 j w v
         have:=e (τ j) (by omega)
         simp only [if_pos q1,q2] at this
         exact this
     · have:=e (4*n2+(j-4*n1)) (by omega)
       simp only [if_neg (show ¬ 4*n2+(j-4*n1)<4*n2 by omega)] at this
       rwa [show 4*n1+(4*n2+(j-4*n1)-4*n2)=j by omega] at this
 · refine ⟨fun y h=>if h<4*n1 then (if h∈dead then 0 else y (τ h)) else y (4*n2+(h-4*n1)),fun y hy hp=>?_,fun x y hx hy hp hq e j hj=>?_⟩
   · obtain ⟨p1,p2⟩:=hp
     refine ⟨⟨fun h hh hd=>?_,fun h hd=>?_,fun d hd hdx=>?_,fun p hp=>absurd hp (by simp)⟩,fun j hj=>?_⟩
     · obtain ⟨q1,q2⟩:=h2 h hh hd
       obtain ⟨r1,r2⟩:=hα (τ h) q1
       rw [q2] at r2
       obtain ⟨t1,t2,t3⟩:=h1 (α (τ h)) r1
       simp only
       rw [r2,if_pos t1,if_neg t2,t3,if_pos hh,if_neg hd]
       exact p1 _ q1
     · simp only
       rw [if_pos (hdn h hd),if_pos hd]
     · obtain ⟨c,hc,hs⟩:=c2 d hd hdx
       have key:∀ s,s<4->(if 4*d+s<4*n1 then (if 4*d+s∈dead then 0 else y (τ (4*d+s))) else y (4*n2+(4*d+s-4*n1)))=y (4*c+s):=fun s hs4=>by
        obtain ⟨t1,t2,t3⟩:=h1 (4*c+s) (by omega)
        rw [hs s hs4] at t1 t2 t3
        rw [if_pos t1,if_neg t2,t3]
       unfold CrP
       simp only
       have k0:=key 0 (by omega)
       rw [Nat.add_zero,Nat.add_zero] at k0
       rw [key 1 (by omega),key 3 (by omega),key 2 (by omega),k0]
       exact p2 c hc
     · simp only
       split
       · split
         · exact hm
         · next w v=>exact hy _ (by have:=(h2 j w v).1;omega)
       · exact hy _ (by omega)
   · by_cases w:j<4*n2
     · obtain ⟨t1,t2,t3⟩:=h1 j w
       have:=e (σ j) (by omega)
       simp only [if_pos t1,if_neg t2,t3] at this
       exact this
     · have:=e (4*n1+(j-4*n2)) (by omega)
       simp only [if_neg (show ¬ 4*n1+(j-4*n2)<4*n1 by omega)] at this
       rwa [show 4*n2+(4*n1+(j-4*n2)-4*n1)=j by omega] at this
def jnL (M:List Int) (x y:Nat):List Int:=(M.set x ((y:Nat):Int)).set y ((x:Nat):Int)
theorem jnL_length (M:List Int) (x y:Nat):(jnL M x y).length=M.length:=by unfold jnL;simp
end Go.Proofs.Ytfnmeigpfmeomaa
