/- Matrices of uint64 in memory: rows in blocks of their own, that the call may write. -/
import Derived.Test.YtfnmeigpfmeomaaZfMtp
import Derived.Test.YtfnmeigpfmeomaaZfDiv
namespace Go.Proofs.Ytfnmeigpfmeomaa
open Go.RowKit
set_option linter.unusedVariables false
def uc (l:List Nat):List Value:=l.map fun (k:Nat)=>Value.int .u64 (k:Int)
theorem uc_get {l:List Nat} {k:Nat} (h:k<l.length):(uc l)[k]? = some (.int .u64 (gn l k:Nat)):=by
 unfold uc gn;rw [List.getElem?_map,List.getElem?_eq_getElem h];rfl
theorem uc_set (l:List Nat) (k x:Nat):(uc l).set k (.int .u64 (x:Nat))=uc (l.set k x):=by
 unfold uc;rw [List.map_set]
theorem gn_ext {a b:List Nat} (hl:a.length=b.length) (h:∀ i,i<a.length->gn a i=gn b i):a=b:=by
 apply List.ext_getElem hl
 intro i h1 h2
 have:=h i h1
 unfold gn at this
 rw [List.getElem?_eq_getElem h1,List.getElem?_eq_getElem h2] at this
 exact this
theorem gn_map_range (n:Nat) (f:Nat->Nat) (i:Nat):gn ((List.range n).map f) i=if i<n then f i else 0:=by
 unfold gn
 by_cases h:i<n
 · simp [h]
 · rw [if_neg h,List.getElem?_eq_none (by simp;omega)];rfl
def gr (A:List (List Nat)) (i:Nat):List Nat:=A[i]?.getD []
def ge (A:List (List Nat)) (i j:Nat):Nat:=gn (gr A i) j
theorem gr_set (A:List (List Nat)) (a:Nat) (x:List Nat) (c:Nat) (ha:a<A.length):gr (A.set a x) c=if c=a then x else gr A c:=by
 unfold gr
 rw [List.getElem?_set]
 by_cases h:a=c
 · subst h;simp [ha]
 · rw [if_neg h,if_neg (fun e=>h e.symm)]
theorem gr_ext {A B:List (List Nat)} (hl:A.length=B.length) (h:∀ i,i<A.length->gr A i=gr B i):A=B:=by
 apply List.ext_getElem hl
 intro i h1 h2
 have:=h i h1
 unfold gr at this
 rw [List.getElem?_eq_getElem h1,List.getElem?_eq_getElem h2] at this
 exact this
def hd (C b:Nat):Value:=.slice (some ⟨b,0,none⟩) C C
structure Wr (L:List Nat) (w w':World):Prop where
 os:w'.os=w.os
 tape:w'.tape=w.tape
 output:w'.output=w.output
 size:w.heap.size<=w'.heap.size
 block:∀ k,k<w.heap.size->k ∉ L->w'.heap[k]? = w.heap[k]?
section
variable {L:List Nat} {w w' w'':World}
theorem Wr.refl (L:List Nat) (w:World):Wr L w w:=⟨rfl,rfl,rfl,Nat.le_refl _,fun _ _ _=>rfl⟩
theorem Wr.trans (h:Wr L w w') (k:Wr L w' w''):Wr L w w'' :=
 ⟨k.os.trans h.os,k.tape.trans h.tape,k.output.trans h.output,Nat.le_trans h.size k.size,fun i h1 h2=>(k.block i (Nat.lt_of_lt_of_le h1 h.size) h2).trans (h.block i h1 h2)⟩
theorem Wr.drew (h:Wr L w w'):Wr L w w'.drew:=⟨h.os,h.tape,h.output,h.size,h.block⟩
theorem Wr.drewN (h:Wr L w w') (n:Nat):Wr L w (w'.drewN n):=⟨h.os,h.tape,h.output,h.size,h.block⟩
theorem Wr.of_onl {g:Nat} (h:Onl g w w') (hg:g∈L):Wr L w w':=⟨h.os,h.tape,h.output,Nat.le_of_eq h.size.symm,fun k _ hk=>h.block k (fun e=>hk (e ▸ hg))⟩
theorem Wr.setCell (h:Wr L w w') {g:Nat} (hg:g∈L) (i:Nat) (u:Value):Wr L w (w'.setCell ⟨g,i,none⟩ u):=h.trans (Wr.of_onl ((Onl.refl g w').setCell i u) hg)
theorem Wr.of_below (h:Below w.heap.size w w'):Wr L w w':=⟨h.os,h.tape,h.output,h.size,fun k hk _=>h.block k hk⟩
theorem Wr.alloc (h:Wr L w w') (o:Obj):Wr L w (w'.alloc o):=h.trans (Wr.of_below ((Below.refl _ _).alloc (Nat.le_refl _) o))
theorem Wr.below (h:Wr L w w') {B:Nat} (hB:B<=w.heap.size) (hL:∀ k∈L,B<=k):Below B w w':=⟨h.os,h.tape,h.output,h.size,fun k hk=>h.block k (by omega) (fun hm=>by have:=hL k hm;omega)⟩
theorem Wr.mono {L':List Nat} (h:Wr L w w') (hs:∀ k∈L,k∈L'):Wr L' w w':=⟨h.os,h.tape,h.output,h.size,fun k hk hn=>h.block k hk (fun hm=>hn (hs k hm))⟩
theorem Arr.wr {b:Nat} {t:TypeId} {cs:List Value} (h:Arr w b t cs) (o:Wr L w w') (hb:b ∉ L):Arr w' b t cs:=(o.block b h.lt hb).trans h
end
structure MU (w:World) (R:Nat) (bs:List Nat) (C:Nat) (A:List (List Nat)):Prop where
 len:bs.length=A.length
 inj:∀ (i j b:Nat),bs[i]? = some b->bs[j]? = some b->i=j
 notR:R ∉ bs
 outer:Arr w R 103 (bs.map (hd C))
 row:∀ (i b:Nat),bs[i]? = some b->Arr w b 88 (uc (gr A i))
 cols:∀ i,i<A.length->(gr A i).length=C
section
variable {w w':World} {R C:Nat} {bs:List Nat} {A:List (List Nat)}
theorem MU.bl (h:MU w R bs C A) {i:Nat} (hi:i<A.length):∃ b,bs[i]? = some b/\b∈bs:=by
 have hi':i<bs.length:=by rw [h.len];exact hi
 exact ⟨bs[i],List.getElem?_eq_getElem hi',List.getElem_mem hi'⟩
theorem MU.keep (h:MU w R bs C A) (hR:w'.heap[R]? = w.heap[R]?) (hb:∀ b∈bs,w'.heap[b]? = w.heap[b]?):MU w' R bs C A :=
 ⟨h.len,h.inj,h.notR,hR.trans h.outer,fun i b hi=>(hb b (List.mem_of_getElem? hi)).trans (h.row i b hi),h.cols⟩
theorem MU.drew (h:MU w R bs C A):MU w.drew R bs C A:=h.keep rfl fun _ _=>rfl
theorem MU.drewN (h:MU w R bs C A) (n:Nat):MU (w.drewN n) R bs C A:=h.keep rfl fun _ _=>rfl
theorem MU.lt (h:MU w R bs C A):∀ b∈bs,b<w.heap.size:=by
 intro b hb
 obtain ⟨i,hi⟩:=List.getElem?_of_mem hb
 exact (h.row i b hi).lt
theorem MU.below (h:MU w R bs C A) (hb:Below w.heap.size w w'):MU w' R bs C A:=h.keep (hb.block R h.outer.lt) fun b hm=>hb.block b (h.lt b hm)
theorem MU.wr {L:List Nat} (h:MU w R bs C A) (o:Wr L w w') (hR:R ∉ L) (hb:∀ b∈bs,b ∉ L):MU w' R bs C A:=h.keep (o.block R h.outer.lt hR) fun b hm=>o.block b (h.lt b hm) (hb b hm)
theorem MU.alloc (h:MU w R bs C A) (o:Obj):MU (w.alloc o) R bs C A:=h.below ((Below.refl _ _).alloc (Nat.le_refl _) o)
theorem MU.cellR (h:MU w R bs C A) {i b:Nat} (hi:bs[i]? = some b):w.cell? ⟨R,i,none⟩=some (.slice (some ⟨b,0,none⟩) C C):=by
 rw [h.outer.cell,List.getElem?_map,hi];rfl
theorem MU.ilt (h:MU w R bs C A) {i b:Nat} (hi:bs[i]? = some b):i<A.length:=by
 rw [<- h.len];exact (List.getElem?_eq_some_iff.1 hi).1
theorem MU.cell (h:MU w R bs C A) {i b j:Nat} (hi:bs[i]? = some b) (hj:j<C):w.cell? ⟨b,j,none⟩=some (.int .u64 (ge A i j:Nat)):=by
 rw [(h.row i b hi).cell]
 exact uc_get (by rw [h.cols i (h.ilt hi)];exact hj)
theorem MU.ne (h:MU w R bs C A) {i j b c:Nat} (hi:bs[i]? = some b) (hj:bs[j]? = some c) (hij:i≠j):b≠c:=by
 intro e
 subst e
 exact hij (h.inj i j b hi hj)
theorem MU.neR (h:MU w R bs C A) {i b:Nat} (hi:bs[i]? = some b):b≠R:=fun e=>h.notR (e ▸ List.mem_of_getElem? hi)
theorem MU.setRow (h:MU w R bs C A) {i b:Nat} (hi:bs[i]? = some b) (o:Onl b w w') {r:List Nat} (hr:r.length=C) (ha:Arr w' b 88 (uc r)):MU w' R bs C (A.set i r):=by
 have hiA:=h.ilt hi
 refine ⟨by simp [h.len],h.inj,h.notR,h.outer.onl o (fun e=>h.neR hi e.symm),fun k c hk=>?_,fun k hk=>?_⟩
 · rw [gr_set _ _ _ _ hiA]
   by_cases e:k=i
   · subst e
     rw [hi] at hk
     injection hk with hk
     subst hk
     rw [if_pos rfl];exact ha
   · rw [if_neg e]
     exact (h.row k c hk).onl o (h.ne hk hi e)
 · rw [gr_set _ _ _ _ hiA]
   by_cases e:k=i
   · rw [if_pos e];exact hr
   · rw [if_neg e];exact h.cols k (by simpa using hk)
theorem MU.setCell (h:MU w R bs C A) {i b j:Nat} (hi:bs[i]? = some b) (hj:j<C) (x:Nat):MU (w.setCell ⟨b,j,none⟩ (.int .u64 (x:Nat))) R bs C (A.set i ((gr A i).set j x)):=by
 refine h.setRow hi ((Onl.refl b w).setCell j _) (by simp [h.cols i (h.ilt hi)]) ?_
 have:=(h.row i b hi).set j (.int .u64 (x:Nat))
 rwa [uc_set] at this
def swR (A:List (List Nat)) (i k:Nat):List (List Nat):=(A.set i (gr A k)).set k (gr A i)
theorem swR_length (A:List (List Nat)) (i k:Nat):(swR A i k).length=A.length:=by simp [swR]
theorem gr_swR {A:List (List Nat)} {i k:Nat} (hi:i<A.length) (hk:k<A.length) (c:Nat):gr (swR A i k) c=if c=k then gr A i else if c=i then gr A k else gr A c:=by
 unfold swR
 rw [gr_set _ _ _ _ (by simpa using hk),gr_set _ _ _ _ hi]
theorem MU.swap (h:MU w R bs C A) {i k b c:Nat} (hi:bs[i]? = some b) (hk:bs[k]? = some c) (o:Onl R w w') (ha:Arr w' R 103 (((bs.set i c).set k b).map (hd C))) :
 MU w' R ((bs.set i c).set k b) C (swR A i k)/\(∀ x∈(bs.set i c).set k b,x∈bs):=by
 have hiA:=h.ilt hi
 have hkA:=h.ilt hk
 have hib:i<bs.length:=by rw [h.len];exact hiA
 have hkb:k<bs.length:=by rw [h.len];exact hkA
 have hget:∀ x,((bs.set i c).set k b)[x]? = if x=k then some b else if x=i then some c else bs[x]?:=by
  intro x
  rw [List.getElem?_set]
  by_cases e:k=x
  · subst e;simp [hkb]
  · rw [if_neg e,if_neg (fun q:x=k=>e q.symm),List.getElem?_set]
    by_cases f:i=x
    · subst f;simp [hib]
    · rw [if_neg f,if_neg (fun q:x=i=>f q.symm)]
 have hmem:∀ x∈(bs.set i c).set k b,x∈bs:=by
  intro x hx
  obtain ⟨y,hy⟩:=List.getElem?_of_mem hx
  rw [hget] at hy
  split at hy
  · injection hy with hy;subst hy;exact List.mem_of_getElem? hi
  · split at hy
    · injection hy with hy;subst hy;exact List.mem_of_getElem? hk
    · exact List.mem_of_getElem? hy
 refine ⟨⟨by simp [swR,h.len],?_,fun hm=>h.notR (hmem _ hm),ha,?_,?_⟩,hmem⟩
 · intro x y v hx1 hy1
   rw [hget] at hx1 hy1
   by_cases e1:x=k
   · rw [if_pos e1] at hx1
     by_cases e2:y=k
     · omega
     · rw [if_neg e2] at hy1
       by_cases e3:y=i
       · rw [if_pos e3] at hy1
         exfalso
         have hbc:b=c:=by injection hx1 with q1;injection hy1 with q2;omega
         exact h.ne hi hk (by omega) hbc
       · rw [if_neg e3] at hy1
         exfalso
         injection hx1 with q1
         subst q1
         exact h.ne hi hy1 (by omega) rfl
   · rw [if_neg e1] at hx1
     by_cases e2:y=k
     · rw [if_pos e2] at hy1
       by_cases e3:x=i
       · rw [if_pos e3] at hx1
         exfalso
         have hbc:b=c:=by injection hx1 with q1;injection hy1 with q2;omega
         exact h.ne hi hk (by omega) hbc
       · rw [if_neg e3] at hx1
         exfalso
         injection hy1 with q1
         subst q1
         exact h.ne hi hx1 (by omega) rfl
     · rw [if_neg e2] at hy1
       by_cases e3:x=i
       · rw [if_pos e3] at hx1
         by_cases e4:y=i
         · omega
         · rw [if_neg e4] at hy1
           exfalso
           injection hx1 with q1
           subst q1
           exact h.ne hk hy1 (by omega) rfl
       · rw [if_neg e3] at hx1
         by_cases e4:y=i
         · rw [if_pos e4] at hy1
           exfalso
           injection hy1 with q1
           subst q1
           exact h.ne hk hx1 (by omega) rfl
         · rw [if_neg e4] at hy1
           by_cases e5:x=y
           · exact e5
           · exact absurd rfl (h.ne hx1 hy1 e5)
 · intro x d hx
   rw [hget] at hx
   rw [gr_swR hiA hkA]
   split at hx
   · next e =>
     injection hx with hx;subst hx
     rw [if_pos e]
     exact (h.row i b hi).onl o (h.neR hi)
   · next e =>
     rw [if_neg e]
     split at hx
     · next f =>
       injection hx with hx;subst hx
       rw [if_pos f]
       exact (h.row k c hk).onl o (h.neR hk)
     · next f =>
       rw [if_neg f]
       exact (h.row x d hx).onl o (h.neR hx)
 · intro x hx
   rw [gr_swR hiA hkA]
   rw [swR_length] at hx
   split
   · exact h.cols i hiA
   · split
     · exact h.cols k hkA
     · exact h.cols x hx
end
end Go.Proofs.Ytfnmeigpfmeomaa
