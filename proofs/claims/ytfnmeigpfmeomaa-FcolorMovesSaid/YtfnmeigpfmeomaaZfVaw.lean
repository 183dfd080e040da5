/- append onto a slice of integers that the call itself owns: laws in the words of this seat. -/
import Derived.Test.YtfnmeigpfmeomaaZfTab
import Derived.Maps.AppendAt
import Derived.Deep.AppendLies
import Derived.RegionTactic
import Derived.OwnWalk
import Derived.Deep.RegionLaw
import Derived.Deep.AppendSrc
namespace Go.Proofs.Ytfnmeigpfmeomaa
open Go.RowKit
set_option linter.unusedVariables false
def OwnI (e:TypeId) (base:Nat) (w:World) (v:Value) (xs:List Int):Prop:=w.ownsRow base e 1 v xs.length (xs.map (Value.int .i64))
section
variable {e:TypeId} {base:Nat} {w w':World} {v:Value} {xs:List Int}
theorem OwnI.nil (e:TypeId) (base:Nat) (w:World):OwnI e base w (.slice none 0 0) []:=⟨rfl,.inl ⟨rfl,rfl⟩⟩
theorem OwnI.form (h:OwnI e base w v xs):∃ A c,v=.slice A xs.length c:=by
 rcases h.2 with ⟨rfl,h0⟩|⟨g,cap,cur,rfl,_⟩
 · exact ⟨none,0,by rw [h0]⟩
 · exact ⟨_,_,rfl⟩
theorem OwnI.block (h:OwnI e base w v xs):∀ k,v.ownBlock=some k->base<=k:=by
 intro k hk
 rcases h.2 with ⟨rfl,h0⟩|⟨g,cap,cur,rfl,hg,_⟩
 · simp [Value.ownBlock] at hk
 · simp [Value.ownBlock] at hk;omega
theorem OwnI.ints (h:OwnI e base w v xs):Ints w v xs:=by
 rcases h.2 with ⟨rfl,h0⟩|⟨g,cap,cur,rfl,hg,hh,hn,_,hc,ht⟩
 · have:xs=[]:=List.eq_nil_of_length_eq_zero h0
   subst this
   exact Ints.nil w
 · refine ⟨_,_,rfl,hn,fun k x hk=>⟨g,0,rfl,?_⟩⟩
   rw [cell_of_row w g _ cur e (0,0) hh,Nat.zero_add]
   have hk':k<xs.length:=(List.getElem?_eq_some_iff.1 hk).1
   have h1:(cur.toList.take (xs.length*1))[k]? = some (.int .i64 x):=by rw [ht,List.getElem?_map,hk];rfl
   rw [List.getElem?_take,if_pos (by omega)] at h1
   simpa using h1
theorem OwnI.below {B:Nat} (h:OwnI e base w v xs) (hb:Below B w w') (hB:w.heap.size<=B):OwnI e base w' v xs:=by
 refine ⟨h.1,?_⟩
 rcases h.2 with h0|⟨g,cap,cur,e1,hg,hh,r⟩
 · exact .inl h0
 · refine .inr ⟨g,cap,cur,e1,hg,?_,r⟩
   have hlt:g<w.heap.size:=by
    rcases Nat.lt_or_ge g w.heap.size with hlt|hge
    · exact hlt
    · rw [Array.getElem?_eq_none hge] at hh;cases hh
   rw [hb.block g (by omega)];exact hh
theorem OwnI.alloc (h:OwnI e base w v xs) (o:Obj):OwnI e base (w.alloc o) v xs:=h.below ((Below.refl _ _).alloc (Nat.le_refl _) o) (Nat.le_refl _)
theorem OwnI.drew (h:OwnI e base w v xs):OwnI e base w.drew v xs:=h
theorem OwnI.drewN (h:OwnI e base w v xs) (n:Nat):OwnI e base (w.drewN n) v xs:=h
theorem run_appI {P:Program} {t ty:TypeId} {i:TypeInfo} (ht:P.underlying t=some (.slice e)) (hi:P.info? e=some i) (hz:i.zero=some (.int .i64 0)) (hs:i.size=1) (hby:i.bytes=8)
 (h:OwnI e base w v xs) {u:Value} {ys:List Int} (hu:Ints w u ys) (hlen:xs.length+ys.length<=1000000000) (hbase:base<=w.heap.size) :
 ∃ v' w',(Builtin.append_ #[t,t] ty #[v,u]).run P w=.ok v' w'/\OwnI e base w' v' (xs ++ ys)/\Below base w w'/\(∀ k,k<w.heap.size->v.ownBlock≠some k->w'.heap[k]? = w.heap[k]?):=by
 obtain ⟨A,c,rfl,hc,hx⟩:=hu
 cases A with
 | none =>
  have hy:ys=[]:=by
   cases ys with
   | nil=>rfl
   | cons y ys=>obtain ⟨b,o,hA,_⟩:=hx 0 y rfl;cases hA
  subst hy
  refine ⟨v,w,?_,by simpa using h,Below.refl _ _,fun _ _ _=>rfl⟩
  rcases h.2 with ⟨rfl,h0⟩|⟨g,cap,cur,rfl,_,_,hnc,_⟩
  · simp [Builtin.append_,run_underlying ht,sizeOf,typeInfo,hi,Builtin.lenOf,Builtin.firstCells]
  · simp [Builtin.append_,run_underlying ht,sizeOf,typeInfo,hi,Builtin.lenOf,Builtin.firstCells,hnc,storeCells]
 | some ad =>
  have hcells:∀ j q,(ys.map (Value.int .i64))[j]? = some q->w.cell? (ad.add j)=some q:=by
   intro j q hq
   rw [List.getElem?_map] at hq
   cases hy:ys[j]? with
   | none=>rw [hy] at hq;cases hq
   | some y =>
    rw [hy] at hq
    injection hq with hq
    obtain ⟨b,o,hA,hcell⟩:=hx j y hy
    injection hA with hA
    subst hA
    rw [<- hq]
    have:(⟨b,o,none⟩:Addr).add j=⟨b,o+j,none⟩:=by unfold Addr.add;split <;> simp_all
    rw [this];exact hcell
  obtain ⟨v',w',hrun,h2,h3,_,_⟩:=run_append_own_at (P:=P) w base t ty e i (.int .i64 0) 1 8 ht hi hz hs hby rfl (by decide) v xs.length (xs.map (Value.int .i64)) h ad ys.length c (ys.map (Value.int .i64)) (by simp) hcells
   (by intro q hq;obtain ⟨y,_,rfl⟩:=List.mem_map.1 hq;rfl) (by unfold maxLen;omega) (by omega) hbase
  refine ⟨v',w',hrun,?_,(Below.refl _ _).grown h3 hbase h.block,fun k hk hne=>h3.block k hk (fun e=>hne e.symm)⟩
  unfold OwnI
  rw [List.length_append,List.map_append]
  exact h2
end
section
variable {P:Program} {w:World} {e:TypeId} {base:Nat} {v:Value} {xs:List Int}
theorem wp_appI {o:Oper} {a:Act} {K:Act->World->Prop} {Q:Exit->Act->World->Prop} (s x:Operand) (t:TypeId) (ho:o.op=.call { callee:=.builtin .append,args:=#[s,x],argTypes:=#[t,t] })
 {i:TypeInfo} (ht:P.underlying t=some (.slice e)) (hi:P.info? e=some i) (hz:i.zero=some (.int .i64 0)) (hs:i.size=1) (hby:i.bytes=8)
 (hv:a.eval s=v) (h:OwnI e base w v xs) {u:Value} {ys:List Int} (hx:a.eval x=u) (hu:Ints w u ys) (hlen:xs.length+ys.length<=1000000000) (hbase:base<=w.heap.size)
 (hK:∀ v' w',OwnI e base w' v' (xs ++ ys)->Below base w w'->(∀ k,k<w.heap.size->v.ownBlock≠some k->w'.heap[k]? = w.heap[k]?)->K (a.put o.dst v') w'):o.wp P a w K Q:=by
 obtain ⟨v',w',hrun,h1,h2,h3⟩:=run_appI (P:=P) (ty:=o.type) ht hi hz hs hby h hu hlen hbase
 unfold Oper.wp execOp
 simp only [ho,resolve,invoke,builtin,Sem.run_bind,Sem.run_pure,Result.andThen_ok,List.map_toArray,List.map_cons,List.map_nil,hv,hx,hrun]
 exact hK v' w' h1 h2 h3
theorem wpList_appI {ops:Array Oper} {rest:List Oper} {o:Oper} {a:Act} {Q:Exit->Act->World->Prop} (hgd:o.guard=none) (s x:Operand) (t:TypeId) (ho:o.op=.call { callee:=.builtin .append,args:=#[s,x],argTypes:=#[t,t] })
 {i:TypeInfo} (ht:P.underlying t=some (.slice e)) (hi:P.info? e=some i) (hz:i.zero=some (.int .i64 0)) (hs:i.size=1) (hby:i.bytes=8)
 (hv:a.eval s=v) (h:OwnI e base w v xs) {u:Value} {ys:List Int} (hx:a.eval x=u) (hu:Ints w u ys) (hlen:xs.length+ys.length<=1000000000) (hbase:base<=w.heap.size)
 (hK:∀ v' w',OwnI e base w' v' (xs ++ ys)->Below base w w'->(∀ k,k<w.heap.size->v.ownBlock≠some k->w'.heap[k]? = w.heap[k]?)->wpList P ops Q rest (a.put o.dst v') w'):wpList P ops Q (o :: rest) a w :=
 wpList_plain hgd fun _ hk=>wp_appI s x t ho ht hi hz hs hby hv h hx hu hlen hbase fun v' w' h1 h2 h3=>hk _ _ (hK v' w' h1 h2 h3)
end
theorem Ints.sub {w:World} {A:Option Addr} {n c lo hi:Nat} {xs:List Int} (h:Ints w (.slice A n c) xs) (h1:lo<=hi) (h2:hi<=xs.length) (c':Nat) (hc:hi-lo<=c') (A':Option Addr) (hA:lo<hi->A'=A.map (·.add lo)) :
 Ints w (.slice A' (hi-lo) c') ((xs.take hi).drop lo):=by
 obtain ⟨A0,c0,hv,hcap,hx⟩:=h
 injection hv with e1 e2 e3
 subst e1
 have hlen:((xs.take hi).drop lo).length=hi-lo:=by simp;omega
 refine ⟨A',c',by rw [hlen],by omega,fun k x hk=>?_⟩
 have hk':k<hi-lo:=by have:=(List.getElem?_eq_some_iff.1 hk).1;omega
 rw [List.getElem?_drop,List.getElem?_take,if_pos (by omega)] at hk
 obtain ⟨b,o,hA0,hcell⟩:=hx (lo+k) x hk
 subst hA0
 refine ⟨b,o+lo,?_,by rw [Nat.add_assoc];exact hcell⟩
 rw [hA (by omega)]
 simp only [Option.map_some,Addr.add]
 split <;> simp_all
theorem Ints.one (w:World) (t:TypeId) (x:Int):Ints (w.alloc (.cells #[.int .i64 x] t)) (.slice (some ⟨w.heap.size,0,none⟩) 1 1) [x]:=Ints.of_arr (xs:=[x]) (Arr.new w t [.int .i64 x])
theorem OwnI.one (w:World) (e:TypeId) (x:Int):OwnI e w.heap.size (w.alloc (.cells #[.int .i64 x] e)) (.slice (some ⟨w.heap.size,0,none⟩) 1 1) [x] :=
 ⟨rfl,.inr ⟨w.heap.size,1,#[.int .i64 x],rfl,Nat.le_refl _,heap_alloc_new w _,Nat.le_refl _,by unfold maxLen;omega,rfl,rfl⟩⟩
def phi (M:List Int) (h:Nat):Nat:=turnN (mt M h) 3
section
variable {w w':World} {v:Value} {vs:List Value}
end
section
variable {e:TypeId} {base:Nat} {w w':World} {v:Value} {vs:List Value}
end
section
variable {P:Program} {w:World} {e:TypeId} {base:Nat} {v:Value} {vs:List Value}
end
def isH (f:Nat->Nat) (n h:Nat):Bool:=(List.range h).all fun j=>!rB f n j h
def hdU (f:Nat->Nat) (n k:Nat):List Nat:=(List.range k).filter (isH f n)
theorem hdU_succ (f:Nat->Nat) (n k:Nat):hdU f n (k+1)=hdU f n k ++ (if isH f n k then [k] else []):=by
 unfold hdU;rw [List.range_succ,List.filter_append];simp [List.filter_cons]
theorem hdU_len (f:Nat->Nat) (n k:Nat):(hdU f n k).length<=k:=by
 have:=List.length_filter_le (isH f n) (List.range k);simpa [hdU] using this
theorem info_ints:(Try.prog.info? 22).map (fun i=>(i.zero,i.size,i.bytes))=some (some (Value.slice none 0 0),1,24):=by kernel_rfl
def sgB (s:Int):Bool:=s==1 || s == -1
def mtB (S M:List Int) (h:Nat):Bool :=
 decide (0<=M[h]?.getD 0) && (decide (M[h]?.getD 0<((4*S.length:Nat):Int)) && (decide (M[h]?.getD 0≠(h:Int)) && (decide (M[mt M h]?.getD 0=(h:Int)) && (outB S h != outB S (mt M h)))))
def okB (S M:List Int) (L:Int):Bool :=
 decide (S.length<=64) && (decide (M.length=4*S.length) && (decide (0<=L) && (decide (L<=64) && (S.all sgB && (List.range M.length).all (mtB S M)))))
def crN (l:List Nat) (c m:Nat):Nat:=(List.range m).countP fun b=>gn l b==c
def fcN (l:List Nat) (c:Nat) (hs:List Nat):Nat:=hs.countP fun h=>gn l (h/4)==c
def spB (M:List Int) (l:List Nat) (c:Nat):Bool:=gn l c != c || fcN l c (hdU (phi M) M.length M.length)==crN l c l.length+2
def sphR (M:List Int) (n:Nat):Bool:=(List.range n).all (spB M (labK M n n))
def valB (S M:List Int) (L:Int):Bool:=okB S M L && sphR M S.length
theorem hdU_mem {f:Nat->Nat} {n k x:Nat} (h:x∈hdU f n k):x<k:=by
 unfold hdU at h;exact List.mem_range.1 (List.mem_filter.1 h).1
structure Ok (S M:List Int) (L:Int):Prop where
 n:S.length<=64
 m:M.length=4*S.length
 l0:0<=L
 l1:L<=64
 sg:∀ i (h:i<S.length),S[i]=1\/S[i] = -1
 pos:∀ h (hh:h<M.length),0<=M[h]
 lt:∀ h,h<M.length->mt M h<M.length
 ne:∀ h,h<M.length->mt M h≠h
 inv:∀ h,h<M.length->mt M (mt M h)=h
 out:∀ h,h<M.length->outB S h≠outB S (mt M h)
theorem getD_lt {M:List Int} {h:Nat} (hh:h<M.length):M[h]?.getD 0=M[h]:=by rw [List.getElem?_eq_getElem hh];rfl
theorem ok_of {S M:List Int} {L:Int} (h:okB S M L=true):Ok S M L:=by
 unfold okB at h
 simp only [Bool.and_eq_true,decide_eq_true_eq,List.all_eq_true,List.mem_range] at h
 obtain ⟨h1,h2,h3,h4,h5,h6⟩:=h
 have h7:∀ x,x<M.length->0<=M[x]?.getD 0/\M[x]?.getD 0<((4*S.length:Nat):Int)/\M[x]?.getD 0≠(x:Int)/\M[mt M x]?.getD 0=(x:Int)/\outB S x≠outB S (mt M x):=by
  intro x hx
  have:=h6 x hx
  unfold mtB at this
  simpa [Bool.and_eq_true] using this
 have hlt:∀ x,x<M.length->mt M x<M.length:=by
  intro x hx
  have:=h7 x hx
  unfold mt
  omega
 refine ⟨h1,h2,h3,h4,?_,?_,hlt,?_,?_,?_⟩
 · intro i hi
   have:=h5 S[i] (List.getElem_mem hi)
   simpa [sgB] using this
 · intro x hx
   have:=(h7 x hx).1
   rw [getD_lt hx] at this;exact this
 · intro x hx e
   have:=h7 x hx
   unfold mt at e
   omega
 · intro x hx
   have h8:=(h7 x hx).2.2.2.1
   have:mt M (mt M x)=(M[mt M x]?.getD 0).toNat:=rfl
   rw [this,h8];omega
 · intro x hx;exact (h7 x hx).2.2.2.2
section
variable {S M:List Int} {L:Int} (k:Ok S M L)
include k
theorem Ok.rg:Rg M S.length:=⟨k.m,fun h hh=>by have:=k.lt h (by rw [k.m];exact hh);rw [k.m] at this;exact this⟩
theorem Ok.rh:Rh M M.length:=⟨by rw [k.m];omega,k.lt⟩
theorem Ok.perm:PermF M.length (phi M):=by
 have hl:∀ h,h<M.length->phi M h<M.length:=by
  intro h hh
  have h1:=k.lt h hh
  have h2:=k.m
  unfold phi turnN
  omega
 have hj:∀ a b,a<M.length->b<M.length->phi M a=phi M b->a=b:=by
  intro a b ha hb e
  have e1:mt M a=mt M b:=by
   unfold phi turnN at e
   omega
  have h3:=k.inv a ha
  have h4:=k.inv b hb
  rw [<- h3,e1,h4]
 constructor <;> first|exact hl|exact hj
end
end Go.Proofs.Ytfnmeigpfmeomaa
namespace Go.Proofs.Ytfnmeigpfmeomaa
set_option linter.unusedVariables false
def Dp (P:List Nat):Nat->Nat->Nat->Prop
 | 0,x,r=>gn P x=x/\r=x
 | n+1,x,r=>gn P x≠x/\Dp P n (gn P x) r
theorem Dp.root {P:List Nat}:∀ {n x r:Nat},Dp P n x r->gn P r=r
 | 0,_,_,h=>by obtain ⟨h1,rfl⟩:=h;exact h1
 | _+1,_,_,h=>Dp.root h.2
theorem Dp.uniq {P:List Nat}:∀ {n m x r s:Nat},Dp P n x r->Dp P m x s->n=m/\r=s
 | 0,0,_,_,_,h,k=>⟨rfl,h.2.trans k.2.symm⟩
 | 0,_+1,_,_,_,h,k=>absurd h.1 k.1
 | _+1,0,_,_,_,h,k=>absurd k.1 h.1
 | _+1,_+1,_,_,_,h,k=>by obtain ⟨h1,h2⟩:=Dp.uniq h.2 k.2;exact ⟨by omega,h2⟩
theorem Dp.lt {P:List Nat} {N:Nat} (hP:∀ x,x<N->gn P x<N):∀ {n x r:Nat},Dp P n x r->x<N->r<N
 | 0,_,_,h,hx=>by rw [h.2];exact hx
 | _+1,_,_,h,hx=>Dp.lt hP h.2 (hP _ hx)
theorem Dp.ne {P:List Nat} {n x r:Nat} (h:Dp P n x r) (hx:gn P x≠x):r≠x:=fun e=>by have:=h.root;rw [e] at this;exact hx this
structure Kp (P P':List Nat):Prop where
 len:P'.length=P.length
 dp:∀ x m r,Dp P m x r->∃ m',Dp P' m' x r
 lt:∀ N,(∀ x,x<N->gn P x<N)->∀ x,x<N->gn P' x<N
theorem Kp.refl (P:List Nat):Kp P P:=⟨rfl,fun _ m _ h=>⟨m,h⟩,fun _ h=>h⟩
theorem Kp.trans {P Q R:List Nat} (h:Kp P Q) (k:Kp Q R):Kp P R :=
 ⟨k.len.trans h.len,fun x m r hd=>by obtain ⟨m',h'⟩:=h.dp x m r hd;exact k.dp x m' r h',fun N hN=>k.lt N (h.lt N hN)⟩
theorem Kp.short {P:List Nat} {n x r:Nat} (hx:x<P.length) (h:Dp P n x r) (hne:gn P x≠x):Kp P (P.set x r):=by
 have hg:=fun c=>gn_set P x r c hx
 have hrx:r≠x:=h.ne hne
 refine ⟨by simp,?_,?_⟩
 · intro y m
   induction m generalizing y with
   | zero =>
    intro s hd
    refine ⟨0,?_,hd.2⟩
    rw [hg]
    by_cases e:y=x
    · subst e;exact absurd hd.1 hne
    · rw [if_neg e];exact hd.1
   | succ m ih =>
    intro s hd
    by_cases e:y=x
    · subst e
      have hs:=(Dp.uniq h hd).2
      subst hs
      have e1:gn (P.set y r) y=r:=by rw [hg,if_pos rfl]
      have e2:gn (P.set y r) r=r:=by rw [hg,if_neg hrx];exact h.root
      exact ⟨1,by rw [e1];exact hrx,by rw [e1];exact e2,by rw [e1]⟩
    · obtain ⟨m',h'⟩:=ih _ s hd.2
      refine ⟨m'+1,?_,?_⟩
      · rw [hg,if_neg e];exact hd.1
      · rw [hg,if_neg e];exact h'
 · intro N hN y hy
   rw [hg]
   split
   · rename_i e;subst e;exact h.lt hN hy
   · exact hN y hy
structure Fnd (P P':List Nat) (n:Nat):Prop where
 kp:Kp P P'
 deep:∀ y,(∀ m s,Dp P m y s->n<m)->gn P' y=gn P y
theorem Fnd.refl (P:List Nat):Fnd P P 0:=⟨Kp.refl P,fun _ _=>rfl⟩
theorem Fnd.stays {P P':List Nat} {n x r:Nat} (h:Fnd P P' n) (hne:gn P x≠x) (hd:Dp P n (gn P x) r):gn P' x=gn P x :=
 h.deep x fun m s hm=>by have:=(Dp.uniq (show Dp P (n+1) x r from ⟨hne,hd⟩) hm).1;omega
theorem Fnd.step {P P':List Nat} {n x r:Nat} (hx:x<P.length) (h:Fnd P P' n) (hne:gn P x≠x) (hd:Dp P n (gn P x) r):Fnd P (P'.set x r) (n+1):=by
 have h1:Dp P (n+1) x r:=⟨hne,hd⟩
 obtain ⟨m',h2⟩:=h.kp.dp x _ r h1
 have h3:gn P' x≠x:=by rw [h.stays hne hd];exact hne
 refine ⟨h.kp.trans (Kp.short (by rw [h.kp.len];exact hx) h2 h3),fun y hy=>?_⟩
 have hyx:y≠x:=fun e=>by subst e;have:=hy _ _ h1;omega
 rw [gn_set _ _ _ _ (by rw [h.kp.len];exact hx),if_neg hyx]
 exact h.deep y fun m s hm=>by have:=hy m s hm;omega
structure Fst (N:Nat) (P:List Nat):Prop where
 len:P.length=N
 lt:∀ x,x<N->gn P x<N
 ex:∀ x,x<N->∃ n r,Dp P n x r
theorem Fst.keep {N:Nat} {P P':List Nat} (h:Fst N P) (k:Kp P P'):Fst N P' :=
 ⟨k.len.trans h.len,k.lt N h.lt,fun x hx=>by obtain ⟨n,r,hd⟩:=h.ex x hx;obtain ⟨m,h'⟩:=k.dp x n r hd;exact ⟨m,r,h'⟩⟩
def Sm (P:List Nat) (x y:Nat):Prop:=∃ m m' r,Dp P m x r/\Dp P m' y r
theorem Sm.keep {P P':List Nat} {x y:Nat} (h:Sm P x y) (k:Kp P P'):Sm P' x y:=by
 obtain ⟨m,m',r,h1,h2⟩:=h
 obtain ⟨a,h3⟩:=k.dp _ _ _ h1
 obtain ⟨b,h4⟩:=k.dp _ _ _ h2
 exact ⟨a,b,r,h3,h4⟩
theorem Sm.symm {P:List Nat} {x y:Nat} (h:Sm P x y):Sm P y x:=by obtain ⟨m,m',r,h1,h2⟩:=h;exact ⟨m',m,r,h2,h1⟩
theorem Sm.trans {P:List Nat} {x y z:Nat} (h:Sm P x y) (k:Sm P y z):Sm P x z:=by
 obtain ⟨m,m',r,h1,h2⟩:=h
 obtain ⟨n,n',s,h3,h4⟩:=k
 have:=(Dp.uniq h2 h3).2
 subst this
 exact ⟨m,n',r,h1,h4⟩
theorem join_dp {P:List Nat} {a b:Nat} (ha:a<P.length) (hb:gn P b=b) (hab:a≠b):∀ {m y s:Nat},Dp P m y s->gn P a=a->∃ m',Dp (P.set a b) m' y (if s=a then b else s):=by
 have hg:=fun c=>gn_set P a b c ha
 intro m
 induction m with
 | zero =>
  intro y s hd haa
  obtain ⟨h1,rfl⟩:=hd
  by_cases e:s=a
  · subst e
    rw [if_pos rfl]
    have e1:gn (P.set s b) s=b:=by rw [hg,if_pos rfl]
    have e2:gn (P.set s b) b=b:=by rw [hg,if_neg (Ne.symm hab)];exact hb
    exact ⟨1,by rw [e1];exact Ne.symm hab,by rw [e1];exact e2,by rw [e1]⟩
  · rw [if_neg e]
    exact ⟨0,by rw [hg,if_neg e];exact h1,rfl⟩
 | succ m ih =>
  intro y s hd haa
  have e:y≠a:=fun e=>by subst e;exact hd.1 haa
  obtain ⟨m',h'⟩:=ih hd.2 haa
  exact ⟨m'+1,by rw [hg,if_neg e];exact hd.1,by rw [hg,if_neg e];exact h'⟩
structure UF (E:Nat->Nat->Prop) (N:Nat) (P:List Nat):Prop where
 fst:Fst N P
 snd:∀ x m r,x<N->Dp P m x r->Conn E x r
theorem UF.keep {E:Nat->Nat->Prop} {N:Nat} {P P':List Nat} (h:UF E N P) (k:Kp P P'):UF E N P':=by
 refine ⟨h.fst.keep k,fun x m r hx hd=>?_⟩
 obtain ⟨n,s,h1⟩:=h.fst.ex x hx
 obtain ⟨n',h2⟩:=k.dp x n s h1
 have:=(Dp.uniq h2 hd).2
 subst this
 exact h.snd x n s hx h1
theorem join_any {E:Nat->Nat->Prop} {N:Nat} {P:List Nat} {a b u v m m':Nat} (h:UF E N P) (hE:∀ x y,E x y->E y x) (hu:u<N) (hv:v<N) (he:Conn E u v) (h1:Dp P m u a) (h2:Dp P m' v b) :
 UF E N (P.set a b)/\Sm (P.set a b) u v/\∀ x y,Sm P x y->Sm (P.set a b) x y:=by
 have haN:=h1.lt h.fst.lt hu
 have hbN:=h2.lt h.fst.lt hv
 have ha:a<P.length:=by rw [h.fst.len];exact haN
 by_cases hab:a=b
 · subst hab
   have hs:P.set a a=P:=by
    apply List.ext_getElem?
    intro i
    rw [List.getElem?_set]
    by_cases e:a=i
    · subst e
      have:=h1.root
      unfold gn at this
      rw [List.getElem?_eq_getElem ha] at this ⊢
      simp at this ⊢
      simp [ha,this]
    · simp [e]
   rw [hs]
   exact ⟨h,⟨m,m',a,h1,h2⟩,fun _ _ k=>k⟩
 · have hj:=fun {m y s:Nat} (hd:Dp P m y s)=>join_dp ha h2.root hab hd h1.root
   have hsm:∀ x y,Sm P x y->Sm (P.set a b) x y:=by
    rintro x y ⟨n,n',r,h3,h4⟩
    obtain ⟨p,h5⟩:=hj h3
    obtain ⟨q,h6⟩:=hj h4
    exact ⟨p,q,_,h5,h6⟩
   have hself:Sm (P.set a b) u v:=by
    obtain ⟨p,h5⟩:=hj h1
    obtain ⟨q,h6⟩:=hj h2
    rw [if_pos rfl] at h5
    rw [if_neg (Ne.symm hab)] at h6
    exact ⟨p,q,b,h5,h6⟩
   refine ⟨⟨⟨by rw [List.length_set];exact h.fst.len,?_,?_⟩,?_⟩,hself,hsm⟩
   · intro x hx
     rw [gn_set _ _ _ _ ha]
     split
     · exact hbN
     · exact h.fst.lt x hx
   · intro x hx
     obtain ⟨n,r,hd⟩:=h.fst.ex x hx
     obtain ⟨p,h5⟩:=hj hd
     exact ⟨p,_,h5⟩
   · intro x n r hx hd
     obtain ⟨p,s,h5⟩:=h.fst.ex x hx
     obtain ⟨q,h6⟩:=hj h5
     have hr:=(Dp.uniq h6 hd).2
     have hxs:=h.snd x p s hx h5
     by_cases e:s=a
     · rw [if_pos e] at hr
       subst e hr
       have h7:=h.snd u m s hu h1
       have h8:=h.snd v m' b hv h2
       exact hxs.trans ((h7.symm hE).trans (he.trans h8))
     · rw [if_neg e] at hr
       subst hr;exact hxs
theorem uf_start (E:Nat->Nat->Prop) (N:Nat):UF E N (List.range N):=by
 have hg:∀ x,x<N->gn (List.range N) x=x:=fun x hx=>by unfold gn;rw [List.getElem?_range hx];rfl
 refine ⟨⟨by simp,fun x hx=>by rw [hg x hx];exact hx,fun x hx=>⟨0,x,hg x hx,rfl⟩⟩,fun x m r hx hd=>?_⟩
 have:=(Dp.uniq (show Dp (List.range N) 0 x x from ⟨hg x hx,rfl⟩) hd).2
 subst this;exact .refl _
section
variable {S M:List Int} {L:Int} (k:Ok S M L)
include k
theorem sees_symm (a b:Nat) (h:Sees M M.length a b):Sees M M.length b a:=by
 obtain ⟨hb,rfl|⟨h1,rfl⟩⟩:=h
 · exact ⟨k.lt b hb,Or.inl (k.inv b hb).symm⟩
 · refine ⟨opp_lt k.rh hb,Or.inr ⟨by unfold opp;omega,by unfold opp;omega⟩⟩
theorem sees_mate {h:Nat} (hh:h<M.length):Conn (Sees M M.length) h (mt M h):=.one ⟨k.lt h hh,Or.inl (k.inv h hh).symm⟩
theorem sees_over {c:Nat} (hc:c<S.length):Conn (Sees M M.length) (4*c+1) (4*c+3):=.one ⟨by rw [k.m];omega,Or.inr ⟨by omega,by unfold opp;omega⟩⟩
theorem uf_conn {P:List Nat} (h:UF (Sees M M.length) M.length P) (h1:∀ x,x<M.length->Sm P x (mt M x)) (h2:∀ c,c<S.length->Sm P (4*c+1) (4*c+3)) {x y:Nat} (hx:x<M.length) (hy:y<M.length):Sm P x y ↔ Conn (Sees M M.length) x y:=by
 constructor
 · rintro ⟨m,m',r,d1,d2⟩
   exact (h.snd x m r hx d1).trans ((h.snd y m' r hy d2).symm (sees_symm k))
 · intro hc
   have:=Conn.closed (P:=fun z=>z<M.length/\Sm P x z) ?_ hc ⟨hx,by obtain ⟨n,r,hd⟩:=h.fst.ex x hx;exact ⟨n,n,r,hd,hd⟩⟩
   · exact this.2
   · intro u v huv ⟨hu,hs⟩
     obtain ⟨hv,e|⟨ho,e⟩⟩:=huv
     · subst e
       exact ⟨hv,hs.trans (h1 v hv).symm⟩
     · refine ⟨hv,hs.trans ?_⟩
       have hc4:v/4<S.length:=by have:=k.m;omega
       rcases (by omega:v%4=1\/v%4=3) with q|q
       · have e1:v=4*(v/4)+1:=by omega
         have e2:u=4*(v/4)+3:=by rw [e];unfold opp;omega
         rw [e2,show Sm P (4*(v/4)+3) v=Sm P (4*(v/4)+3) (4*(v/4)+1) by rw [<- e1]]
         exact (h2 _ hc4).symm
       · have e1:v=4*(v/4)+3:=by omega
         have e2:u=4*(v/4)+1:=by rw [e];unfold opp;omega
         rw [e2,show Sm P (4*(v/4)+1) v=Sm P (4*(v/4)+1) (4*(v/4)+3) by rw [<- e1]]
         exact h2 _ hc4
theorem la_lt {x y:Nat} (hy:y<M.length) (h:Conn (Sees M M.length) x y):x<M.length:=by
 have:=Conn.closed (P:=fun z=>z<M.length) (fun u v e _=>((sees_symm k _ _ e).lt k.rh).1) (h.symm (sees_symm k)) hy
 exact this
theorem la_eq {x y:Nat} (hx:x<M.length) (hy:y<M.length):gn (labA M M.length M.length) x=gn (labA M M.length M.length) y ↔ Conn (Sees M M.length) x y:=by
 have cx:=labA_conn k.rh M.length x hx
 have cy:=labA_conn k.rh M.length y hy
 have sy:=fun {a b:Nat} (h:Conn (Sees M M.length) a b)=>h.symm (sees_symm k)
 constructor
 · intro e
   rw [e] at cx
   exact (sy cx).trans cy
 · intro h
   apply Nat.le_antisymm
   · exact labA_least k.rh (la_lt k hy cy) (cy.trans (sy h))
   · exact labA_least k.rh (la_lt k hx cx) (cx.trans h)
theorem la_le {x:Nat} (hx:x<M.length):gn (labA M M.length M.length) x<=x:=labA_least k.rh hx (.refl _)
theorem la_self {x:Nat} (hx:x<M.length):gn (labA M M.length M.length) (gn (labA M M.length M.length) x)=gn (labA M M.length M.length) x :=
 (la_eq k (la_lt k hx (labA_conn k.rh M.length x hx)) hx).2 (labA_conn k.rh M.length x hx)
end
def gi (l:List Int) (k:Nat):Int:=l[k]?.getD 0
theorem gi_set (l:List Int) (a:Nat) (x:Int) (c:Nat) (ha:a<l.length):gi (l.set a x) c=if c=a then x else gi l c:=by
 unfold gi
 rw [List.getElem?_set]
 by_cases h:a=c
 · subst h;simp [ha]
 · have h':¬ c=a:=fun e=>h e.symm
   simp [h,h']
def unl (l:List Int):Nat:=l.countP fun x=>decide (x<0)
theorem unl_set:∀ (l:List Int) (k:Nat) (x:Int),k<l.length->gi l k<0->0<=x->unl (l.set k x)+1=unl l
 | [],k,x,h,_,_=>by simp at h
 | y :: l,0,x,_,h1,h2=>by
  have h3:y<0:=h1
  have h4:¬ x<0:=by omega
  simp [unl,h3,h4]
 | y :: l,k+1,x,h,h1,h2=>by
  have:=unl_set l k x (by simpa using h) h1 h2
  unfold unl at this ⊢
  rw [List.set_cons_succ,List.countP_cons,List.countP_cons]
  omega
theorem unl_le (l:List Int):unl l<=l.length:=List.countP_le_length
structure PartO (M:List Int) (n:Nat) (pl:List Int) (p c:Nat):Prop where
 len:pl.length=n
 rng:∀ b,b<n->gi pl b = -1\/(0<=gi pl b/\gi pl b<(p:Int))
 clo:∀ a b,Ed M a b->0<=gi pl a->gi pl b=gi pl a
 root:∀ q,q<p->∃ r,r<n/\gi pl r=(q:Int)/\∀ b,b<n->gi pl b=(q:Int)->Conn (Ed M) r b
 low:∀ b,b<c->0<=gi pl b
structure BF (M:List Int) (n:Nat) (pl:List Int) (p c:Nat):Prop where
 len:pl.length=n
 cn:c<n
 rng:∀ b,b<n->gi pl b = -1\/(0<=gi pl b/\gi pl b<=(p:Int))
 old:∀ a b,Ed M a b->0<=gi pl a->gi pl a<(p:Int)->gi pl b=gi pl a
 root:∀ q,q<p->∃ r,r<n/\gi pl r=(q:Int)/\∀ b,b<n->gi pl b=(q:Int)->Conn (Ed M) r b
 conn:∀ b,b<n->gi pl b=(p:Int)->Conn (Ed M) c b
 cc:gi pl c=(p:Int)
 low:∀ b,b<c->0<=gi pl b
def Qu (n:Nat) (pl:List Int) (p:Nat) (q:List Nat):Prop:=∀ x,x∈q->x<n/\gi pl x=(p:Int)
def Wh (M:List Int) (n:Nat) (pl:List Int) (p:Nat) (q:List Nat):Prop:=Qu n pl p q/\∀ a,a<n->gi pl a=(p:Int)->a∈q\/∀ b,Ed M a b->gi pl b=(p:Int)
def Fo (M:List Int) (n:Nat) (pl:List Int) (p:Nat) (q:List Nat) (at' s:Nat):Prop :=
 Qu n pl p q/\at'<n/\gi pl at'=(p:Int)/\(∀ t,t<s->gi pl (mt M (4*at'+t)/4)=(p:Int))/\∀ a,a<n->gi pl a=(p:Int)->a∈q\/a=at'\/∀ b,Ed M a b->gi pl b=(p:Int)
section
variable {S M:List Int} {L:Int} (k:Ok S M L) {pl:List Int} {p c:Nat}
include k
theorem ed_at {a t:Nat} (ha:a<S.length) (ht:t<4):Ed M a (mt M (4*a+t)/4):=⟨4*a+t,by rw [k.m];omega,Or.inl ⟨by omega,rfl⟩⟩
theorem ed_of {a b:Nat} (h:Ed M a b):∃ t,t<4/\b=mt M (4*a+t)/4:=by
 obtain ⟨h,hh,⟨e1,e2⟩|⟨e1,e2⟩⟩:=h
 · refine ⟨h%4,Nat.mod_lt _ (by omega),?_⟩
   have:4*a+h%4=h:=by omega
   rw [this];exact e2
 · have hl:=k.lt h hh
   have hi:=k.inv h hh
   refine ⟨mt M h%4,Nat.mod_lt _ (by omega),?_⟩
   have:4*a+mt M h%4=mt M h:=by omega
   rw [this,hi];exact e1
omit k in
theorem bf_start (h:PartO M S.length pl p c) (hc:c<S.length) (hn:gi pl c<0):BF M S.length (pl.set c p) p c/\Wh M S.length (pl.set c p) p [c]:=by
 have hg:=fun x=>gi_set pl c (p:Int) x (by rw [h.len];exact hc)
 have hcm:gi pl c = -1:=by rcases h.rng c hc with q|q <;> omega
 refine ⟨⟨by rw [List.length_set];exact h.len,hc,?_,?_,?_,?_,?_,?_⟩,?_,?_⟩
 · intro b hb
   rw [hg]
   split
   · right;omega
   · rcases h.rng b hb with q|q
     · left;exact q
     · right;omega
 · intro a b hab h0 h1
   rw [hg] at h0 h1 ⊢
   by_cases ea:a=c
   · rw [if_pos ea] at h1;omega
   · rw [if_neg ea] at h0 h1
     have:=h.clo a b hab h0
     by_cases eb:b=c
     · subst eb;omega
     · rw [if_neg eb,hg,if_neg ea];exact this
 · intro q hq
   obtain ⟨r,hr,h1,h2⟩:=h.root q hq
   have hne:r≠c:=by intro e;subst e;omega
   refine ⟨r,hr,by rw [hg,if_neg hne];exact h1,?_⟩
   intro b hb h3
   rw [hg] at h3
   by_cases eb:b=c
   · rw [if_pos eb] at h3;omega
   · rw [if_neg eb] at h3;exact h2 b hb h3
 · intro b hb h3
   rw [hg] at h3
   by_cases eb:b=c
   · subst eb;exact .refl _
   · rw [if_neg eb] at h3
     rcases h.rng b hb with q|q <;> omega
 · rw [hg,if_pos rfl]
 · intro b hb
   rw [hg]
   split
   · omega
   · exact h.low b hb
 · intro x hx
   simp at hx
   subst hx
   exact ⟨hc,by rw [hg,if_pos rfl]⟩
 · intro a ha h3
   left
   rw [hg] at h3
   by_cases ea:a=c
   · simp [ea]
   · rw [if_neg ea] at h3
     rcases h.rng a ha with q|q <;> omega
omit k in
theorem wh_pop {q:List Nat} {a:Nat} {n:Nat} (h:Wh M n pl p (a :: q)):Fo M n pl p q a 0:=by
 refine ⟨fun x hx=>h.1 x (List.mem_cons_of_mem _ hx),(h.1 a (by simp)).1,(h.1 a (by simp)).2,fun t ht=>by omega,fun b hb h3=>?_⟩
 rcases h.2 b hb h3 with h4|h4
 · rcases List.mem_cons.1 h4 with h5|h5
   · exact Or.inr (Or.inl h5)
   · exact Or.inl h5
 · exact Or.inr (Or.inr h4)
theorem fo_old {q:List Nat} {a s:Nat} (hb:BF M S.length pl p c) (h:Fo M S.length pl p q a s) (hs:s<4) (h0:0<=gi pl (mt M (4*a+s)/4)):Fo M S.length pl p q a (s+1):=by
 refine ⟨h.1,h.2.1,h.2.2.1,fun t ht=>?_,h.2.2.2.2⟩
 rcases Nat.lt_or_ge t s with ht2|ht2
 · exact h.2.2.2.1 t ht2
 · have:t=s:=by omega
   subst this
   have he:=ed_at k h.2.1 hs
   have hl:=(he.lt k.rg).2
   rcases hb.rng _ hl with h1|⟨h1,h2⟩
   · omega
   · rcases Int.lt_or_eq_of_le h2 with h3|h3
     · have:=hb.old _ _ he.symm h1 h3
       have h4:=h.2.2.1
       omega
     · exact h3
theorem fo_new {q:List Nat} {a s:Nat} (hb:BF M S.length pl p c) (h:Fo M S.length pl p q a s) (hs:s<4) (h0:gi pl (mt M (4*a+s)/4)<0) :
 BF M S.length (pl.set (mt M (4*a+s)/4) p) p c/\Fo M S.length (pl.set (mt M (4*a+s)/4) p) p (q ++ [mt M (4*a+s)/4]) a (s+1):=by
 have he:=ed_at k h.2.1 hs
 have hl:=(he.lt k.rg).2
 generalize hy:mt M (4*a+s)/4=y at *
 have hg:=fun x=>gi_set pl y (p:Int) x (by rw [hb.len];exact hl)
 have keep:∀ x,x<S.length->gi pl x=(p:Int)->gi (pl.set y p) x=(p:Int):=by
  intro x _ hx2
  rw [hg];split
  · rfl
  · exact hx2
 have keep0:∀ x,gi pl x=(p:Int)->gi (pl.set y p) x=(p:Int):=by
  intro x hx2
  rw [hg];split
  · rfl
  · exact hx2
 have hcy:Conn (Ed M) c y:=(hb.conn a h.2.1 h.2.2.1).step he
 refine ⟨⟨by rw [List.length_set];exact hb.len,hb.cn,?_,?_,?_,?_,?_,?_⟩,?_,h.2.1,keep a h.2.1 h.2.2.1,?_,?_⟩
 · intro b hbn
   rw [hg]
   split
   · right;omega
   · exact hb.rng b hbn
 · intro u v huv h1 h2
   rw [hg] at h1 h2 ⊢
   by_cases eu:u=y
   · rw [if_pos eu] at h2;omega
   · rw [if_neg eu] at h1 h2
     have:=hb.old u v huv h1 h2
     by_cases ev:v=y
     · subst ev;omega
     · rw [if_neg ev,hg,if_neg eu];exact this
 · intro r hr
   obtain ⟨x,hx,h1,h2⟩:=hb.root r hr
   have hne:x≠y:=by intro e;subst e;omega
   refine ⟨x,hx,by rw [hg,if_neg hne];exact h1,?_⟩
   intro b hbn h3
   rw [hg] at h3
   by_cases eb:b=y
   · rw [if_pos eb] at h3;omega
   · rw [if_neg eb] at h3;exact h2 b hbn h3
 · intro b hbn h3
   rw [hg] at h3
   by_cases eb:b=y
   · subst eb;exact hcy
   · rw [if_neg eb] at h3;exact hb.conn b hbn h3
 · exact keep0 c hb.cc
 · intro b hbn
   rw [hg]
   split
   · omega
   · exact hb.low b hbn
 · intro x hx
   rcases List.mem_append.1 hx with h1|h1
   · exact ⟨(h.1 x h1).1,keep0 x (h.1 x h1).2⟩
   · simp at h1
     subst h1
     exact ⟨hl,by rw [hg,if_pos rfl]⟩
 · intro t ht
   rcases Nat.lt_or_ge t s with ht2|ht2
   · exact keep0 _ (h.2.2.2.1 t ht2)
   · have:t=s:=by omega
     subst this
     rw [hy,hg,if_pos rfl]
 · intro b hbn h3
   rw [hg] at h3
   by_cases eb:b=y
   · left;simp [eb]
   · rw [if_neg eb] at h3
     rcases h.2.2.2.2 b hbn h3 with h4|h4|h4
     · left;simp [h4]
     · right;left;exact h4
     · right;right
       intro v hv
       exact keep0 v (h4 v hv)
theorem fo_end {q:List Nat} {a:Nat} (h:Fo M S.length pl p q a 4):Wh M S.length pl p q:=by
 refine ⟨h.1,fun b hb h3=>?_⟩
 rcases h.2.2.2.2 b hb h3 with h4|h4|h4
 · exact Or.inl h4
 · right
   subst h4
   intro v hv
   obtain ⟨t,ht,e⟩:=ed_of k hv
   rw [e];exact h.2.2.2.1 t ht
 · exact Or.inr h4
theorem wh_end (hb:BF M S.length pl p c) (h:Wh M S.length pl p []):PartO M S.length pl (p+1) (c+1):=by
 refine ⟨hb.len,?_,?_,?_,?_⟩
 · intro b hbn
   rcases hb.rng b hbn with q|q
   · exact Or.inl q
   · right;omega
 · intro a b hab h0
   have hl:=hab.lt k.rg
   rcases hb.rng a hl.1 with q|⟨q1,q2⟩
   · omega
   · rcases Int.lt_or_eq_of_le q2 with q3|q3
     · exact hb.old a b hab h0 q3
     · rcases h.2 a hl.1 q3 with h4|h4
       · simp at h4
       · rw [h4 b hab,q3]
 · intro q hq
   rcases Nat.lt_or_ge q p with hq2|hq2
   · exact hb.root q hq2
   · have:q=p:=by omega
     subst this
     exact ⟨c,hb.cn,hb.cc,hb.conn⟩
 · intro b hbc
   rcases Nat.lt_or_ge b c with h1|h1
   · exact hb.low b h1
   · have:b=c:=by omega
     subst this
     rw [hb.cc];omega
end
end Go.Proofs.Ytfnmeigpfmeomaa
namespace Go.Proofs.Ytfnmeigpfmeomaa
open Go.RowKit
set_option linter.unusedVariables false
def QI (e:TypeId) (base:Nat) (w:World) (v:Value) (xs:List Int):Prop :=
 ∃ g o c cur,v=.slice (some ⟨g,o,none⟩) xs.length c/\base<=g/\w.heap[g]? = some (.cells cur e (0,0))/\xs.length<=c/\o+c<=cur.size/\∀ k x,xs[k]? = some x->cur[o+k]? = some (.int .i64 x)
section
variable {e:TypeId} {base:Nat} {w w':World} {v:Value} {xs:List Int}
theorem QI.one (w:World) (e:TypeId) (base:Nat) (hb:base<=w.heap.size) (x:Int):QI e base (w.alloc (.cells #[.int .i64 x] e)) (.slice (some ⟨w.heap.size,0,none⟩) 1 1) [x]:=by
 refine ⟨w.heap.size,0,1,#[.int .i64 x],rfl,hb,heap_alloc_new w _,Nat.le_refl _,Nat.le_refl _,?_⟩
 intro k y hk
 have hk0:k=0:=by have:=(List.getElem?_eq_some_iff.1 hk).1;simp at this;exact this
 subst hk0
 simp at hk;subst hk;rfl
theorem QI.lt {g o n c:Nat} (h:QI e base w (.slice (some ⟨g,o,none⟩) n c) xs):base<=g/\g<w.heap.size:=by
 obtain ⟨g',o',c',cur,hv,hb,hg,_⟩:=h
 injection hv with h1 h2 h3
 injection h1 with h1
 injection h1 with h1
 subst h1
 refine ⟨hb,?_⟩
 rcases Nat.lt_or_ge g w.heap.size with hlt|hge
 · exact hlt
 · rw [Array.getElem?_eq_none hge] at hg;cases hg
theorem QI.keep (h:QI e base w v xs) (hk:∀ g o n c,v=.slice (some ⟨g,o,none⟩) n c->w'.heap[g]? = w.heap[g]?):QI e base w' v xs:=by
 obtain ⟨g,o,c,cur,hv,hb,hg,r⟩:=h
 exact ⟨g,o,c,cur,hv,hb,(hk g o _ c hv).trans hg,r⟩
theorem QI.alloc (h:QI e base w v xs) (ob:Obj):QI e base (w.alloc ob) v xs:=by
 obtain ⟨g,o,c,cur,hv,hb,hg,r⟩:=h
 refine ⟨g,o,c,cur,hv,hb,?_,r⟩
 have hlt:g<w.heap.size:=by
  rcases Nat.lt_or_ge g w.heap.size with hlt|hge
  · exact hlt
  · rw [Array.getElem?_eq_none hge] at hg;cases hg
 rw [Below.heap_alloc w ob g hlt];exact hg
theorem QI.head {x:Int} (h:QI e base w v (x :: xs)):∃ g o c,v=.slice (some ⟨g,o,none⟩) (xs.length+1) c/\xs.length+1<=c/\w.cell? ⟨g,o,none⟩=some (.int .i64 x):=by
 obtain ⟨g,o,c,cur,hv,hb,hg,hc,hs,hx⟩:=h
 refine ⟨g,o,c,hv,hc,?_⟩
 rw [cell_of_row w g o cur e (0,0) hg]
 exact hx 0 x rfl
theorem QI.tail {x:Int} {g o n c:Nat} (h:QI e base w (.slice (some ⟨g,o,none⟩) n c) (x :: xs)) (A:Option Addr) (hA:A=some ⟨g,o,none⟩/\c-1=0\/A=some ⟨g,o+1,none⟩):QI e base w (.slice A (n-1) (c-1)) xs:=by
 obtain ⟨g',o',c',cur,hv,hb,hg,hc,hs,hx⟩:=h
 injection hv with h1 h2 h3
 injection h1 with h1
 injection h1 with h1 h4
 subst h1 h2 h3 h4
 simp only [List.length_cons] at hc ⊢
 rcases hA with ⟨rfl,hA⟩|rfl
 · refine ⟨g,o,c-1,cur,by simp,hb,hg,by omega,by omega,fun k y hk=>?_⟩
   have:=(List.getElem?_eq_some_iff.1 hk).1;omega
 · refine ⟨g,o+1,c-1,cur,by simp,hb,hg,by omega,by omega,fun k y hk=>?_⟩
   have:=hx (k+1) y (by simpa using hk)
   rw [Nat.add_assoc,Nat.add_comm 1 k];exact this
theorem run_appQ {P:Program} {t ty:TypeId} {i:TypeInfo} (ht:P.underlying t=some (.slice e)) (hi:P.info? e=some i) (hz:i.zero=some (.int .i64 0)) (hs:i.size=1) (hby:i.bytes=8)
 (h:QI e base w v xs) {b:Nat} {x:Int} (hu:w.cell? ⟨b,0,none⟩=some (.int .i64 x)) (hlen:xs.length<=1000000) (hbase:base<=w.heap.size) :
 ∃ v' w',(Builtin.append_ #[t,t] ty #[v,.slice (some ⟨b,0,none⟩) 1 1]).run P w=.ok v' w'/\QI e base w' v' (xs ++ [x])/\Below base w w' /\
  (∀ k,k<w.heap.size->(∀ g o n c,v=.slice (some ⟨g,o,none⟩) n c->g≠k)->w'.heap[k]? = w.heap[k]?)/\w.heap.size<=w'.heap.size /\
  (∀ g o n c,v'=.slice (some ⟨g,o,none⟩) n c->(∃ o n c,v=.slice (some ⟨g,o,none⟩) n c)\/w.heap.size<=g):=by
 obtain ⟨g,o,c,cur,rfl,hb,hg,hc,hsz,hx⟩:=h
 have hcells:∀ j u,[Value.int .i64 x][j]? = some u->w.cell? ((⟨b,0,none⟩:Addr).add j)=some u:=by
  intro j u hj
  have hj0:j=0:=by have:=(List.getElem?_eq_some_iff.1 hj).1;simp at this;exact this
  subst hj0
  simp at hj;subst hj
  have:(⟨b,0,none⟩:Addr).add 0=⟨b,0,none⟩:=by unfold Addr.add;split <;> simp_all
  rw [this];exact hu
 have hlt:g<w.heap.size:=by
  rcases Nat.lt_or_ge g w.heap.size with hlt|hge
  · exact hlt
  · rw [Array.getElem?_eq_none hge] at hg;cases hg
 have src:Src P i.size t (.slice (some ⟨b,0,none⟩) 1 1) 1 [Value.int .i64 x] w:=Src.ofSlice w ht _ 1 1 _ (by rw [hs];rfl) hcells (by intro u hu;simp at hu;subst hu;rfl)
 by_cases hroom:xs.length+1<=c
 · have hin:o+xs.length<cur.size:=by omega
   have hcell:w.cell? ⟨g,o+xs.length,none⟩=some cur[o+xs.length]:=by
    rw [cell_of_row w g _ cur e (0,0) hg,Array.getElem?_eq_getElem hin]
   have hfr:w.frozen? ⟨g,o+xs.length,none⟩=false:=frozen_of_row w g _ cur e hg
   have hr:=run_append_room_src (P:=P) w t t ty e i ht hi g o xs.length c (.slice (some ⟨b,0,none⟩) 1 1) 1 [Value.int .i64 x] src hroom
    (by intro j hj;simp at hj;subst hj;rw [hs,Nat.mul_one,Nat.add_zero,hcell];rfl) (by intro j hj;simp at hj;subst hj;rw [hs,Nat.mul_one,Nat.add_zero];exact hfr)
   rw [hs,Nat.mul_one] at hr
   have hset:w.setCells g (o+xs.length) [Value.int .i64 x]=w.setCell ⟨g,o+xs.length,none⟩ (.int .i64 x):=rfl
   rw [hset] at hr
   refine ⟨_,_,hr,⟨g,o,c,cur.setIfInBounds (o+xs.length) (.int .i64 x),by simp,hb,?_,by simp;omega,by simpa using hsz,?_⟩,(Below.refl _ _).setCell (p:=⟨g,o+xs.length,none⟩) hb _,?_,?_,?_⟩
   · rw [heap_setCell_same w g _ cur e _ hg]
   · intro k y hk
     rcases Nat.lt_or_ge k xs.length with hk1|hk1
     · rw [List.getElem?_append_left hk1] at hk
       have:=hx k y hk
       rw [Array.getElem?_setIfInBounds,if_neg (by omega)];exact this
     · rw [List.getElem?_append_right hk1] at hk
       have hk0:k-xs.length=0:=by have:=(List.getElem?_eq_some_iff.1 hk).1;simp at this;omega
       rw [hk0] at hk
       simp at hk;subst hk
       have:k=xs.length:=by omega
       subst this
       rw [Array.getElem?_setIfInBounds,if_pos rfl]
       simp [hin]
   · intro k hk hne
     exact Below.heap_setCell w ⟨g,o+xs.length,none⟩ _ k (fun e=>hne g o _ c rfl e.symm)
   · exact ((Below.refl base w).setCell (p:=⟨g,o+xs.length,none⟩) hb (.int .i64 x)).size
   · intro g' o' n' c' hv
     injection hv with h1
     injection h1 with h1
     injection h1 with h1
     subst h1
     exact Or.inl ⟨_,_,_,rfl⟩
 · have hold:∀ j u,(xs.map (Value.int .i64))[j]? = some u->w.cell? ((⟨g,o,none⟩:Addr).add j)=some u:=by
    intro j u hj
    rw [List.getElem?_map] at hj
    cases hy:xs[j]? with
    | none=>rw [hy] at hj;cases hj
    | some y =>
     rw [hy] at hj
     injection hj with hj
     have:(⟨g,o,none⟩:Addr).add j=⟨g,o+j,none⟩:=by unfold Addr.add;split <;> simp_all
     rw [this,<- hj,cell_of_row w g _ cur e (0,0) hg]
     exact hx j y hy
   have hncap:Builtin.nextslicecap (xs.length+1) c*i.bytes<=281474976710656:=by
    have:=nextslicecap_le (need:=xs.length+1) (old:=c) (by omega)
    rw [hby];omega
   have hr:=run_append_grow (P:=P) w t ty e i (.int .i64 0) ht hi hz ⟨g,o,none⟩ xs.length c (xs.map (Value.int .i64)) (by rw [hs];simp) hold ⟨b,0,none⟩ 1 1 [Value.int .i64 x] (by rw [hs];rfl) hcells (by omega) (by omega) hncap
   have hge:xs.length+1<=grownCap w (xs.length+1) c e:=grownCap_ge w _ _ _
   refine ⟨_,_,hr,⟨w.heap.size,0,_,_,by simp;rfl,hbase,heap_alloc_new w.drew _,by simp;exact hge,?_,?_⟩,Below.alloc (a:=w) (w:=w.drew) (bdrewN (Below.refl _ _) 1) hbase _,?_,?_,?_⟩
   · rw [Array.size_append,size_zeroCells]
     have:(Value.int .i64 0).cells.size=1:=rfl
     rw [this];simp;omega
   · intro k y hk
     have hk2:k<xs.length+1:=by have:=(List.getElem?_eq_some_iff.1 hk).1;simpa using this
     rw [Nat.zero_add,Array.getElem?_append_left (by simp;omega)]
     have h3:((xs ++ [x]).map (Value.int .i64))[k]? = some (.int .i64 y):=by rw [List.getElem?_map,hk];rfl
     rw [List.map_append] at h3
     simpa using h3
   · intro k hk hne
     exact Below.heap_alloc w.drew _ k hk
   · exact Nat.le_trans (Nat.le_succ _) (by simp [World.alloc])
   · intro g' o' n' c' hv
     injection hv with h1
     injection h1 with h1
     injection h1 with h1
     subst h1
     exact Or.inr (Nat.le_refl _)
end
section
variable {P:Program} {w:World} {e:TypeId} {base:Nat} {v:Value} {xs:List Int}
theorem wp_appQ {o:Oper} {a:Act} {K:Act->World->Prop} {Q:Exit->Act->World->Prop} (s x:Operand) (t:TypeId) (ho:o.op=.call { callee:=.builtin .append,args:=#[s,x],argTypes:=#[t,t] })
 {i:TypeInfo} (ht:P.underlying t=some (.slice e)) (hi:P.info? e=some i) (hz:i.zero=some (.int .i64 0)) (hs:i.size=1) (hby:i.bytes=8)
 (hv:a.eval s=v) (h:QI e base w v xs) {b:Nat} {y:Int} (hx:a.eval x=.slice (some ⟨b,0,none⟩) 1 1) (hu:w.cell? ⟨b,0,none⟩=some (.int .i64 y)) (hlen:xs.length<=1000000) (hbase:base<=w.heap.size)
 (hK:∀ v' w',QI e base w' v' (xs ++ [y])->Below base w w'->(∀ k,k<w.heap.size->(∀ g o n c,v=.slice (some ⟨g,o,none⟩) n c->g≠k)->w'.heap[k]? = w.heap[k]?)->w.heap.size<=w'.heap.size ->
  (∀ g o n c,v'=.slice (some ⟨g,o,none⟩) n c->(∃ o n c,v=.slice (some ⟨g,o,none⟩) n c)\/w.heap.size<=g)->K (a.put o.dst v') w'):o.wp P a w K Q:=by
 obtain ⟨v',w',hrun,h1,h2,h3,h4,h5⟩:=run_appQ (P:=P) (ty:=o.type) ht hi hz hs hby h hu hlen hbase
 unfold Oper.wp execOp
 simp only [ho,resolve,invoke,builtin,Sem.run_bind,Sem.run_pure,Result.andThen_ok,List.map_toArray,List.map_cons,List.map_nil,hv,hx,hrun]
 exact hK v' w' h1 h2 h3 h4 h5
theorem wpList_appQ {ops:Array Oper} {rest:List Oper} {o:Oper} {a:Act} {Q:Exit->Act->World->Prop} (hgd:o.guard=none) (s x:Operand) (t:TypeId) (ho:o.op=.call { callee:=.builtin .append,args:=#[s,x],argTypes:=#[t,t] })
 {i:TypeInfo} (ht:P.underlying t=some (.slice e)) (hi:P.info? e=some i) (hz:i.zero=some (.int .i64 0)) (hs:i.size=1) (hby:i.bytes=8)
 (hv:a.eval s=v) (h:QI e base w v xs) {b:Nat} {y:Int} (hx:a.eval x=.slice (some ⟨b,0,none⟩) 1 1) (hu:w.cell? ⟨b,0,none⟩=some (.int .i64 y)) (hlen:xs.length<=1000000) (hbase:base<=w.heap.size)
 (hK:∀ v' w',QI e base w' v' (xs ++ [y])->Below base w w'->(∀ k,k<w.heap.size->(∀ g o n c,v=.slice (some ⟨g,o,none⟩) n c->g≠k)->w'.heap[k]? = w.heap[k]?)->w.heap.size<=w'.heap.size ->
  (∀ g o n c,v'=.slice (some ⟨g,o,none⟩) n c->(∃ o n c,v=.slice (some ⟨g,o,none⟩) n c)\/w.heap.size<=g)->wpList P ops Q rest (a.put o.dst v') w'):wpList P ops Q (o :: rest) a w :=
 wpList_plain hgd fun _ hk=>wp_appQ s x t ho ht hi hz hs hby hv h hx hu hlen hbase fun v' w' h1 h2 h3 h4 h5=>hk _ _ (hK v' w' h1 h2 h3 h4 h5)
end
def ic (l:List Int):List Value:=l.map (Value.int .i64)
theorem ic_get {l:List Int} {i:Nat} (h:i<l.length):(ic l)[i]? = some (.int .i64 (gi l i)):=by
 unfold ic gi;rw [List.getElem?_map,List.getElem?_eq_getElem h];rfl
theorem ic_set (l:List Int) (i:Nat) (x:Int):(ic l).set i (.int .i64 x)=ic (l.set i x):=by unfold ic;rw [List.map_set]
def mi (n k:Nat):List Int:=(List.range n).map fun i=>if i<k then -1 else 0
theorem mi_length (n k:Nat):(mi n k).length=n:=by simp [mi]
theorem mi_zero (n:Nat):ic (mi n 0)=List.replicate n (.int .i64 0):=by
 apply List.ext_getElem?
 intro i
 unfold ic mi
 simp [List.getElem?_replicate]
 by_cases h:i<n <;> simp [h]
theorem mi_step {n k:Nat} (h:k<n):(mi n k).set k (-1)=mi n (k+1):=by
 apply List.ext_getElem?
 intro i
 unfold mi
 rw [List.getElem?_set]
 by_cases e:k=i
 · subst e;simp [h]
 · by_cases hi:i<n
   · simp [e,hi]
     by_cases h1:i<k
     · rw [if_pos h1,if_pos (by omega)]
     · rw [if_neg h1,if_neg (by omega)]
   · simp [e,hi]
theorem gi_mi {n k i:Nat} (hi:i<n):gi (mi n k) i=if i<k then -1 else 0:=by
 unfold gi mi;rw [List.getElem?_map,List.getElem?_range hi];rfl
theorem part_start {S M:List Int} {L:Int} (k:Ok S M L):PartO M S.length (mi S.length S.length) 0 0:=by
 refine ⟨mi_length _ _,?_,?_,?_,?_⟩
 · intro b hb;left;rw [gi_mi hb,if_pos hb]
 · intro a b hab h0
   have hl:=hab.lt k.rg
   rw [gi_mi hl.1,if_pos hl.1] at h0;omega
 · intro q hq;omega
 · intro b hb;omega
theorem part_next {M pl:List Int} {n p c:Nat} (h:PartO M n pl p c) (h0:0<=gi pl c):PartO M n pl p (c+1) :=
 ⟨h.len,h.rng,h.clo,h.root,fun b hb=>by
  rcases Nat.lt_or_ge b c with q|q
  · exact h.low b q
  · have:b=c:=by omega
    subst this;exact h0⟩
theorem QI.far {e:TypeId} {base:Nat} {w:World} {v:Value} {xs:List Int} (h:QI e base w v xs) {p:Addr} (hp:p.block<base) (u:Value):QI e base (w.setCell p u) v xs:=by
 obtain ⟨g,o,c,cur,hv,hb,hg,r⟩:=h
 exact ⟨g,o,c,cur,hv,hb,(Below.heap_setCell w p u g (by omega)).trans hg,r⟩
def qi (q:List Nat):List Int:=q.map fun x=>Int.ofNat x
theorem qi_snoc (q:List Nat) (a:Nat):qi q ++ [(a:Int)]=qi (q ++ [a]):=by simp [qi]
theorem qi_length (q:List Nat):(qi q).length=q.length:=by simp [qi]
set_option maxHeartbeats 4000000 in
set_option maxRecDepth 100000 in
theorem label_code (vs vm:Value) (S M:List Int) (L:Int) (w:World) (hS:Ints w vs S) (hM:Ints w vm M) (k:Ok S M L) :
 Calls Try.prog 51 #[.agg #[vs,vm,.int .i64 L]] w fun e w'=>∃ g pl p,e=.returned (.tuple #[.slice (some ⟨g,0,none⟩) S.length S.length,.int .i64 (p:Nat)])/\w.heap.size<=g/\Arr w' g 3 (ic pl)/\PartO M S.length pl p S.length/\p<=S.length/\Below w.heap.size w w':=by
 obtain ⟨i0,hi0,hz0,hz1,hz2⟩:=info_parts info_int
 have hn:=k.n
 have hmk:=fun W=>run_make_one (P:=Try.prog) 22 3 i0 (.int .i64 0) Try.underlying22 hi0 hz0 hz1 rfl (by rw [hz2];decide) S.length (by omega) W
 have hM0:=hM
 obtain ⟨A,c,rfl,hc,hx⟩:=hS
 obtain ⟨A2,c2,rfl,hc2,hx2⟩:=hM
 have T2:=Lib.hid k.m
 have KK:=Lib.hid k
 have hml:M.length<=256:=by have:=k.m;omega
 clear hx hx2 k
 go_enter Try.func51,Try.ntmps51
 go_upto_region 1 with fail
 have hW:Arr (w.alloc (.cells #[.slice A S.length c,.slice A2 M.length c2,.int .i64 L] 24)) w.heap.size 24 [.slice A S.length c,.slice A2 M.length c2,.int .i64 L]/\Below w.heap.size w (w.alloc (.cells #[.slice A S.length c,.slice A2 M.length c2,.int .i64 L] 24)):=⟨Arr.new w _ _,(Below.refl _ _).alloc (Nat.le_refl _) _⟩
 generalize (w.alloc (.cells #[.slice A S.length c,.slice A2 M.length c2,.int .i64 L] 24))=w4 at hW ⊢
 obtain ⟨q0,hb4⟩:=hW
 have y0:=q0.cell 0
 go_wp2_with fail
 have hW:Arr (w4.alloc (.cells (rowOf (List.replicate S.length (Value.int .i64 0))) 3)) w4.heap.size 3 (ic (mi S.length 0))/\Arr (w4.alloc (.cells (rowOf (List.replicate S.length (Value.int .i64 0))) 3)) w.heap.size 24 [.slice A S.length c,.slice A2 M.length c2,.int .i64 L]/\Below w.heap.size w (w4.alloc (.cells (rowOf (List.replicate S.length (Value.int .i64 0))) 3)) :=
  ⟨by rw [mi_zero];exact Arr.new w4 _ _,q0.alloc _,hb4.alloc hb4.size _⟩
 have lw:=q0.lt
 clear y0 q0 hb4 hmk
 generalize hB:w4.heap.size=B at *
 generalize w4.alloc (.cells (rowOf (List.replicate S.length (Value.int .i64 0))) 3)=w5 at hW ⊢
 clear hB
 obtain ⟨a0,p0,hb5⟩:=hW
 go_loopg [5,18] S.length (fun gk s5 s18 wr=>∃ k:Nat,k<=S.length/\gk=S.length-k/\s18=.int .i64 (k:Int)/\Arr wr B 3 (ic (mi S.length k))/\Arr wr w.heap.size 24 [.slice A S.length c,.slice A2 M.length c2,.int .i64 L]/\Below w.heap.size w wr)
 case atStart=>exact ⟨0,Nat.zero_le _,rfl,rfl,a0,p0,hb5⟩
 case round =>
  clear a0 p0 hb5
  obtain ⟨k,hk,rfl,rfl,a0,p0,hb5⟩:=hrel
  by_cases hlt:k<S.length
  · have z1:(k:Int)<(S.length:Int):=by omega
    have zc:=(a0.cell k).trans (ic_get (by rw [mi_length];exact hlt))
    have zf:=a0.frozen k
    go_wp2_with fail
    go_roundg (S.length-(k+1))
    case measure=>omega
    case rel=>exact ⟨k+1,by omega,rfl,by go_num,by rw [<- mi_step hlt,<- ic_set];exact a0.set k _,p0.far (p:=⟨B,k,none⟩) (Nat.ne_of_lt lw) _,hb5.setCell (p:=⟨B,k,none⟩) (Nat.le_of_lt lw) _⟩
  · have z1:¬ ((k:Int)<(S.length:Int)):=by omega
    have a1:Arr wr B 3 (ic (mi S.length S.length)):=by
     have hkn:k=S.length:=by omega
     rw [hkn] at a0;exact a0
    clear a0
    go_wp2_with fail
    obtain ⟨wo,rfl⟩:∃ wo:World,wo=wr:=⟨_,rfl⟩
    go_loopg [6,7,8,9,10,11,27,49] S.length (fun gk s6 s7 s8 s9 s10 s11 s27 s49 wi=>∃ (c' p:Nat) (pl:List Int),c'<=S.length/\p<=c'/\gk=S.length-c'/\s27=.int .i64 (c':Int)/\s6=.int .i64 (p:Int)/\Arr wi B 3 (ic pl)/\Arr wi w.heap.size 24 [.slice A S.length c,.slice A2 M.length c2,.int .i64 L]/\Below w.heap.size w wi/\Hid (PartO M S.length pl p c'))
    case atStart=>exact ⟨0,0,_,Nat.zero_le _,Nat.le_refl _,rfl,rfl,rfl,a1,p0,hb5,Lib.hid (part_start KK.out)⟩
    case round =>
     clear a1 p0 hb5 hlt hk z1
     obtain ⟨x,p,pl,hx,hpx,rfl,rfl,rfl,a1,p0,hb5,HP⟩:=hrel
     have hpl:=HP.out.len
     by_cases hlt:x<S.length
     · have z1:(x:Int)<(S.length:Int):=by omega
       have zc:=(a1.cell x).trans (ic_get (by omega))
       have zf:=a1.frozen x
       by_cases hg0:0<=gi pl x
       · have HP2:=Lib.hid (part_next HP.out hg0)
         generalize gi pl x=y at *
         have hg1:y >= 0:=hg0
         go_wp2_with fail
         go_roundg (S.length-(x+1))
         case measure=>omega
         case rel=>exact ⟨x+1,p,pl,by omega,by omega,rfl,by go_num,rfl,a1,p0,hb5,HP2⟩
       · have hg1:¬ (gi pl x >= 0):=hg0
         have HS:=Lib.hid (bf_start HP.out hlt (by omega))
         clear hg0 HP
         generalize gi pl x=y at *
         go_wp2_with fail
         have lB:=a1.lt
         have hsz:=((Below.refl 0 wr).setCell (p:=⟨B,x,none⟩) (Nat.zero_le _) (.int .i64 (p:Int))).size
         have hse:(wr.setCell ⟨B,x,none⟩ (.int .i64 (p:Int))).heap.size=wr.heap.size:=by simp
         have hW:∀ W,W=(wr.setCell ⟨B,x,none⟩ (.int .i64 (p:Int))).alloc (.cells #[.int .i64 (x:Int)] 3)->Arr W B 3 (ic (pl.set x (p:Int)))/\Arr W w.heap.size 24 [.slice A S.length c,.slice A2 M.length c2,.int .i64 L]/\Below w.heap.size w W/\QI 3 (B+1) W (.slice (some ⟨wr.heap.size,0,none⟩) 1 1) (qi [x]):=by
          intro W hW
          subst hW
          refine ⟨?_,((p0.far (p:=⟨B,x,none⟩) (Nat.ne_of_lt lw) _).alloc _),((hb5.setCell (p:=⟨B,x,none⟩) (Nat.le_of_lt lw) _).alloc (Nat.le_trans hb5.size hsz) _),?_⟩
          · rw [<- ic_set];exact (a1.set x _).alloc _
          · have:=QI.one (wr.setCell ⟨B,x,none⟩ (.int .i64 (p:Int))) 3 (B+1) (by omega) (x:Int)
            rw [hse] at this;exact this
         generalize hWW:(wr.setCell ⟨B,x,none⟩ (.int .i64 (p:Int))).alloc (.cells #[.int .i64 (x:Int)] 3)=W at *
         obtain ⟨a2,p2,hb2,q2⟩:=hW W rfl
         generalize wr.heap.size=G at *
         have lB2:B+1<=W.heap.size:=a2.lt
         have hl2:(pl.set x (p:Int)).length=S.length:=by rw [List.length_set];exact hpl
         clear hW hsz hse a1 p0 hb5 zc zf hWW lB hpl
         generalize pl.set x (p:Int)=pl at *
         have hun:=unl_le pl
         go_loopg [8,9,10,11,49] (unl pl+1) (fun gk s8 s9 s10 s11 s49 wi=>∃ (pl:List Int) (q:List Nat),unl pl+q.length<=gk/\gk<=S.length+1/\QI 3 (B+1) wi s8 (qi q)/\Arr wi B 3 (ic pl)/\Arr wi w.heap.size 24 [.slice A S.length c,.slice A2 M.length c2,.int .i64 L]/\Below w.heap.size w wi/\Hid (BF M S.length pl p x/\Wh M S.length pl p q))
         case atStart=>exact ⟨pl,[x],Nat.le_refl _,by omega,q2,a2,p2,hb2,HS⟩
         case round =>
          clear q2 a2 p2 hb2 HS lB2 hl2 hun pl
          obtain ⟨gm,rfl⟩:∃ g:Nat,g=gk:=⟨_,rfl⟩
          obtain ⟨pl,q,hun0,hun,q2,a2,p2,hb2,HS⟩:=hrel
          have hl2:=HS.out.1.len
          cases q with
          | nil =>
           obtain ⟨g,o,c8,cur,rfl,r8⟩:=id q2
           clear r8
           have HP2:=Lib.hid (wh_end KK.out HS.out.1 HS.out.2)
           go_wp2_with fail
           go_roundg (S.length-(x+1))
           case measure=>omega
           case rel=>exact ⟨x+1,p+1,pl,by omega,by omega,rfl,by go_num,by go_num,a2,p2,hb2,HP2⟩
          | cons a q =>
           obtain ⟨g,o,c8,rfl,hc8,y8⟩:=QI.head (x:=(a:Int)) (xs:=qi q) q2
           have q3:∀ A,(A=some ⟨g,o,none⟩/\c8-1=0\/A=some ⟨g,o+1,none⟩)->QI 3 (B+1) wr (.slice A ((qi q).length+1-1) (c8-1)) (qi q):=fun A hA=>QI.tail (x:=(a:Int)) (xs:=qi q) q2 A hA
           have Q3:=Lib.hid q3
           clear q3 q2
           generalize hq:qi q=qs at *
           have HQ:=Lib.hid hq
           clear hq
           go_upto_region 17 with fail
           have q4:QI 3 (B+1) wr (.slice (if c8=1 then some ⟨g,o,none⟩ else some ⟨g,o+1,none⟩) qs.length (c8-1)) qs:=by
            refine Q3.out _ ?_
            by_cases h1:c8=1
            · left;rw [if_pos h1];exact ⟨rfl,by omega⟩
            · right;rw [if_neg h1]
           generalize (if c8=1 then some (⟨g,o,none⟩:Addr) else some ⟨g,o+1,none⟩)=A8 at q4 ⊢
           generalize c8-1=c9 at q4 ⊢
           have q5:QI 3 (B+1) wr (.slice A8 qs.length c9) (qi q):=by rw [HQ.out];exact q4
           have hlq:q.length=qs.length:=by rw [<- HQ.out,qi_length]
           have HF:=Lib.hid (And.intro HS.out.1 (wh_pop HS.out.2))
           have hal:=HF.out.2.2.1
           clear q4 Q3 HQ y8 HS hc8
           have hU1:unl pl+q.length+1<=gm:=by simp only [List.length_cons] at hun0;omega
           clear hun0 hlq
           go_wp2_with fail
           obtain ⟨wo,rfl⟩:∃ wo:World,wo=wr:=⟨_,rfl⟩
           go_loopg [8,10,11,49] 4 (fun gk s8 s10 s11 s49 wi=>∃ (pl:List Int) (q:List Nat) (s:Nat),s<=4/\gk=4-s/\s49=.int .i64 (s:Int)/\unl pl+q.length+1<=gm/\QI 3 (B+1) wi s8 (qi q)/\Arr wi B 3 (ic pl)/\Arr wi w.heap.size 24 [.slice A S.length c,.slice A2 M.length c2,.int .i64 L]/\Below w.heap.size w wi/\Hid (BF M S.length pl p x/\Fo M S.length pl p q a s))
           case atStart=>exact ⟨pl,q,0,by omega,rfl,rfl,hU1,q5,a2,p2,hb2,HF⟩
           case round =>
            clear q5 a2 p2 hb2 HF hU1 hl2
            obtain ⟨pl,q,s,hs,rfl,rfl,hU1,q5,a2,p2,hb2,HF⟩:=hrel
            have hl2:=HF.out.1.len
            by_cases hs4:s<4
            · have z2:(s:Int)<4:=by omega
              have hin:4*a+s<M.length:=by have:=T2.out;omega
              obtain ⟨b,o2,rfl,hbl,hcell⟩:=(hM0.below hb2).at_ hin
              have hpos:=KK.out.pos _ hin
              have hmlt:=KK.out.lt _ hin
              have hmt:mt M (4*a+s)=M[4*a+s].toNat:=by unfold mt;rw [getD_lt hin]
              obtain ⟨m,hm⟩:∃ m:Nat,M[4*a+s]=(m:Int):=⟨M[4*a+s].toNat,by omega⟩
              rw [hm] at hcell hmt
              have hmt2:mt M (4*a+s)=m:=by omega
              have HM:=Lib.hid hmt2
              have hm4:m/4<S.length:=by have:=T2.out;omega
              have e5:(m:Int)/4=((m/4:Nat):Int):=by omega
              have HS0:=Lib.hid HF.out.1
              have FO:=Lib.hid (fun h0=>fo_old KK.out HF.out.1 HF.out.2 hs4 h0)
              have FN:=Lib.hid (fun h0=>fo_new KK.out HF.out.1 HF.out.2 hs4 h0)
              rw [HM.out] at FO FN
              have UN:=Lib.hid (fun h0=>unl_set pl (m/4) (p:Int) (by omega) h0 (by omega))
              clear hpos hmlt hmt hm hmt2 HM
              generalize m/4=t at *
              have zc:=(a2.cell t).trans (ic_get (by omega))
              have zf:=a2.frozen t
              have y1:=p2.cell 1
              have z3:(4:Int)*(a:Int)+(s:Int)<(M.length:Int):=by omega
              have z4:(t:Int)<(S.length:Int):=by omega
              by_cases hg0:gi pl t<0
              · have FN2:=Lib.hid (FN.out hg0)
                have UN2:=UN.out hg0
                clear FN FO UN HF
                generalize gi pl t=v at *
                go_upto_region 23 with fail
                have lB:=a2.lt
                have hse:(wr.setCell ⟨B,t,none⟩ (.int .i64 (p:Int))).heap.size=wr.heap.size:=by simp
                have hW:∀ W,W=wr.setCell ⟨B,t,none⟩ (.int .i64 (p:Int))->Arr W B 3 (ic (pl.set t (p:Int)))/\Arr W w.heap.size 24 [.slice A S.length c,.slice (some ⟨b,o2,none⟩) M.length c2,.int .i64 L]/\Below w.heap.size w W/\QI 3 (B+1) W u8 (qi q)/\W.heap.size=wr.heap.size:=by
                 intro W hW
                 subst hW
                 exact ⟨by rw [<- ic_set];exact a2.set t _,p2.far (p:=⟨B,t,none⟩) (Nat.ne_of_lt lw) _,hb2.setCell (p:=⟨B,t,none⟩) (Nat.le_of_lt lw) _,q5.far (p:=⟨B,t,none⟩) (Nat.lt_succ_self _) _,hse⟩
                generalize hWW:wr.setCell ⟨B,t,none⟩ (.int .i64 (p:Int))=W at *
                obtain ⟨a3,p3,hb3,q6,hsW⟩:=hW W rfl
                have lW:B+1<=W.heap.size:=a3.lt
                clear hW hse hWW a2 p2 hb2 q5 zc zf y1 hcell hsW
                go_wp2_with (at_builtin;refine wpList_appQ rfl _ _ 22 rfl Try.underlying22 hi0 hz0 hz1 hz2 rfl (q6.alloc _) rfl (cell_one_new _ _ _ 0 _ rfl) (by rw [qi_length];omega) (by simp;omega) ?_;intro v8 w8 q8 hb8 hk8 hsz8 hv8)
                clear hk8 hv8
                have hB8:=(Below.refl w.heap.size W).alloc (Nat.le_of_lt (Nat.lt_of_lt_of_le lw (Nat.le_of_succ_le lW))) (.cells #[.int .i64 (t:Int)] 3)
                go_roundg (4-(s+1))
                case measure=>omega
                case rel=>exact ⟨pl.set t (p:Int),q ++ [t],s+1,by omega,rfl,by go_num,by rw [List.length_append,List.length_singleton];omega,by rw [<- qi_snoc];exact q8,(a3.alloc _).below hb8 (Nat.lt_succ_self _),(p3.alloc _).below hb8 (Nat.lt_succ_of_lt lw),hb3.trans (hB8.trans (hb8.mono (Nat.le_of_lt (Nat.lt_succ_of_lt lw)))),FN2⟩
              · have FO2:=Lib.hid (FO.out (by omega))
                clear FN UN FO HF
                have hg1:¬ (gi pl t<0):=hg0
                generalize gi pl t=v at *
                go_wp2_with fail
                go_roundg (4-(s+1))
                case measure=>omega
                case rel=>exact ⟨pl,q,s+1,by omega,rfl,by go_num,hU1,q5,a2,p2,hb2,Lib.hid ⟨HS0.out,FO2.out⟩⟩
            · have z2:¬ ((s:Int)<4):=by omega
              have hs4':s=4:=by omega
              have HF2:Hid (BF M S.length pl p x/\Wh M S.length pl p q):=Lib.hid ⟨HF.out.1,fo_end KK.out (by have:=HF.out.2;rw [hs4'] at this;exact this)⟩
              clear HF hs4'
              go_wp2_with fail
              go_roundg (unl pl+q.length)
              case measure=>omega
              case rel=>exact ⟨pl,q,Nat.le_refl _,by omega,q5,a2,p2,hb2,HF2⟩
     · have z1:¬ ((x:Int)<(S.length:Int)):=by omega
       have hxn:x=S.length:=by omega
       have HP2:=Lib.hid (show PartO M S.length pl p S.length by have:=HP.out;rw [hxn] at this;exact this)
       clear hxn HP
       go_wp2_with fail
       go_ret2
       exact ⟨B,pl,p,rfl,Nat.le_of_lt lw,a1,HP2.out,by omega,hb5⟩
def crI (pl:List Int) (q c:Nat):Nat:=(List.range c).countP fun b=>decide (gi pl b=(q:Int))
def fcI (pl:List Int) (q:Nat) (hs:List Nat):Nat:=hs.countP fun h=>decide (gi pl (h/4)=(q:Int))
def exL (pl:List Int) (p c:Nat) (hs:List Nat):List Int:=(List.range p).map fun q=>(fcI pl q hs:Int)-(crI pl q c:Int)
theorem exL_length (pl:List Int) (p c:Nat) (hs:List Nat):(exL pl p c hs).length=p:=by simp [exL]
theorem gi_exL {pl:List Int} {p c:Nat} {hs:List Nat} {q:Nat} (hq:q<p):gi (exL pl p c hs) q=(fcI pl q hs:Int)-(crI pl q c:Int):=by
 unfold gi exL;rw [List.getElem?_map,List.getElem?_range hq];rfl
theorem gi_ext {a b:List Int} (hl:a.length=b.length) (h:∀ i,i<a.length->gi a i=gi b i):a=b:=by
 apply List.ext_getElem hl
 intro i h1 h2
 have:=h i h1
 unfold gi at this
 rw [List.getElem?_eq_getElem h1,List.getElem?_eq_getElem h2] at this
 exact this
theorem exL_nil (pl:List Int) (p:Nat):ic (exL pl p 0 [])=List.replicate p (.int .i64 0):=by
 have:exL pl p 0 []=List.replicate p 0:=by
  apply gi_ext
  · simp [exL]
  · intro i hi
    rw [exL_length] at hi
    rw [gi_exL hi]
    simp [fcI,crI,gi,hi]
 rw [this];simp [ic]
theorem crI_succ (pl:List Int) (q c:Nat):crI pl q (c+1)=crI pl q c+if gi pl c=(q:Int) then 1 else 0:=by
 unfold crI;rw [List.range_succ,List.countP_append,List.countP_singleton];simp
theorem fcI_snoc (pl:List Int) (q:Nat) (hs:List Nat) (h:Nat):fcI pl q (hs ++ [h])=fcI pl q hs+if gi pl (h/4)=(q:Int) then 1 else 0:=by
 unfold fcI;rw [List.countP_append,List.countP_singleton];simp
theorem exL_cross {pl:List Int} {p c t:Nat} (ht:t<p) (hg:gi pl c=(t:Int)):(exL pl p c []).set t (gi (exL pl p c []) t-1)=exL pl p (c+1) []:=by
 apply gi_ext
 · simp [exL]
 · intro i hi
   rw [List.length_set,exL_length] at hi
   rw [gi_set _ _ _ _ (by rw [exL_length];exact ht),gi_exL hi,gi_exL ht,gi_exL hi,crI_succ,hg]
   by_cases e:i=t
   · subst e;rw [if_pos rfl,if_pos rfl];omega
   · rw [if_neg e,if_neg (by omega)];omega
theorem exL_face {pl:List Int} {p c t h:Nat} {hs:List Nat} (ht:t<p) (hg:gi pl (h/4)=(t:Int)):(exL pl p c hs).set t (gi (exL pl p c hs) t+1)=exL pl p c (hs ++ [h]):=by
 apply gi_ext
 · simp [exL]
 · intro i hi
   rw [List.length_set,exL_length] at hi
   rw [gi_set _ _ _ _ (by rw [exL_length];exact ht),gi_exL hi,gi_exL ht,gi_exL hi,fcI_snoc,hg]
   by_cases e:i=t
   · subst e;rw [if_pos rfl,if_pos rfl];omega
   · rw [if_neg e,if_neg (by omega)];omega
theorem exL_bd (pl:List Int) (p c:Nat) (hs:List Nat) (q:Nat):-(c:Int)<=gi (exL pl p c hs) q/\gi (exL pl p c hs) q<=(hs.length:Int):=by
 rcases Nat.lt_or_ge q p with h|h
 · rw [gi_exL h]
   have h1:crI pl q c<=c:=by have:=List.countP_le_length (p:=fun b=>decide (gi pl b=(q:Int))) (l:=List.range c);simpa [crI] using this
   have h2:fcI pl q hs<=hs.length:=List.countP_le_length
   omega
 · have:gi (exL pl p c hs) q=0:=by unfold gi;rw [List.getElem?_eq_none (by rw [exL_length];exact h)];rfl
   omega
def marks (n:Nat) (S:Nat->Bool):List Value:=(List.range n).map fun j=>Value.bool (S j)
theorem marks_get {n:Nat} {S:Nat->Bool} {i:Nat} (h:i<n):(marks n S)[i]? = some (.bool (S i)):=by simp [marks,h]
theorem marks_nil (n:Nat):marks n (fun _=>false)=List.replicate n (.bool false):=by
 apply List.ext_getElem?
 intro i
 by_cases h:i<n <;> simp [marks,h]
def mark (S:Nat->Bool) (i:Nat):Nat->Bool:=fun j=>if j=i then true else S j
theorem marks_set {n:Nat} {S:Nat->Bool} {i:Nat}:(marks n S).set i (.bool true)=marks n (mark S i):=by
 apply List.ext_getElem?
 intro j
 rw [List.getElem?_set]
 by_cases hj:j<n
 · by_cases e:i=j
   · subst e;simp [marks,hj,mark]
   · simp [marks,hj,e,mark,Ne.symm e]
 · simp [marks,hj];omega
def Mk (f:Nat->Nat) (n k:Nat) (S:Nat->Bool):Prop:=∀ j,j<n->(S j=true ↔ ∃ m,m<k/\Rl f m j)
section
variable {n k:Nat} {f:Nat->Nat} {S:Nat->Bool}
theorem Mk.start:Mk f n 0 (fun _=>false):=fun j _=>by simp
theorem Mk.isH_old (hp:PermF n f) (h:Mk f n k S) (hk:k<n) (hs:S k=true):isH f n k=false:=by
 obtain ⟨m,hm,hr⟩:=(h k hk).1 hs
 rw [Bool.eq_false_iff]
 intro e
 have:=List.all_eq_true.1 e m (List.mem_range.2 hm)
 rw [(rB_iff hp (by omega)).2 hr] at this
 cases this
theorem Mk.isH_new (hp:PermF n f) (h:Mk f n k S) (hk:k<n) (hs:S k=false):isH f n k=true:=by
 refine List.all_eq_true.2 fun m hm=>?_
 have hm':=List.mem_range.1 hm
 cases hr:rB f n m k with
 | false=>rfl
 | true =>
  have:=(h k hk).2 ⟨m,hm',(rB_iff hp (by omega)).1 hr⟩
  rw [hs] at this;cases this
theorem Mk.skip (h:Mk f n k S) (hk:k<n) (hs:S k=true):Mk f n (k+1) S:=by
 obtain ⟨m,hm,hr⟩:=(h k hk).1 hs
 refine fun j hj=>(h j hj).trans ⟨fun ⟨m',h1,h2⟩=>⟨m',by omega,h2⟩,fun ⟨m',h1,h2⟩=>?_⟩
 by_cases e:m'=k
 · subst e;exact ⟨m,hm,hr.trans h2⟩
 · exact ⟨m',by omega,h2⟩
structure Mi (f:Nat->Nat) (n k t:Nat) (S T:Nat->Bool):Prop where
 seen:∀ j,j<n->(T j=true ↔ S j=true\/∃ s,s<t/\itr f s k=j)
 far:∀ s,0<s->s<t->itr f s k≠k
theorem Mi.start:Mi f n k 0 S S:=⟨fun j _=>by simp,fun s h1 h2=>by omega⟩
theorem Mi.step {t:Nat} {T:Nat->Bool} (hp:PermF n f) (hk:k<n) (h:Mi f n k t S T) (hu:T (itr f t k)=false):Mi f n k (t+1) S (mark T (itr f t k))/\t+1<=n:=by
 have hnot:∀ s,s<t->itr f s k≠itr f t k:=fun s hs e=>by
  have:=(h.seen _ (hp.itr_lt hk t)).2 (.inr ⟨s,hs,e⟩)
  rw [hu] at this
  cases this
 have hfar:∀ s,0<s->s<t+1->itr f s k≠k:=fun s h1 h2 e=>by
  by_cases e':s=t
  · subst e';exact hnot 0 h1 e.symm
  · exact h.far s h1 (by omega) e
 refine ⟨⟨fun j hj=>?_,hfar⟩,hp.apart hk hfar⟩
 unfold mark
 by_cases e:j=itr f t k
 · rw [if_pos e]
   exact ⟨fun _=>.inr ⟨t,by omega,e.symm⟩,fun _=>rfl⟩
 · rw [if_neg e,h.seen j hj]
   constructor
   · rintro (h1|⟨s,h1,h2⟩)
     · exact .inl h1
     · exact .inr ⟨s,by omega,h2⟩
   · rintro (h1|⟨s,h1,h2⟩)
     · exact .inl h1
     · by_cases e':s=t
       · subst e';exact absurd h2.symm e
       · exact .inr ⟨s,by omega,h2⟩
theorem Mi.done {t:Nat} {T:Nat->Bool} (hp:PermF n f) (hk:k<n) (hm:Mk f n k S) (hs:S k=false) (h:Mi f n k t S T) (hu:T (itr f t k)=true):Mk f n (k+1) T:=by
 have hno:∀ m,m<k->¬ Rl f m k:=fun m h1 h2=>by
  have:=(hm k hk).2 ⟨m,h1,h2⟩
  rw [hs] at this
  cases this
 have hret:∃ s,s<t/\itr f s k=itr f t k:=by
  rcases (h.seen _ (hp.itr_lt hk t)).1 hu with h1|h1
  · exfalso
    obtain ⟨m,h2,h3⟩:=(hm _ (hp.itr_lt hk t)).1 h1
    exact hno m h2 (h3.trans (hp.symm hk ⟨t,rfl⟩))
  · exact h1
 obtain ⟨s,hst,e⟩:=hret
 have hper:itr f (t-s) k=k:=hp.itr_inj (hp.itr_lt hk _) hk s (by rw [<- itr_add,show s+(t-s)=t from by omega];exact e.symm)
 have hall:∀ q,∃ s',s'<t/\itr f s' k=itr f q k:=by
  intro q
  induction q using Nat.strongRecOn with
  | _ q ih =>
   by_cases hq:q<t
   · exact ⟨q,hq,rfl⟩
   · obtain ⟨s',h1,h2⟩:=ih (q-(t-s)) (by omega)
     refine ⟨s',h1,h2.trans ?_⟩
     rw [show itr f q k=itr f (q-(t-s)+(t-s)) k from by congr 1;omega,itr_add,hper]
 refine fun j hj=>(h.seen j hj).trans ?_
 rw [hm j hj]
 constructor
 · rintro (⟨m,h1,h2⟩|⟨s',_,h2⟩)
   · exact ⟨m,by omega,h2⟩
   · exact ⟨k,by omega,s',h2⟩
 · rintro ⟨m,h1,h2⟩
   by_cases e':m=k
   · subst e'
     obtain ⟨q,rfl⟩:=h2
     exact .inr (hall q)
   · exact .inl ⟨m,by omega,h2⟩
end
section
variable {S M:List Int} {L:Int} (k:Ok S M L) {pl:List Int} {p:Nat}
include k
theorem part_conn (h:PartO M S.length pl p S.length) {a b:Nat} (ha:a<S.length) (hc:Conn (Ed M) a b):gi pl b=gi pl a:=by
 have:=Conn.closed (P:=fun x=>x<S.length/\gi pl x=gi pl a) (fun u v e ⟨h1,h2⟩=>⟨(e.lt k.rg).2,by rw [h.clo u v e (h.low u h1),h2]⟩) hc ⟨ha,rfl⟩
 exact this.2
theorem lab_lt {a b:Nat} (ha:a<S.length) (hc:Conn (Ed M) a b):b<S.length :=
 Conn.closed (P:=fun x=>x<S.length) (fun _ _ e _=>(e.lt k.rg).2) hc ha
theorem lab_eq {a b:Nat} (ha:a<S.length) (hc:Conn (Ed M) a b):gn (labK M S.length S.length) a=gn (labK M S.length S.length) b:=by
 have hb:=lab_lt k ha hc
 have ca:=labK_conn k.rg S.length a ha
 have cb:=labK_conn k.rg S.length b hb
 have sy:=fun {x y:Nat} (h:Conn (Ed M) x y)=>h.symm (fun _ _ e=>e.symm)
 apply Nat.le_antisymm
 · exact labK_least k.rg (lab_lt k hb cb) ((sy cb).trans (sy hc))
 · exact labK_least k.rg (lab_lt k ha ca) ((sy ca).trans hc)
theorem lab_self {a:Nat} (ha:a<S.length):gn (labK M S.length S.length) (gn (labK M S.length S.length) a)=gn (labK M S.length S.length) a :=
 (lab_eq k ha (labK_conn k.rg S.length a ha)).symm
theorem lab_iff (h:PartO M S.length pl p S.length) {a b:Nat} (ha:a<S.length) (hb:b<S.length):gn (labK M S.length S.length) a=gn (labK M S.length S.length) b ↔ gi pl a=gi pl b:=by
 have sy:=fun {x y:Nat} (h:Conn (Ed M) x y)=>h.symm (fun _ _ e=>e.symm)
 constructor
 · intro e
   have ca:=labK_conn k.rg S.length a ha
   have cb:=labK_conn k.rg S.length b hb
   rw [e] at ca
   exact (part_conn k h ha (ca.trans (sy cb))).symm
 · intro e
   have ra:=h.low a ha
   have h2:gi pl a<(p:Int):=by rcases h.rng a ha with q|q <;> omega
   obtain ⟨q,hq⟩:∃ q:Nat,gi pl a=(q:Int):=⟨(gi pl a).toNat,by omega⟩
   obtain ⟨r,hr,h3,h4⟩:=h.root q (by omega)
   exact (lab_eq k hr (h4 a ha hq)).symm.trans (lab_eq k hr (h4 b hb (by omega)))
theorem sph_at (h:PartO M S.length pl p S.length) {c q:Nat} (hc:c<S.length) (hs:gn (labK M S.length S.length) c=c) (hq:gi pl c=(q:Int)) :
 spB M (labK M S.length S.length) c=decide ((fcI pl q (hdU (phi M) M.length M.length):Int)-(crI pl q S.length:Int)=2):=by
 have e1:crN (labK M S.length S.length) c S.length=crI pl q S.length:=by
  unfold crN crI
  apply List.countP_congr
  intro b hb
  have hb':=List.mem_range.1 hb
  have:=lab_iff k h hb' hc
  rw [hs,hq] at this
  simp [this]
 have e2:fcN (labK M S.length S.length) c (hdU (phi M) M.length M.length)=fcI pl q (hdU (phi M) M.length M.length):=by
  unfold fcN fcI
  apply List.countP_congr
  intro x hx
  have hx':x/4<S.length:=by have:=hdU_mem hx;have:=k.m;omega
  have:=lab_iff k h hx' hc
  rw [hs,hq] at this
  simp [this]
 unfold spB
 rw [labK_length,e1,e2,hs]
 rw [Bool.eq_iff_iff]
 simp
 omega
theorem sph_eq (h:PartO M S.length pl p S.length):sphR M S.length=(exL pl p S.length (hdU (phi M) M.length M.length)).all fun x=>decide (x=2):=by
 rw [Bool.eq_iff_iff]
 unfold sphR
 rw [List.all_eq_true,List.all_eq_true]
 constructor
 · intro H x hx
   unfold exL at hx
   obtain ⟨q,hq,rfl⟩:=List.mem_map.1 hx
   obtain ⟨r,hr,h1,_⟩:=h.root q (List.mem_range.1 hq)
   have hc:=lab_lt k hr (labK_conn k.rg S.length r hr)
   have hs:=lab_self k hr
   have h2:gi pl (gn (labK M S.length S.length) r)=(q:Int):=by rw [(lab_iff k h hc hr).1 hs,h1]
   rw [<- sph_at k h hc hs h2]
   exact H _ (List.mem_range.2 hc)
 · intro H c hc
   have hc':=List.mem_range.1 hc
   by_cases hs:gn (labK M S.length S.length) c=c
   · have h0:=h.low c hc'
     have h2:gi pl c<(p:Int):=by rcases h.rng c hc' with q|q <;> omega
     obtain ⟨q,hq⟩:∃ q:Nat,gi pl c=(q:Int):=⟨(gi pl c).toNat,by omega⟩
     rw [sph_at k h hc' hs hq]
     exact H _ (List.mem_map.2 ⟨q,List.mem_range.2 (by omega),rfl⟩)
   · unfold spB;simp [hs]
theorem sph_no (h:PartO M S.length pl p S.length) {q:Nat} (hq:q<p) (hne:gi (exL pl p S.length (hdU (phi M) M.length M.length)) q≠2):sphR M S.length=false:=by
 rw [sph_eq k h,Bool.eq_false_iff]
 intro e
 have:=List.all_eq_true.1 e (gi (exL pl p S.length (hdU (phi M) M.length M.length)) q) (by rw [gi_exL hq];exact List.mem_map.2 ⟨q,List.mem_range.2 hq,rfl⟩)
 simp at this
 exact hne this
theorem sph_yes (h:PartO M S.length pl p S.length) (H:∀ q,q<p->gi (exL pl p S.length (hdU (phi M) M.length M.length)) q=2):sphR M S.length=true:=by
 rw [sph_eq k h,List.all_eq_true]
 intro x hx
 obtain ⟨q,hq,rfl⟩:=List.mem_map.1 (show x∈(List.range p).map _ from hx)
 have:=H q (List.mem_range.1 hq)
 rw [gi_exL (List.mem_range.1 hq)] at this
 simpa using this
end
theorem info_bool:(Try.prog.info? 4).map (fun i=>(i.zero,i.size,i.bytes))=some (some (.bool false),1,1):=by kernel_rfl
set_option maxHeartbeats 4000000 in
set_option maxRecDepth 100000 in
theorem spherical_code (vs vm:Value) (S M:List Int) (L:Int) (w:World) (hS:Ints w vs S) (hM:Ints w vm M) (k:Ok S M L) :
 Calls Try.prog 24 #[.agg #[vs,vm,.int .i64 L]] w fun e w'=>e=.returned (.bool (sphR M S.length))/\Below w.heap.size w w':=by
 obtain ⟨i0,hi0,hz0,hz1,hz2⟩:=info_parts info_int
 obtain ⟨i1,hi1,hy0,hy1,hy2⟩:=info_parts info_bool
 have hn:=k.n
 have hmk:=fun (p:Nat) (hp:p<=64) W=>run_make_one (P:=Try.prog) 22 3 i0 (.int .i64 0) Try.underlying22 hi0 hz0 hz1 rfl (by rw [hz2];decide) p (by omega) W
 have hml:M.length<=256:=by have:=k.m;omega
 have hmk2:=fun W=>run_make_one (P:=Try.prog) 79 4 i1 (.bool false) Try.underlying79 hi1 hy0 hy1 rfl (by rw [hy2];decide) M.length (by omega) W
 have MK:=Lib.hid hmk
 have MK2:=Lib.hid hmk2
 clear hmk hmk2
 have hS0:=hS
 have hM0:=hM
 obtain ⟨A,c,rfl,hc,hx⟩:=hS
 obtain ⟨A2,c2,rfl,hc2,hx2⟩:=hM
 have T2:=Lib.hid k.m
 have KK:=Lib.hid k
 clear hx hx2 k
 obtain ⟨V,hV⟩:∃ V,V=sphR M S.length:=⟨_,rfl⟩
 rw [<- hV]
 have HV:=Lib.hid hV
 clear hV
 go_enter Try.func24,Try.ntmps24
 go_upto_region 1 with fail
 have hW:Arr (w.alloc (.cells #[.slice A S.length c,.slice A2 M.length c2,.int .i64 L] 24)) w.heap.size 24 [.slice A S.length c,.slice A2 M.length c2,.int .i64 L]/\Below w.heap.size w (w.alloc (.cells #[.slice A S.length c,.slice A2 M.length c2,.int .i64 L] 24)):=⟨Arr.new w _ _,(Below.refl _ _).alloc (Nat.le_refl _) _⟩
 generalize (w.alloc (.cells #[.slice A S.length c,.slice A2 M.length c2,.int .i64 L] 24))=w4 at hW ⊢
 obtain ⟨q0,hb4⟩:=hW
 have y0:=q0.cell 0
 have y1:=q0.cell 1
 have y2:=q0.cell 2
 have lw4:=q0.lt
 go_upto_region 2 with (go_at_call 51;refine (label_code _ _ S M L _ (hS0.below hb4) (hM0.below hb4) KK.out).mono ?_;rintro e w5 ⟨g,pl,p,rfl,hg5,a5,HP,hp5,hb5⟩)
 have HP':=Lib.hid HP
 have hpl:=HP.len
 have hE:=Lib.hid (exL_nil pl p)
 have hmk:=MK.out p (by omega)
 clear HP y0 y1 y2 MK
 go_upto_region 3 with fail
 have hW:∀ W,W=w5.alloc (.cells (rowOf (List.replicate p (Value.int .i64 0))) 3)->Arr W w5.heap.size 3 (ic (exL pl p 0 []))/\Arr W g 3 (ic pl)/\Arr W w.heap.size 24 [.slice A S.length c,.slice A2 M.length c2,.int .i64 L]/\Below w.heap.size w W:=by
  intro W hW
  subst hW
  have hb45:=hb4.trans (hb5.mono hb4.size)
  exact ⟨by rw [hE.out];exact Arr.new w5 _ _,a5.alloc _,(q0.below hb5 lw4).alloc _,hb45.alloc hb45.size _⟩
 have lgE:=a5.lt
 have lwg:w.heap.size<g:=Nat.lt_of_lt_of_le lw4 hg5
 generalize hB:w5.heap.size=E at *
 generalize w5.alloc (.cells (rowOf (List.replicate p (Value.int .i64 0))) 3)=w6 at hW ⊢
 obtain ⟨e6,a6,q6,hb6⟩:=hW w6 rfl
 clear hB hW hmk a5 q0 hb4 hb5 hE lw4 hg5
 go_wp2_with fail
 go_loopg [7,22] S.length (fun gk s7 s22 wr=>∃ k:Nat,k<=S.length/\gk=S.length-k/\s22=.int .i64 (k:Int)/\Arr wr E 3 (ic (exL pl p k []))/\Arr wr g 3 (ic pl)/\Arr wr w.heap.size 24 [.slice A S.length c,.slice A2 M.length c2,.int .i64 L]/\Below w.heap.size w wr)
 case atStart=>exact ⟨0,Nat.zero_le _,rfl,rfl,e6,a6,q6,hb6⟩
 case round =>
  clear e6 a6 q6 hb6
  obtain ⟨k,hk,rfl,rfl,e6,a6,q6,hb6⟩:=hrel
  by_cases hlt:k<S.length
  · have z1:(k:Int)<(S.length:Int):=by omega
    have zc:=(a6.cell k).trans (ic_get (by omega))
    have h0:=HP'.out.low k hlt
    have h1:=HP'.out.rng k hlt
    obtain ⟨t,ht⟩:∃ t:Nat,gi pl k=(t:Int):=⟨(gi pl k).toNat,by omega⟩
    have htp:t<p:=by omega
    have HX:=Lib.hid (exL_cross htp ht)
    rw [ht] at zc
    have hbd:=exL_bd pl p k [] t
    have zd:=(e6.cell t).trans (ic_get (by rw [exL_length];exact htp))
    have zf:=e6.frozen t
    have z2:(t:Int)<(p:Int):=by omega
    simp only [List.length_nil] at hbd
    clear h0 h1 ht
    generalize gi (exL pl p k []) t=x at *
    go_wp2_with fail
    go_roundg (S.length-(k+1))
    case measure=>omega
    case rel=>exact ⟨k+1,by omega,rfl,by go_num,by rw [<- HX.out,<- ic_set];exact e6.set t _,a6.far (p:=⟨E,t,none⟩) (Nat.ne_of_lt lgE) _,q6.far (p:=⟨E,t,none⟩) (Nat.ne_of_lt (Nat.lt_trans lwg lgE)) _,hb6.setCell (p:=⟨E,t,none⟩) (Nat.le_of_lt (Nat.lt_trans lwg lgE)) _⟩
  · have z1:¬ ((k:Int)<(S.length:Int)):=by omega
    have e7:Arr wr E 3 (ic (exL pl p S.length (hdU (phi M) M.length 0))):=by
     have hkn:k=S.length:=by omega
     rw [hkn] at e6;exact e6
    clear e6
    have y1:=q6.cell 1
    have hmk2:=MK2.out
    have hmn:=Lib.hid (marks_nil M.length)
    clear MK2
    go_upto_region 9 with fail
    have hW:∀ W,W=wr.alloc (.cells (rowOf (List.replicate M.length (Value.bool false))) 4)->Arr W wr.heap.size 4 (marks M.length (fun _=>false))/\Arr W E 3 (ic (exL pl p S.length (hdU (phi M) M.length 0)))/\Arr W g 3 (ic pl)/\Arr W w.heap.size 24 [.slice A S.length c,.slice A2 M.length c2,.int .i64 L]/\Below w.heap.size w W:=by
     intro W hW
     subst hW
     exact ⟨by rw [hmn.out];exact Arr.new wr _ _,e7.alloc _,a6.alloc _,q6.alloc _,hb6.alloc hb6.size _⟩
    have lED:=e7.lt
    generalize hB:wr.heap.size=D at *
    generalize wr.alloc (.cells (rowOf (List.replicate M.length (Value.bool false))) 4)=w7 at hW ⊢
    obtain ⟨m7,e8,a8,q8,hb8⟩:=hW w7 rfl
    clear hB hW hmk2 e7 a6 q6 hb6 y1 hmn
    have y1:=q8.cell 1
    go_wp2_with fail
    clear y1 z1 hlt
    obtain ⟨wo,rfl⟩:∃ wo:World,wo=wr:=⟨_,rfl⟩
    go_loopg [9,10,40] M.length (fun gk s9 s10 s40 wi=>∃ (h:Nat) (T:Nat->Bool),h<=M.length/\gk=M.length-h/\s40=.int .i64 (h:Int)/\Arr wi D 4 (marks M.length T)/\Arr wi E 3 (ic (exL pl p S.length (hdU (phi M) M.length h)))/\Arr wi g 3 (ic pl)/\Arr wi w.heap.size 24 [.slice A S.length c,.slice A2 M.length c2,.int .i64 L]/\Below w.heap.size w wi/\Hid (Mk (phi M) M.length h T))
    case atStart=>exact ⟨0,_,Nat.zero_le _,rfl,rfl,m7,e8,a8,q8,hb8,Lib.hid Mk.start⟩
    case round =>
     clear m7 e8 a8 q8 hb8 hk
     obtain ⟨h,T,hh,rfl,rfl,m7,e8,a8,q8,hb8,HM⟩:=hrel
     by_cases hlt:h<M.length
     · have z1:(h:Int)<(M.length:Int):=by omega
       have zs:=(m7.cell h).trans (marks_get hlt)
       have HU:=Lib.hid (hdU_succ (phi M) M.length h)
       by_cases hT:T h=true
       · have HI:=HM.out.isH_old KK.out.perm hlt hT
         have HM2:=Lib.hid (HM.out.skip hlt hT)
         have HX:=Lib.hid (show hdU (phi M) M.length (h+1)=hdU (phi M) M.length h by rw [HU.out,HI];simp)
         rw [hT] at zs
         clear hT HI HU HM
         go_wp2_with fail
         go_roundg (M.length-(h+1))
         case measure=>omega
         case rel=>exact ⟨h+1,T,by omega,rfl,by go_num,m7,by rw [HX.out];exact e8,a8,q8,hb8,HM2⟩
       · have hT':T h=false:=by simpa using hT
         have HI:=HM.out.isH_new KK.out.perm hlt hT'
         have HX:=Lib.hid (show hdU (phi M) M.length (h+1)=hdU (phi M) M.length h ++ [h] by rw [HU.out,HI];simp)
         have HN:=Lib.hid hT'
         rw [hT'] at zs
         clear hT hT' HI HU
         have h4:h/4<S.length:=by have:=T2.out;omega
         have e5:(h:Int)/4=((h/4:Nat):Int):=by omega
         have zc:=(a8.cell (h/4)).trans (ic_get (by omega))
         have h0:=HP'.out.low _ h4
         have h1:=HP'.out.rng _ h4
         obtain ⟨t,ht⟩:∃ t:Nat,gi pl (h/4)=(t:Int):=⟨(gi pl (h/4)).toNat,by omega⟩
         have htp:t<p:=by omega
         have HY:=Lib.hid (exL_face (c:=S.length) (hs:=hdU (phi M) M.length h) htp ht)
         rw [ht] at zc
         have hbd:=exL_bd pl p S.length (hdU (phi M) M.length h) t
         have hbl:=hdU_len (phi M) M.length h
         have hbd2:-64<=gi (exL pl p S.length (hdU (phi M) M.length h)) t/\gi (exL pl p S.length (hdU (phi M) M.length h)) t<=256:=by omega
         have zd:=(e8.cell t).trans (ic_get (by rw [exL_length];exact htp))
         have zf:=e8.frozen t
         have z2:(t:Int)<(p:Int):=by omega
         have z4:((h/4:Nat):Int)<(S.length:Int):=by omega
         clear h0 h1 ht hbd hbl
         generalize gi (exL pl p S.length (hdU (phi M) M.length h)) t=x at *
         generalize h/4=h4' at *
         go_upto_region 14 with fail
         have hW:∀ W,W=wr.setCell ⟨E,t,none⟩ (.int .i64 (x+1))->Arr W D 4 (marks M.length T)/\Arr W E 3 (ic (exL pl p S.length (hdU (phi M) M.length (h+1))))/\Arr W g 3 (ic pl)/\Arr W w.heap.size 24 [.slice A S.length c,.slice A2 M.length c2,.int .i64 L]/\Below w.heap.size w W:=by
          intro W hW
          subst hW
          exact ⟨m7.far (p:=⟨E,t,none⟩) (Nat.ne_of_gt lED) _,by rw [HX.out,<- HY.out,<- ic_set];exact e8.set t _,a8.far (p:=⟨E,t,none⟩) (Nat.ne_of_lt lgE) _,q8.far (p:=⟨E,t,none⟩) (Nat.ne_of_lt (Nat.lt_trans lwg lgE)) _,hb8.setCell (p:=⟨E,t,none⟩) (Nat.le_of_lt (Nat.lt_trans lwg lgE)) _⟩
         generalize wr.setCell ⟨E,t,none⟩ (.int .i64 (x+1))=w8 at hW ⊢
         obtain ⟨m9,e9,a9,q9,hb9⟩:=hW w8 rfl
         clear hW m7 e8 a8 q8 hb8 zs zc zd zf HX HY e5 z4
         go_wp2_with fail
         obtain ⟨wo2,rfl⟩:∃ wo:World,wo=wr:=⟨_,rfl⟩
         go_loopg [10] (M.length+1) (fun gk s10 wi=>∃ (r:Nat) (R:Nat->Bool),r<=M.length/\gk=M.length+1-r/\s10=.int .i64 (itr (phi M) r h:Nat)/\Arr wi D 4 (marks M.length R)/\Arr wi E 3 (ic (exL pl p S.length (hdU (phi M) M.length (h+1))))/\Arr wi g 3 (ic pl)/\Arr wi w.heap.size 24 [.slice A S.length c,.slice A2 M.length c2,.int .i64 L]/\Below w.heap.size w wi/\Hid (Mi (phi M) M.length h r T R))
         case atStart=>exact ⟨0,T,Nat.zero_le _,rfl,rfl,m9,e9,a9,q9,hb9,Lib.hid Mi.start⟩
         case round =>
          clear m9 e9 a9 q9 hb9
          obtain ⟨r,R,hr,rfl,rfl,m9,e9,a9,q9,hb9,HR⟩:=hrel
          have hil:=KK.out.perm.itr_lt hlt r
          have zs:=(m9.cell (itr (phi M) r h)).trans (marks_get hil)
          have zf:=m9.frozen (itr (phi M) r h)
          have HIS:=Lib.hid (show itr (phi M) (r+1) h=turnN (mt M (itr (phi M) r h)) 3 by rw [Nat.add_comm,itr_add];rfl)
          have z3:((itr (phi M) r h:Nat):Int)<(M.length:Int):=by omega
          by_cases hR:R (itr (phi M) r h)=true
          · have HM2:=Lib.hid (HR.out.done KK.out.perm hlt HM.out HN.out hR)
            rw [hR] at zs
            clear hR HR HIS
            generalize itr (phi M) r h=y at *
            go_wp2_with fail
            go_roundg (M.length-(h+1))
            case measure=>omega
            case rel=>exact ⟨h+1,R,by omega,rfl,by go_num,m9,e9,a9,q9,hb9,HM2⟩
          · have hR':R (itr (phi M) r h)=false:=by simpa using hR
            have HR2:=Lib.hid (HR.out.step KK.out.perm hlt hR')
            have hr1:=HR2.out.2
            rw [hR'] at zs
            clear hR hR' HR
            obtain ⟨b,o2,rfl,hbl,hcell⟩:=(hM0.below hb9).at_ hil
            have hpos:=KK.out.pos _ hil
            have hmlt:=KK.out.lt _ hil
            have hmt:mt M (itr (phi M) r h)=M[itr (phi M) r h].toNat:=by unfold mt;rw [getD_lt hil]
            obtain ⟨m,hm⟩:∃ m:Nat,M[itr (phi M) r h]=(m:Int):=⟨M[itr (phi M) r h].toNat,by omega⟩
            rw [hm] at hcell hmt
            have hmt2:mt M (itr (phi M) r h)=m:=by omega
            have HIS2:=Lib.hid (show itr (phi M) (r+1) h=turnN m 3 by rw [HIS.out,hmt2])
            have hm2:m<1000:=by omega
            clear hpos hmlt hmt hm hmt2 HIS
            generalize itr (phi M) r h=y at *
            go_upto_region 16 with fail
            have hbD:b<D:=by
             have h1:=(hM0.at_ (k:=0) (by omega))
             obtain ⟨b',o',hA,hbl',_⟩:=h1
             injection hA with hA
             injection hA with hA1 hA2
             subst hA1
             omega
            have hW:∀ W,W=wr.setCell ⟨D,y,none⟩ (.bool true)->Arr W D 4 (marks M.length (mark R y))/\Arr W E 3 (ic (exL pl p S.length (hdU (phi M) M.length (h+1))))/\Arr W g 3 (ic pl)/\Arr W w.heap.size 24 [.slice A S.length c,.slice (some ⟨b,o2,none⟩) M.length c2,.int .i64 L]/\Below w.heap.size w W/\W.cell? ⟨b,o2+y,none⟩=some (.int .i64 (m:Int)):=by
             intro W hW
             subst hW
             refine ⟨by rw [<- marks_set];exact m9.set y _,e9.far (p:=⟨D,y,none⟩) (Nat.ne_of_lt lED) _,a9.far (p:=⟨D,y,none⟩) (Nat.ne_of_lt (Nat.lt_trans lgE lED)) _,q9.far (p:=⟨D,y,none⟩) (Nat.ne_of_lt (Nat.lt_trans (Nat.lt_trans lwg lgE) lED)) _,hb9.setCell (p:=⟨D,y,none⟩) (Nat.le_of_lt (Nat.lt_trans (Nat.lt_trans lwg lgE) lED)) _,?_⟩
             rw [<- hcell]
             have:=((Below.refl D wr).setCell (p:=⟨D,y,none⟩) (Nat.le_refl _) (.bool true)).cell (p:=⟨b,o2+y,none⟩) hbD
             exact this
            generalize wr.setCell ⟨D,y,none⟩ (.bool true)=w9 at hW ⊢
            obtain ⟨m10,e10,a10,q10,hb10,hcell2⟩:=hW w9 rfl
            clear hW m9 e9 a9 q9 hb9 zs zf hcell
            have y1:=q10.cell 1
            go_wp2_with (go_at_call 52;refine (turn_code m _ hm2).mono ?_;rintro e w11 ⟨rfl,rfl⟩)
            go_roundg (M.length+1-(r+1))
            case measure=>omega
            case rel=>exact ⟨r+1,mark R y,by omega,rfl,by rw [HIS2.out],m10,e10,a10,q10,hb10,Lib.hid HR2.out.1⟩
     · have z1:¬ ((h:Int)<(M.length:Int)):=by omega
       have e9:Arr wr E 3 (ic (exL pl p S.length (hdU (phi M) M.length M.length))):=by
        have hkn:h=M.length:=by omega
        rw [hkn] at e8;exact e8
       clear e8 HM m7
       have HNO:=Lib.hid (fun q (hq:q<p) h=>sph_no KK.out HP'.out hq h)
       have HYES:=Lib.hid (fun H=>sph_yes KK.out HP'.out H)
       have hlE:=exL_length pl p S.length (hdU (phi M) M.length M.length)
       generalize exL pl p S.length (hdU (phi M) M.length M.length)=ex at *
       go_wp2_with fail
       clear z1 hlt hh
       obtain ⟨wo2,rfl⟩:∃ wo:World,wo=wr:=⟨_,rfl⟩
       go_loopg [12,75] p (fun gk s12 s75 wi=>∃ q:Nat,q<=p/\gk=p-q/\s75=.int .i64 (q:Int)/\Arr wi E 3 (ic ex)/\Below w.heap.size w wi/\Hid (∀ i,i<q->gi ex i=2))
       case atStart=>exact ⟨0,Nat.zero_le _,rfl,rfl,e9,hb8,Lib.hid fun i hi=>by omega⟩
       case round =>
        clear e9 hb8
        obtain ⟨q,hq,rfl,rfl,e9,hb8,HQ⟩:=hrel
        by_cases hlt:q<p
        · have z1:(q:Int)<(p:Int):=by omega
          have zc:=(e9.cell q).trans (ic_get (by omega))
          by_cases he:gi ex q=2
          · have HQ2:Hid (∀ i,i<q+1->gi ex i=2):=Lib.hid fun i hi=>by
             rcases Nat.lt_or_ge i q with h1|h1
             · exact HQ.out i h1
             · have:i=q:=by omega
               subst this;exact he
            rw [he] at zc
            clear he HQ
            go_wp2_with fail
            go_roundg (p-(q+1))
            case measure=>omega
            case rel=>exact ⟨q+1,by omega,rfl,by go_num,e9,hb8,HQ2⟩
          · have HE:=Lib.hid (HV.out.trans (HNO.out q hlt he))
            generalize gi ex q=x at *
            have he':(x != 2)=true:=by simp [he]
            go_wp2_with fail
            go_ret
            exact ⟨by rw [HE.out];rfl,hb8⟩
        · have z1:¬ ((q:Int)<(p:Int)):=by omega
          have HE:=Lib.hid (HV.out.trans (HYES.out fun i hi=>HQ.out i (by omega)))
          go_wp2_with fail
          go_ret
          exact ⟨by rw [HE.out];rfl,hb8⟩
theorem quietL {P:Program} {f:FuncId} {args:Array Value} {w:World} {n:Nat} {v:Value} (h:Calls P f args (w.drewN n) fun e w'=>e=.returned v/\w.drewN n=w'):Calls P f args (w.drewN n) fun e w''=>e=.returned v/\∃ m,w''=w.drewN m :=
 h.mono fun _ _ hh=>⟨hh.1,n,hh.2.symm⟩
theorem ok_size {S M:List Int} {L:Int} (h:¬ S.length<=64):valB S M L=false:=by simp [valB,okB,h]
theorem ok_mate {S M:List Int} {L:Int} (h:¬ M.length=4*S.length):valB S M L=false:=by simp [valB,okB,h]
theorem ok_low {S M:List Int} {L:Int} (h:¬ 0<=L):valB S M L=false:=by simp [valB,okB,h]
theorem ok_high {S M:List Int} {L:Int} (h:¬ L<=64):valB S M L=false:=by simp [valB,okB,h]
theorem ok_sign {S M:List Int} {L:Int} {k:Nat} (hk:k<S.length) (h1:¬ S[k]=1) (h2:¬ S[k] = -1):valB S M L=false:=by
 have:S.all sgB=false:=by
  rw [Bool.eq_false_iff]
  intro e
  have:=List.all_eq_true.1 e S[k] (List.getElem_mem hk)
  simp [sgB,h1,h2] at this
 simp [valB,okB,this]
theorem ok_at {S M:List Int} {L:Int} {h:Nat} (hk:h<M.length) (h1:mtB S M h=false):valB S M L=false:=by
 have:(List.range M.length).all (mtB S M)=false:=by
  rw [Bool.eq_false_iff]
  intro e
  have:=List.all_eq_true.1 e h (List.mem_range.2 hk)
  rw [h1] at this;cases this
 simp [valB,okB,this]
theorem ok_make {S M:List Int} {L:Int} (h1:S.length<=64) (h2:M.length=4*S.length) (h3:0<=L) (h4:L<=64) (h5:∀ i (h:i<S.length),S[i]=1\/S[i] = -1) (h6:∀ h,h<M.length->mtB S M h=true):okB S M L=true:=by
 unfold okB
 simp only [Bool.and_eq_true,decide_eq_true_eq,List.all_eq_true,List.mem_range]
 refine ⟨h1,h2,h3,h4,?_,h6⟩
 intro s hs
 obtain ⟨i,hi,rfl⟩:=List.getElem_of_mem hs
 simpa [sgB] using h5 i hi
end Go.Proofs.Ytfnmeigpfmeomaa
