/- Cycles of a diagram: diagram.cycle, diagram.cycles with closures. -/
import Derived.Test.YtfnmeigpfmeomaaZfPkb
import Derived.Test.YtfnmeigpfmeomaaZfTab
import Derived.Test.YtfnmeigpfmeomaaZfTwo
import Derived.Deep.DeepCutAuto
import Derived.Test.YtfnmeigpfmeomaaZfDcl
namespace Go.Proofs.Ytfnmeigpfmeomaa
open Go.RowKit
set_option linter.unusedVariables false
abbrev SVt:=Option Addr × Nat × Nat
def vS (s:SVt):Value:=.slice s.1 s.2.1 s.2.2
def eS (s:SVt):List Value:=[vS s]
def KeepE (T:TypeId) (w w':World):Prop:=∀ (k:Nat) (cs:Array Value) (t:TypeId) (fr:Nat × Nat),w.heap[k]? = some (Obj.cells cs t fr)->t≠T->w'.heap[k]? = w.heap[k]?
theorem heap_lt {w:World} {k:Nat} {o:Obj} (h:w.heap[k]? = some o):k<w.heap.size:=by
 obtain ⟨h,_⟩:=Array.getElem?_eq_some_iff.1 h
 exact h
theorem KeepE.of {T:TypeId} {w w':World} {v:Value} (hk:∀ k,k<w.heap.size->v.ownBlock≠some k->w'.heap[k]? = w.heap[k]?) (ht:∀ k,v.ownBlock=some k->∃ cs fr,w.heap[k]? = some (.cells cs T fr)):KeepE T w w':=fun k cs t fr h hne=>hk k (heap_lt h) fun e=>by
 obtain ⟨cs',fr',h'⟩:=ht k e
 rw [h] at h'
 injection h' with h'
 injection h' with _ h2 _
 exact hne h2
theorem KeepE.trans {T:TypeId} {w w1 w2:World} (h:KeepE T w w1) (h2:KeepE T w1 w2):KeepE T w w2:=fun k cs t fr hh hne=>by
 have e1:=h k cs t fr hh hne
 exact (h2 k cs t fr (e1.trans hh) hne).trans e1
theorem KeepE.below {T:TypeId} {w w':World} (hb:Below w.heap.size w w'):KeepE T w w':=fun k cs t fr h _=>hb.block k (heap_lt h)
theorem Arr.keepE {T:TypeId} {w w':World} {g:Nat} {t:TypeId} {cs:List Value} (h:Arr w g t cs) (hk:KeepE T w w') (hne:t≠T):Arr w' g t cs:=(hk g _ t _ h hne).trans h
section
variable {α:Type} {e:TypeId} {sz:Nat} {enc:α->List Value} {zc:Array Value} {base:Nat} {w w':World} {v:Value} {xs:List α}
theorem OwnA.typ (h:OwnA e sz enc base w v xs):∀ k,v.ownBlock=some k->∃ cs fr,w.heap[k]? = some (.cells cs e fr):=by
 intro k hk
 rcases h.2 with ⟨rfl,h0⟩|⟨g,cap,cur,rfl,_,hh,_⟩
 · cases hk
 · have:g=k:=Option.some.inj hk
   subst this
   exact ⟨_,_,hh⟩
theorem OwnA.keepE {T:TypeId} (h:OwnA e sz enc base w v xs) (hk:KeepE T w w') (hne:e≠T):OwnA e sz enc base w' v xs:=h.keepK fun k hk2=>by
 obtain ⟨cs,fr,hh⟩:=h.typ k hk2
 exact hk k cs e fr hh hne
end
theorem wpList_appIx {P:Program} {w:World} {e:TypeId} {base:Nat} {v:Value} {xs:List Int} {ops:Array Oper} {rest:List Oper} {o:Oper} {a:Act} {Q:Exit->Act->World->Prop} (hgd:o.guard=none) (s x:Operand) (t:TypeId) (ho:o.op=.call { callee:=.builtin .append,args:=#[s,x],argTypes:=#[t,t] })
 {i:TypeInfo} (ht:P.underlying t=some (.slice e)) (hi:P.info? e=some i) (hz:i.zero=some (.int .i64 0)) (hs:i.size=1) (hby:i.bytes=8)
 (hv:a.eval s=v) (h:OwnI e base w v xs) {b:Nat} {y:Int} (hx:a.eval x=.slice (some ⟨b,0,none⟩) 1 1) (hu:w.cell? ⟨b,0,none⟩=some (.int .i64 y)) (hlen:xs.length<=100000000) (hbase:base<=w.heap.size)
 (hK:∀ v' w',OwnI e base w' v' (xs ++ [y])->Below base w w'->(∀ k,k<w.heap.size->v.ownBlock≠some k->w'.heap[k]? = w.heap[k]?)->(v'.ownBlock=v.ownBlock\/v'.ownBlock=some w.heap.size)->wpList P ops Q rest (a.put o.dst v') w'):wpList P ops Q (o :: rest) a w:=by
 have hcells:∀ j q,([Value.int .i64 y])[j]? = some q->w.cell? ((⟨b,0,none⟩:Addr).add j)=some q:=by
  intro j q hq
  cases j with
  | zero=>injection hq with hq;subst hq;exact hu
  | succ j=>simp at hq
 obtain ⟨v',w',hrun,h2,h3,_,h5⟩:=run_append_own_at (P:=P) w base t o.type e i (.int .i64 0) 1 8 ht hi hz hs hby rfl (by decide) v xs.length (xs.map (Value.int .i64)) h ⟨b,0,none⟩ 1 1 [.int .i64 y] rfl hcells
  (by intro q hq;simp at hq;subst hq;rfl) (by unfold maxLen;omega) (by omega) hbase
 refine wpList_plain hgd fun _ hk=>?_
 unfold Oper.wp execOp
 simp only [ho,resolve,invoke,builtin,Sem.run_bind,Sem.run_pure,Result.andThen_ok,List.map_toArray,List.map_cons,List.map_nil,hv,hx,hrun]
 refine hk _ _ (hK v' w' ?_ ((Below.refl _ _).grown h3 hbase h.block) (fun k hk hne=>h3.block k hk (fun e=>hne e.symm)) h5)
 unfold OwnI
 rw [List.length_append,List.map_append]
 exact h2
theorem take_snocZ {l:List Int} {i:Nat} (h:i<l.length):l.take (i+1)=l.take i ++ [l[i]]:=by
 rw [List.take_add_one,List.getElem?_eq_getElem h];rfl
theorem KeepE.set {W:World} {g i:Nat} {T:TypeId} {cs:List Value} (h:Arr W g T cs) (u:Value):KeepE T W (W.setCell ⟨g,i,none⟩ u):=fun k cs' t fr hh hne=>Below.heap_setCell W ⟨g,i,none⟩ u k (fun e=>by
 have e':k=g:=e
 subst e'
 unfold Arr at h
 rw [h] at hh
 injection hh with hh
 injection hh with _ h2 _
 exact hne h2.symm)
structure NxC (F:FuncId) (Bd N:Nat) (φ:Nat->Nat) (base:Nat) (w0:World):Prop where
 eg:∀ args W,(callFunc F args).run Try.prog W=.ok (.enter F args) W
 ca:∀ (h:Nat) W,h<N->Below base w0 W->Calls Try.prog F #[.int .i64 (h:Int),.pointer (some ⟨Bd,0,none⟩)] W fun e w'=>e=.returned (.int .i64 (φ h:Nat))/\W=w'
theorem NxC.below {F:FuncId} {Bd N base:Nat} {φ:Nat->Nat} {w0 w1:World} (h:NxC F Bd N φ base w0) (hb:Below base w0 w1):NxC F Bd N φ base w1:=⟨h.eg,fun x W hx hW=>h.ca x W hx (hb.trans hW)⟩
theorem NxC.up {F:FuncId} {Bd N base b2:Nat} {φ:Nat->Nat} {w0:World} (h:NxC F Bd N φ base w0) (hb:base<=b2):NxC F Bd N φ b2 w0:=⟨h.eg,fun x W hx hW=>h.ca x W hx (hW.mono hb)⟩
def cycK (φ:Nat->Nat) (s k:Nat):List Int:=(List.range k).map fun j=>((itr φ j s:Nat):Int)
theorem cycK_succ (φ:Nat->Nat) (s k:Nat):cycK φ s (k+1)=cycK φ s k ++ [((itr φ k s:Nat):Int)]:=by
 unfold cycK;rw [List.range_succ,List.map_append];rfl
theorem cycK_len (φ:Nat->Nat) (s k:Nat):(cycK φ s k).length=k:=by unfold cycK;simp
theorem OwnI.oneAt {w:World} {e:TypeId} {base g:Nat} {x:Int} (hb:base<=g) (hg:w.heap[g]? = some (.cells #[.int .i64 x] e (0,0))):OwnI e base w (.slice (some ⟨g,0,none⟩) 1 1) [x] :=
 ⟨rfl,.inr ⟨g,1,#[.int .i64 x],rfl,hb,hg,by simp,by unfold maxLen;omega,by simp,by simp⟩⟩
def Cyl (φ:Nat->Nat) (s:Nat) (l:List Int):Prop:=∀ y:Int,y∈l ↔ ∃ j:Nat,y=(itr φ j s:Nat)
theorem cyl_of {φ:Nat->Nat} {s k:Nat} (hk:0<k) (h:itr φ k s=s):Cyl φ s (cycK φ s k):=by
 intro y
 constructor
 · intro hy
   unfold cycK at hy
   obtain ⟨j,_,rfl⟩:=List.mem_map.1 hy
   exact ⟨j,rfl⟩
 · rintro ⟨j,rfl⟩
   have hm:∀ q r,itr φ (q*k+r) s=itr φ r s:=by
    intro q
    induction q with
    | zero=>intro r;rw [Nat.zero_mul,Nat.zero_add]
    | succ q ih =>
     intro r
     rw [Nat.succ_mul,show q*k+k+r=q*k+(r+k) by omega,ih,itr_add,h]
   unfold cycK
   rw [List.mem_map]
   refine ⟨j%k,List.mem_range.2 (Nat.mod_lt _ hk),?_⟩
   have:=hm (j/k) (j%k)
   rw [show j/k*k+j%k=j by rw [Nat.mul_comm];exact Nat.div_add_mod j k] at this
   rw [this]
set_option maxHeartbeats 2000000 in
set_option maxRecDepth 100000 in
theorem cycle_any {F:FuncId} {Bd N:Nat} {φ:Nat->Nat} (start:Nat) (w:World) (hx:NxC F Bd N φ w.heap.size w) (hp:PermF N φ) (hs:start<N) (hN:N<=1000) :
 Calls Try.prog 77 #[.int .i64 (start:Int),.func (.func F) #[] #[.pointer (some ⟨Bd,0,none⟩)]] w fun e w'=>∃ A c l,e=.returned (.slice A l.length c)/\Cyl φ start l/\l.length<=N/\OwnI 3 w.heap.size w' (.slice A l.length c) l/\Below w.heap.size w w':=by
 obtain ⟨i0,hi,hz0,hz1,hz2⟩:=info_parts info_int
 have HX:=Lib.hid hx
 have HP:=Lib.hid hp
 have eg:=hx.eg
 have HI:=Lib.hid hi
 have HZ0:=Lib.hid hz0
 have HZ1:=Lib.hid hz1
 have HZ2:=Lib.hid hz2
 clear hx hp hi hz0 hz1 hz2
 have hW:∀ W,W=(w.alloc (.cells #[.int .i64 (start:Int)] 3))->OwnI 3 w.heap.size W (.slice (some ⟨w.heap.size,0,none⟩) 1 1) (cycK φ start 1)/\Below w.heap.size w W:=by
  rintro W rfl
  exact ⟨OwnI.oneAt (Nat.le_refl _) (heap_alloc_new w _),(Below.refl _ _).alloc (Nat.le_refl _) _⟩
 have HC:=Lib.hid (fun W (hb:Below w.heap.size w W)=>HX.out.ca start W hs hb)
 go_enter Try.func77,Try.ntmps77
 go_upto_region 2 with fail
 generalize (w.alloc (.cells #[.int .i64 (start:Int)] 3))=w3 at hW ⊢
 obtain ⟨ho3,hb3⟩:=hW w3 rfl
 have HC3:=Lib.hid (HC.out w3 hb3)
 clear hW HC
 have HST:=Lib.hid (show OwnI 3 w.heap.size w3 (.slice (some ⟨w.heap.size,0,none⟩) 1 1) (cycK φ start 1)/\Below w.heap.size w w3/\∀ j,0<j->j<1->itr φ j start≠start from ⟨ho3,hb3,fun j h1 h2=>by omega⟩)
 clear ho3 hb3
 go_wp2_with fail
 refine HC3.out.mono ?_
 rintro e w4 ⟨rfl,rfl⟩
 clear HC3
 go_wp2_with fail
 go_loopg [5,6] N (fun gk s5 s6 wr=>∃ k:Nat,1<=k/\k<=N/\gk=N+1-k/\s6=.int .i64 ((itr φ k start:Nat):Int)/\Hid (OwnI 3 w.heap.size wr s5 (cycK φ start k)/\Below w.heap.size w wr/\∀ j,0<j->j<k->itr φ j start≠start))
 case atStart=>exact ⟨1,Nat.le_refl _,by omega,by omega,rfl,HST⟩
 case round =>
  clear HST
  obtain ⟨k,hk1,hkN,rfl,rfl,HR⟩:=hrel
  obtain ⟨ho,hb,hj⟩:=HR.out
  clear HR
  have HKL:=Lib.hid (cycK_len φ start k)
  have HLT:=Lib.hid (HP.out.itr_lt hs k)
  by_cases he:itr φ k start=start
  · have z1:(((itr φ k start:Nat):Int) != (start:Int))=false:=by simp [he]
    have HCY:=Lib.hid (cyl_of hk1 he)
    obtain ⟨A,c,rfl⟩:=ho.form
    have HO:=Lib.hid ho
    have HB:=Lib.hid hb
    clear ho hb hj he
    generalize itr φ k start=h at *
    go_wp2_with fail
    go_ret
    exact ⟨A,c,_,rfl,HCY.out,by rw [HKL.out];exact hkN,HO.out,HB.out⟩
  · have z1:(((itr φ k start:Nat):Int) != (start:Int))=true:=by rw [bne_iff_ne];omega
    have HJ:=Lib.hid (show ∀ j,0<j->j<k+1->itr φ j start≠start from fun j h1 h2=>by
     rcases Nat.lt_or_ge j k with h3|h3
     · exact hj j h1 h3
     · rw [show j=k by omega];exact he)
    have HKN:=Lib.hid (HP.out.apart hs HJ.out)
    have HSC:=Lib.hid (cycK_succ φ start k)
    have HCN:=Lib.hid (show ∀ W,Below w.heap.size w W->Calls Try.prog F #[.int .i64 ((itr φ k start:Nat):Int),.pointer (some ⟨Bd,0,none⟩)] W fun e w'=>e=.returned (.int .i64 ((itr φ (k+1) start:Nat):Int))/\W=w' from fun W hb=>HX.out.ca (itr φ k start) W HLT.out hb)
    have HO:=Lib.hid ho
    have HB:=Lib.hid hb
    clear ho hb hj he
    generalize hh':itr φ (k+1) start=h' at *
    have HH:=Lib.hid hh'
    clear hh'
    generalize itr φ k start=h at *
    generalize cycK φ start k=R at *
    obtain ⟨A,c,rfl⟩:=HO.out.form
    have hsz:=HB.out.size
    have HN:=Lib.hid hN
    go_wp2_with (at_builtin;refine wpList_appIx rfl _ _ 22 rfl Try.underlying22 HI.out HZ0.out HZ1.out HZ2.out rfl (HO.out.alloc _) (b:=wr.heap.size) (y:=(h:Int)) rfl (by simp [go_sem]) (by have:=HKL.out;have:=HN.out;omega) (by simp;omega) ?_;intro v' w1 hown1 hbel1 hkx1 hmv1;have HO1:=Lib.hid hown1;have HB1:=Lib.hid ((HB.out.alloc HB.out.size _).trans hbel1);clear hown1 hbel1 hkx1 hmv1;have HC1:=Lib.hid (HCN.out w1 HB1.out))
    refine HC1.out.mono ?_
    rintro e w5 ⟨rfl,rfl⟩
    go_wp2_with fail
    go_roundg (N+1-(k+1))
    case measure=>have:=HKN.out;omega
    case rel=>exact ⟨k+1,by omega,HKN.out,rfl,by rw [HH.out],Lib.hid ⟨by rw [HSC.out];exact HO1.out,HB1.out,HJ.out⟩⟩
def mkB (bs:List Bool) (l:List Int):List Bool:=l.foldl (fun b y=>b.set y.toNat true) bs
theorem mkB_len (l:List Int):∀ bs,(mkB bs l).length=bs.length:=by
 induction l with
 | nil=>intro bs;rfl
 | cons y l ih=>intro bs;show (mkB (bs.set y.toNat true) l).length=_;rw [ih,List.length_set]
theorem mkB_snoc (bs:List Bool) (l:List Int) (y:Int):mkB bs (l ++ [y])=(mkB bs l).set y.toNat true:=by unfold mkB;rw [List.foldl_append];rfl
theorem mkB_old (l:List Int):∀ {bs:List Bool} {x:Nat},bs[x]? = some true->(mkB bs l)[x]? = some true:=by
 induction l with
 | nil=>intro bs x h;exact h
 | cons y l ih =>
  intro bs x h
  refine ih (bs:=bs.set y.toNat true) ?_
  have hx:=(List.getElem?_eq_some_iff.1 h).1
  rw [List.getElem?_set]
  split
  · rw [if_pos (by omega)]
  · exact h
theorem mkB_new (l:List Int):∀ {bs:List Bool} {x:Nat},x<bs.length->(x:Int)∈l->(mkB bs l)[x]? = some true:=by
 induction l with
 | nil=>intro bs x _ h;cases h
 | cons y l ih =>
  intro bs x hx h
  rcases List.mem_cons.1 h with rfl|h
  · refine mkB_old l (bs:=bs.set (x:Int).toNat true) ?_
    rw [Int.toNat_natCast,List.getElem?_set]
    simp [hx]
  · exact ih (bs:=bs.set y.toNat true) (by rw [List.length_set];exact hx) h
structure CyS (N:Nat) (φ:Nat->Nat) (out:Nat->Bool) (bs:List Bool) (hs:List Nat) (lls:List (List Int)):Prop where
 len:bs.length=N
 cnt:hs.length=lls.length
 hd:∀ a∈hs,a<N/\out a=true
 nd:hs.Nodup
 cl:∀ a∈hs,∀ x,Rl φ a x->bs[x]? = some true
 ap:∀ a∈hs,∀ b∈hs,Rl φ a b->a=b
 rg:∀ l∈lls,l.length<=N/\∀ y∈l,∃ x:Nat,y=(x:Int)/\x<N
theorem CyS.start (N:Nat) (φ:Nat->Nat) (out:Nat->Bool):CyS N φ out (List.replicate N false) [] [] :=
 ⟨List.length_replicate,rfl,fun a h=>by simp at h,List.nodup_nil,fun a h=>by simp at h,fun a h=>by simp at h,fun l h=>by simp at h⟩
theorem Cyl.rg {N:Nat} {φ:Nat->Nat} {h:Nat} {l:List Int} (c:Cyl φ h l) (hp:PermF N φ) (hh:h<N):∀ y∈l,∃ x:Nat,y=(x:Int)/\x<N:=fun y hy=>by
 obtain ⟨j,rfl⟩:=(c y).1 hy
 exact ⟨_,rfl,hp.itr_lt hh j⟩
theorem CyS.next {N:Nat} {φ:Nat->Nat} {out:Nat->Bool} {bs:List Bool} {hs:List Nat} {lls:List (List Int)} (s:CyS N φ out bs hs lls) (hp:PermF N φ) {h:Nat} {l:List Int} (hh:h<N) (hb:bs[h]? = some false) (ho:out h=true) (c:Cyl φ h l) (hlN:l.length<=N):CyS N φ out (mkB bs l) (hs ++ [h]) (lls ++ [l]):=by
 have hno:∀ a∈hs,¬ Rl φ a h:=fun a ha hr=>by
  have:=s.cl a ha h hr
  rw [hb] at this
  cases this
 refine ⟨(mkB_len _ _).trans s.len,by simp [s.cnt],fun a ha=>?_,?_,fun a ha x hr=>?_,fun a ha b hb' hr=>?_,fun l' hl=>?_⟩
 · rcases List.mem_append.1 ha with ha|ha
   · exact s.hd a ha
   · rw [List.mem_singleton.1 ha];exact ⟨hh,ho⟩
 · refine List.nodup_append.2 ⟨s.nd,by simp,fun a ha b hb' e=>?_⟩
   rw [List.mem_singleton.1 hb'] at e
   exact hno a ha (e ▸ Rl.refl φ a)
 · rcases List.mem_append.1 ha with ha|ha
   · exact mkB_old l (s.cl a ha x hr)
   · rw [List.mem_singleton.1 ha] at hr
     have hx:=Rl.lt hp hh hr
     obtain ⟨j,rfl⟩:=hr
     exact mkB_new l (by rw [s.len];exact hx) ((c _).2 ⟨j,rfl⟩)
 · rcases List.mem_append.1 ha with ha|ha <;> rcases List.mem_append.1 hb' with hb' | hb'
   · exact s.ap a ha b hb' hr
   · rw [List.mem_singleton.1 hb'] at hr;exact absurd hr (hno a ha)
   · rw [List.mem_singleton.1 ha] at hr;exact absurd (hp.symm hh hr) (hno b hb')
   · rw [List.mem_singleton.1 ha,List.mem_singleton.1 hb']
 · rcases List.mem_append.1 hl with hl|hl
   · exact s.rg l' hl
   · rw [List.mem_singleton.1 hl]
     exact ⟨hlN,c.rg hp hh⟩
theorem info_iLs:(Try.prog.info? 22).map (fun i=>(i.zero,i.size,i.bytes))=some (some (.slice none 0 0),1,24):=by kernel_rfl
theorem elLs:ElA Try.prog 22 1 eS where
 ex:=by
  obtain ⟨i,hi,hz,hs,hb⟩:=info_parts info_iLs
  exact ⟨i,_,24,hi,hz,hs,hb,rfl,by omega⟩
 pos:=by omega
 len:=fun x=>rfl
 one:=fun x q h=>by unfold eS at h;simp at h;subst h;rfl
theorem OwnI.keepE {e T:TypeId} {base:Nat} {w w':World} {v:Value} {xs:List Int} (h:OwnI e base w v xs) (hk:KeepE T w w') (hne:e≠T):OwnI e base w' v xs:=by
 refine ⟨h.1,?_⟩
 rcases h.2 with h0|⟨g,cap,cur,rfl,h1,hh,r⟩
 · exact .inl h0
 · exact .inr ⟨g,cap,cur,rfl,h1,(hk g _ e _ hh hne).trans hh,r⟩
structure CyW (base sb:Nat) (w:World) (v:Value) (bs:List Bool) (lls:List (List Int)) (wr:World):Prop where
 arr:Arr wr sb 4 (bs.map Value.bool)
 own:∃ ss:List SVt,ss.length=lls.length/\OwnA 22 1 eS base wr v ss/\∀ (k:Nat) s l,ss[k]? = some s->lls[k]? = some l->OwnI 3 base wr (vS s) l
 bel:Below base w wr
 le:base<=sb
theorem CyW.size {base sb:Nat} {w wr:World} {v:Value} {bs:List Bool} {lls:List (List Int)} (h:CyW base sb w v bs lls wr):base<=wr.heap.size:=Nat.le_trans h.le (Nat.le_of_lt h.arr.lt)
theorem CyW.grow {base sb:Nat} {w wr W:World} {v:Value} {bs:List Bool} {lls:List (List Int)} (h:CyW base sb w v bs lls wr) (hb:Below wr.heap.size wr W):CyW base sb w v bs lls W:=by
 obtain ⟨ss,h1,h2,h3⟩:=h.own
 exact ⟨h.arr.below hb h.arr.lt,⟨ss,h1,h2.below hb,fun k s l ha hb'=>(h3 k s l ha hb').below hb (Nat.le_refl _)⟩,h.bel.trans (hb.mono h.size),h.le⟩
theorem CyW.mark {base sb:Nat} {w wr:World} {v:Value} {bs:List Bool} {lls:List (List Int)} (h:CyW base sb w v bs lls wr) (x:Nat):CyW base sb w v (bs.set x true) lls (wr.setCell ⟨sb,x,none⟩ (.bool true)):=by
 obtain ⟨ss,h1,h2,h3⟩:=h.own
 have hk:KeepE 4 wr (wr.setCell ⟨sb,x,none⟩ (.bool true)):=KeepE.set h.arr _
 exact ⟨by rw [List.map_set];exact h.arr.set x _,⟨ss,h1,h2.keepE hk (by decide),fun k s l ha hb'=>(h3 k s l ha hb').keepE hk (by decide)⟩,h.bel.setCell (p:=⟨sb,x,none⟩) h.le _,h.le⟩
theorem CyW.app {base sb:Nat} {w wr W:World} {v v':Value} {bs:List Bool} {lls:List (List Int)} {l:List Int} {s:SVt} {ss:List SVt} (h:CyW base sb w v bs lls wr) (h1:ss.length=lls.length) (h2:OwnA 22 1 eS base wr v ss) (h3:∀ (k:Nat) s l,ss[k]? = some s->lls[k]? = some l->OwnI 3 base wr (vS s) l)
 (hs:OwnI 3 base wr (vS s) l) (hn:OwnA 22 1 eS base W v' (ss ++ [s])) (hb:Below base wr W) (hk:∀ k,k<wr.heap.size->v.ownBlock≠some k->W.heap[k]? = wr.heap[k]?):CyW base sb w v' bs (lls ++ [l]) W:=by
 have hke:KeepE 22 wr W:=KeepE.of hk h2.typ
 refine ⟨h.arr.keepE hke (by decide),⟨ss ++ [s],by simp [h1],hn,fun k s' l' ha hb'=>?_⟩,h.bel.trans hb,h.le⟩
 rcases Nat.lt_or_ge k ss.length with hlt|hge
 · rw [List.getElem?_append_left hlt] at ha
   rw [List.getElem?_append_left (by omega)] at hb'
   exact (h3 k s' l' ha hb').keepE hke (by decide)
 · rw [List.getElem?_append_right hge] at ha
   rw [List.getElem?_append_right (by omega)] at hb'
   have h0:k-ss.length=0:=by
    rcases Nat.eq_zero_or_pos (k-ss.length) with h0|h0
    · exact h0
    · rw [List.getElem?_eq_none (by simp;omega)] at ha;cases ha
   rw [h0] at ha
   rw [show k-lls.length=0 by omega] at hb'
   cases ha
   cases hb'
   exact hs.keepE hke (by decide)
structure OuC (F:FuncId) (N:Nat) (out:Nat->Bool) (base:Nat) (w0:World):Prop where
 eg:∀ args W,(callFunc F args).run Try.prog W=.ok (.enter F args) W
 ca:∀ (h:Nat) W,h<N->Below base w0 W->Calls Try.prog F #[.int .i64 (h:Int)] W fun e w'=>e=.returned (.bool (out h))/\Below W.heap.size W w'
theorem run_make_bools (n:Nat) (hn:n<=1000000) (W:World):(Instr.makeSlice 79 (.int .i64 (n:Int)) (.int .i64 (n:Int))).run Try.prog W=.ok (.slice (some ⟨W.heap.size,0,none⟩) n n) (W.alloc (.cells (rowOf (List.replicate n (.bool false))) 4)):=by
 obtain ⟨i,hi,hz,hs,hby⟩:=info_parts (show (Try.prog.info? 4).map (fun i=>(i.zero,i.size,i.bytes))=some (some (.bool false),1,1) by kernel_rfl)
 exact run_make_one 79 4 i _ Try.underlying79 hi hz hs rfl (by omega) n hn W
def CyR (N:Nat) (φ:Nat->Nat) (out:Nat->Bool) (b:Nat) (w:World) (v:Value) (w':World):Prop:=∃ bs hs lls,CyS N φ out bs hs lls/\CyW b b w v bs lls w'
set_option maxHeartbeats 4000000 in
set_option maxRecDepth 100000 in
theorem cycles_any {FO FN:FuncId} {Bn N:Nat} {φ:Nat->Nat} {out:Nat->Bool} (w:World) (ho:OuC FO N out w.heap.size w) (hx:NxC FN Bn N φ w.heap.size w) (hp:PermF N φ) (hN:N<=1000) :
 Calls Try.prog 60 #[.int .i64 (N:Int),.func (.func FO) #[] #[],.func (.func FN) #[] #[.pointer (some ⟨Bn,0,none⟩)]] w fun e w'=>∃ v,e=.returned v/\CyR N φ out w.heap.size w v w':=by
 have HO:=Lib.hid ho
 have HX:=Lib.hid hx
 have HP:=Lib.hid hp
 have eg:=ho.eg
 have HNN:=Lib.hid hN
 have hmk:=run_make_bools N (by omega) w
 clear ho hx hp
 have hW:∀ W,W=(w.alloc (.cells (rowOf (List.replicate N (.bool false))) 4))->CyW w.heap.size w.heap.size w (.slice none 0 0) (List.replicate N false) [] W:=by
  rintro W rfl
  refine ⟨?_,⟨[],rfl,OwnA.nil _ _ _ _ _,fun k s l h=>by simp at h⟩,(Below.refl _ _).alloc (Nat.le_refl _) _,Nat.le_refl _⟩
  rw [List.map_replicate]
  exact Arr.new w 4 _
 go_enter Try.func60,Try.ntmps60
 go_upto_region 3 with fail
 clear hmk
 generalize (w.alloc (.cells (rowOf (List.replicate N (.bool false))) 4))=w3 at hW ⊢
 have HST:=Lib.hid (show ∃ bs hs lls,CyS N φ out bs hs lls/\CyW w.heap.size w.heap.size w (.slice none 0 0) bs lls w3 from ⟨_,_,_,CyS.start N φ out,hW w3 rfl⟩)
 clear hW
 obtain ⟨sb,hsb⟩:∃ b,b=w.heap.size:=⟨_,rfl⟩
 rw [<- hsb] at HST ⊢
 have HSB:=Lib.hid hsb
 rw [<- hsb] at HO HX
 clear hsb
 go_wp2_with fail
 go_loopg [7,16] N (fun gk s7 s16 wr=>∃ h:Nat,h<=N/\gk=N-h/\s16=.int .i64 (h:Int)/\Hid (∃ bs hs lls,CyS N φ out bs hs lls/\CyW sb sb w s7 bs lls wr))
 case atStart=>exact ⟨0,Nat.zero_le _,rfl,rfl,HST⟩
 case round =>
  clear HST
  obtain ⟨h,hh,rfl,rfl,HR⟩:=hrel
  obtain ⟨bs,hs,lls,hcs,hcw⟩:=HR.out
  clear HR
  by_cases hlt:h<N
  · have z1:(h:Int)<(N:Int):=by omega
    have hbl:h<bs.length:=by rw [hcs.len];exact hlt
    have hsw:=hcw.size
    have hcell:=hcw.arr.cell h
    rw [List.getElem?_map,List.getElem?_eq_getElem hbl] at hcell
    have hbv:bs[h]? = some bs[h]:=List.getElem?_eq_getElem hbl
    have HCS:=Lib.hid hcs
    have HCW:=Lib.hid hcw
    have HOC:=Lib.hid (HO.out.ca h wr hlt hcw.bel)
    clear hcs hcw
    generalize hq:bs[h]=q at *
    clear hq hbl
    have HBV:=Lib.hid hbv
    clear hbv
    cases q with
    | true =>
     go_wp2_with fail
     go_roundg (N-(h+1))
     case measure=>omega
     case rel=>exact ⟨h+1,by omega,rfl,by go_num,Lib.hid ⟨bs,hs,lls,HCS.out,HCW.out⟩⟩
    | false =>
     cases ho:out h with
     | false =>
      rw [ho] at HOC
      clear ho
      go_wp2_with fail
      refine HOC.out.mono ?_
      rintro e w4 ⟨rfl,hb4⟩
      have HCW4:=Lib.hid (HCW.out.grow hb4)
      clear hb4
      go_wp2_with fail
      go_roundg (N-(h+1))
      case measure=>omega
      case rel=>exact ⟨h+1,by omega,rfl,by go_num,Lib.hid ⟨bs,hs,lls,HCS.out,HCW4.out⟩⟩
     | true =>
      rw [ho] at HOC
      have HO1:=Lib.hid ho
      clear ho
      go_wp2_with fail
      refine HOC.out.mono ?_
      rintro e w4 ⟨rfl,hb4⟩
      have HCW4:=Lib.hid (HCW.out.grow hb4)
      clear hb4 HCW hcell
      have HCY:=Lib.hid (cycle_any h w4 ((HX.out.below HCW4.out.bel).up HCW4.out.size) HP.out hlt hN)
      go_wp2_with fail
      refine HCY.out.mono ?_
      rintro e w5 ⟨A,c,l,rfl,hcy,hlN,hol,hb5⟩
      have HN2:=Lib.hid (HCS.out.next HP.out hlt HBV.out HO1.out hcy hlN)
      have HRG:=Lib.hid (hcy.rg HP.out hlt)
      have hlow:OwnI 3 sb w5 (.slice A l.length c) l:=by
       refine ⟨hol.1,?_⟩
       rcases hol.2 with h0|⟨g,cap,cur,e1,h1,hh,r⟩
       · exact .inl h0
       · exact .inr ⟨g,cap,cur,e1,Nat.le_trans HCW4.out.size h1,hh,r⟩
      have HCW5:=Lib.hid (HCW4.out.grow hb5)
      have HST:=Lib.hid (show CyW sb sb w u7 (mkB bs (l.take 0)) lls w5/\OwnI 3 sb w5 (.slice A l.length c) l from ⟨HCW5.out,hlow⟩)
      clear hcy hol hb5 hlow HCW4 HCW5 HCY HOC
      have HLB:=Lib.hid (show (mkB bs l).length=N from (mkB_len l bs).trans HCS.out.len)
      obtain ⟨n,hn⟩:∃ n,n=l.length:=⟨_,rfl⟩
      rw [<- hn] at HST hlN ⊢
      have HLN:=Lib.hid hn
      clear hn
      go_wp2_with fail
      go_loopg [34] n (fun gk s34 wr=>∃ j:Nat,j<=n/\gk=n-j/\s34=.int .i64 (j:Int)/\Hid (CyW sb sb w u7 (mkB bs (l.take j)) lls wr/\OwnI 3 sb wr (.slice A n c) l))
      case atStart=>exact ⟨0,Nat.zero_le _,rfl,rfl,HST⟩
      case round =>
       clear HST
       obtain ⟨j,hj,rfl,rfl,HR⟩:=hrel
       obtain ⟨hcw,hol⟩:=HR.out
       clear HR
       by_cases hlj:j<n
       · have z2:(j:Int)<(n:Int):=by omega
         have hjl:j<l.length:=by have:=HLN.out;omega
         obtain ⟨b,o,hA,_,hcell⟩:=hol.ints.at_ hjl
         subst hA
         obtain ⟨x,hx,hxN⟩:=HRG.out l[j] (List.getElem_mem hjl)
         rw [hx] at hcell
         have HSN:=Lib.hid (show mkB bs (l.take (j+1))=(mkB bs (l.take j)).set x true from by
          rw [take_snocZ hjl,mkB_snoc,hx,Int.toNat_natCast])
         have z3:(x:Int)<(N:Int):=by omega
         have HM:=Lib.hid (hcw.mark x)
         have HOL:=Lib.hid (hol.keepE (KeepE.set hcw.arr (i:=x) (.bool true)) (by decide))
         have hfz:=hcw.arr.frozen x
         have hsz:=hcw.arr.lt
         have hxc:=hcw.arr.cell x
         have hxl:x<(mkB bs (l.take j)).length:=by rw [mkB_len,HCS.out.len];exact hxN
         rw [List.getElem?_map,List.getElem?_eq_getElem hxl] at hxc
         generalize (mkB bs (l.take j))[x]=bx at hxc
         clear hx hcw hol hxl
         go_wp2_with fail
         go_roundg (n-(j+1))
         case measure=>omega
         case rel=>exact ⟨j+1,by omega,rfl,by go_num,Lib.hid ⟨by rw [HSN.out];exact HM.out,HOL.out⟩⟩
       · have z2:¬ (j:Int)<(n:Int):=by omega
         have HCW6:=Lib.hid (show CyW sb sb w u7 (mkB bs l) lls (wr.alloc (.cells #[.slice A n c] 22)) from (show CyW sb sb w u7 (mkB bs l) lls wr from by rw [List.take_of_length_le (by have:=HLN.out;omega)] at hcw;exact hcw).grow ((Below.refl _ _).alloc (Nat.le_refl _) _))
         have HOL6:=Lib.hid (hol.alloc (.cells #[.slice A n c] 22))
         obtain ⟨ss,hs1,hs2,hs3⟩:=HCW6.out.own
         have HS1:=Lib.hid hs1
         have HS2:=Lib.hid hs2
         have HS3:=Lib.hid hs3
         have HAR:=Lib.hid (Arr.new wr 22 [.slice A n c])
         have HSL:=Lib.hid (show SlA eS (wr.alloc (.cells #[.slice A n c] 22)) (.slice (some ⟨wr.heap.size,0,none⟩) 1 1) [((A,n,c):SVt)] from ⟨_,1,rfl,Nat.le_refl _,fun j q hq=>by
          cases j with
          | zero=>exact ⟨_,_,rfl,(HAR.out.cell 0).trans hq⟩
          | succ j=>simp [eS] at hq⟩)
         have HLC:=Lib.hid (show ss.length+1<=1000000000 from by
          have h1:=HN2.out.cnt
          have h2:=len_sub _ (List.range N) HN2.out.nd (fun a ha=>List.mem_range.2 (HN2.out.hd a ha).1)
          simp at h1 h2
          rw [hs1]
          have:=HNN.out
          omega)
         obtain ⟨A7,c7,hA7⟩:=hs2.form
         have hszz:=HCW6.out.size
         clear hcw hol hs1 hs2 hs3
         subst hA7
         go_wp2_with (at_builtin;refine wpList_appA rfl elLs (.tmp 42) (.tmp 44) 45 45 rfl Try.underlying45 Try.underlying45 rfl HS2.out rfl HSL.out HLC.out hszz ?_;intro v' w7 h1 h2 h3 h4;have HF:=Lib.hid (CyW.app (s:=(A,n,c)) HCW6.out HS1.out HS2.out HS3.out HOL6.out h1 h2 h3);clear h1 h2 h3 h4)
         go_roundg (N-(h+1))
         case measure=>omega
         case rel=>exact ⟨h+1,by omega,rfl,by go_num,Lib.hid ⟨_,_,_,HN2.out,HF.out⟩⟩
  · have z1:¬ (h:Int)<(N:Int):=by omega
    have HCS:=Lib.hid hcs
    have HCW:=Lib.hid hcw
    clear hcs hcw
    go_wp2_with fail
    go_ret
    exact ⟨_,rfl,bs,hs,lls,HCS.out,by rw [<- HSB.out];exact HCW.out⟩
structure Rws (b N:Nat) (w:World) (v:Value) (lls:List (List Int)):Prop where
 len:lls.length<=1000
 rg:∀ l∈lls,l.length<=1000/\∀ y∈l,∃ x:Nat,y=(x:Int)/\x<N
 own:∃ ss:List SVt,ss.length=lls.length/\OwnA 22 1 eS b w v ss/\∀ (k:Nat) s l,ss[k]? = some s->lls[k]? = some l->OwnI 3 b w (vS s) l
theorem Rws.below {b N:Nat} {w W:World} {v:Value} {lls:List (List Int)} (h:Rws b N w v lls) (hb:Below w.heap.size w W):Rws b N W v lls:=by
 obtain ⟨ss,h1,h2,h3⟩:=h.own
 exact ⟨h.len,h.rg,ss,h1,h2.below hb,fun k s l ha hb'=>(h3 k s l ha hb').below hb (Nat.le_refl _)⟩
theorem Rws.set {b N:Nat} {w:World} {v:Value} {lls:List (List Int)} (h:Rws b N w v lls) {p:Addr} (hp:p.block<b) (u:Value):Rws b N (w.setCell p u) v lls:=by
 obtain ⟨ss,h1,h2,h3⟩:=h.own
 refine ⟨h.len,h.rg,ss,h1,h2.keepK fun k hk=>Below.heap_setCell w p u k (by have:=h2.block k hk;omega),fun k s l ha hb'=>?_⟩
 have h4:=h3 k s l ha hb'
 refine ⟨h4.1,?_⟩
 rcases h4.2 with h0|⟨g,cap,cur,e1,h5,hh,r⟩
 · exact .inl h0
 · exact .inr ⟨g,cap,cur,e1,h5,(Below.heap_setCell w p u g (by omega)).trans hh,r⟩
theorem OwnI.lowZ {e:TypeId} {b b2:Nat} {w:World} {v:Value} {l:List Int} (h:OwnI e b w v l) (hb:b2<=b):OwnI e b2 w v l:=by
 refine ⟨h.1,?_⟩
 rcases h.2 with h0|⟨g,cap,cur,e1,h1,hh,r⟩
 · exact .inl h0
 · exact .inr ⟨g,cap,cur,e1,Nat.le_trans hb h1,hh,r⟩
theorem Rws.low {b b2 N:Nat} {w:World} {v:Value} {lls:List (List Int)} (h:Rws b N w v lls) (hb:b2<=b):Rws b2 N w v lls:=by
 obtain ⟨ss,h1,h2,h3⟩:=h.own
 exact ⟨h.len,h.rg,ss,h1,h2.low hb,fun k s l ha hb'=>(h3 k s l ha hb').lowZ hb⟩
theorem nxc_faces {S M:List Int} {L:Int} (k:Ok S M L) (vs vm:Value) (Bd:Nat) (w:World) (hd:Arr w Bd 24 [vs,vm,.int .i64 L]) (hM:Ints w vm M) :
 NxC 61 Bd M.length (phi M) w.heap.size w where
 eg:=enters_of Try.func61 (by kernel_rfl) rfl
 ca:=fun h W hh hb=>by
  have hl:M.length<=256:=by have:=k.n;have:=k.m;omega
  have hmt:M[h]'hh=(mt M h:Nat):=by
   have:=k.pos h hh
   unfold mt
   rw [List.getElem?_eq_getElem hh]
   show M[h]=((M[h]).toNat:Int)
   omega
  have hlt:=k.lt h hh
  have hM0:=hM.below hb
  obtain ⟨A,c,rfl,_,_⟩:=hM
  obtain ⟨b,o,e1,hbl,hcell⟩:=hM0.at_ hh
  rw [hmt] at hcell
  clear hM0
  subst e1
  have HO:=Lib.hid (turn_code (mt M h) W (by omega))
  have y1:=(hd.below hb hd.lt).cell 1
  have z1:(h:Int)<(M.length:Int):=by omega
  have HE:=Lib.hid (show phi M h=turnN (mt M h) 3 from rfl)
  clear hd hmt hb
  generalize phi M h=R at *
  generalize mt M h=q at *
  clear hh
  generalize M.length=n at *
  go_enter Try.func61,Try.ntmps61
  go_wp2_with fail
  refine HO.out.mono ?_
  rintro e w1 ⟨rfl,rfl⟩
  go_wp2_with fail
  go_ret
  exact ⟨by rw [HE.out];rfl,rfl⟩
theorem ouc_faces (N base:Nat) (w:World):OuC 59 N (fun _=>true) base w where
 eg:=enters_of Try.func59 (by kernel_rfl) rfl
 ca:=fun h W hh hb=>by
  clear hb hh
  go_enter Try.func59,Try.ntmps59
  go_wp2_with fail
  go_ret
  exact ⟨rfl,Below.refl _ _⟩
theorem faces_any {S M:List Int} {L:Int} (hv:valB S M L=true) (k:Ok S M L) (vs vm:Value) (w:World) (hS:Ints w vs S) (hM:Ints w vm M) :
 Calls Try.prog 38 #[.agg #[vs,vm,.int .i64 L]] w fun e w'=>∃ v lls,e=.returned v/\Rws w.heap.size M.length w' v lls/\Below w.heap.size w w':=by
 have hW:∀ W,W=w.alloc (.cells #[vs,vm,.int .i64 L] 24)->Arr W w.heap.size 24 [vs,vm,.int .i64 L]/\Below w.heap.size w W:=by
  rintro W rfl
  exact ⟨Arr.new _ _ [_,_,_],(Below.refl _ _).alloc (Nat.le_refl _) _⟩
 have HK:=Lib.hid k
 have HS:=Lib.hid hS
 have HM:=Lib.hid hM
 have HV:=Lib.hid hv
 obtain ⟨A1,c1,rfl,-,-⟩:=hS
 obtain ⟨A2,c2,rfl,-,-⟩:=hM
 have hml:M.length<=256:=by have:=k.n;have:=k.m;omega
 clear hv k
 go_enter Try.func38,Try.ntmps38
 go_upto_region 1 with fail
 generalize w.alloc (.cells #[.slice A1 S.length c1,.slice A2 M.length c2,.int .i64 L] 24)=w3 at hW ⊢
 obtain ⟨q3,hb3⟩:=hW w3 rfl
 clear hW
 have HV3:=Lib.hid (valid_code _ _ S M L w3 (HS.out.below hb3) (HM.out.below hb3))
 rw [HV.out] at HV3
 have y0:=q3.cell 0
 have y1:=q3.cell 1
 have y2:=q3.cell 2
 have Q3:=Lib.hid q3
 have HB3:=Lib.hid hb3
 clear q3 hb3
 go_wp2_with fail
 refine HV3.out.mono ?_
 rintro e w4 ⟨rfl,hb4⟩
 have HB4:=Lib.hid (HB3.out.trans (hb4.mono HB3.out.size))
 have q4:=Q3.out.below hb4 Q3.out.lt
 clear y0 y1 y2 hb4
 have y1:=q4.cell 1
 have HX:=Lib.hid (nxc_faces HK.out _ _ _ w4 q4 (HM.out.below HB4.out))
 have HO:=Lib.hid (ouc_faces M.length w4.heap.size w4)
 have HC:=Lib.hid (cycles_any w4 HO.out HX.out HK.out.perm (by omega))
 clear q4
 go_wp2_with fail
 refine HC.out.mono ?_
 rintro e w5 ⟨v,rfl,bs,hs,lls,hcs,hcw⟩
 obtain ⟨ss,h1,h2,h3⟩:=hcw.own
 have HCS:=Lib.hid hcs
 have HCW:=Lib.hid hcw
 have H1:=Lib.hid h1
 have H2:=Lib.hid h2
 have H3:=Lib.hid h3
 have HML:=Lib.hid hml
 obtain ⟨A,c,rfl⟩:=h2.form
 clear hcs hcw h1 h2 h3 hml
 go_wp2_with fail
 go_ret
 refine ⟨_,lls,rfl,⟨?_,fun l hl=>⟨?_,(HCS.out.rg l hl).2⟩,ss,H1.out,H2.out.low HB4.out.size,fun k s l ha hb=>(H3.out k s l ha hb).lowZ HB4.out.size⟩,HB4.out.trans (HCW.out.bel.mono HB4.out.size)⟩
 · have h1:=HCS.out.cnt
   have h2:=len_sub _ (List.range M.length) HCS.out.nd (fun a ha=>List.mem_range.2 (HCS.out.hd a ha).1)
   have h3:=HML.out
   simp at h2
   omega
 · have h1:=(HCS.out.rg l hl).1
   have h3:=HML.out
   omega
structure GrS (b g n:Nat) (w:World) (rs:List (SVt × List Int)) (W:World):Prop where
 arr:Arr W g 22 (rs.map fun r=>vS r.1)
 own:∀ (k:Nat) r,rs[k]? = some r->OwnI 3 b W (vS r.1) r.2
 dis:∀ (j k:Nat) r s,j≠k->rs[j]? = some r->rs[k]? = some s->∀ c,(vS r.1).ownBlock=some c->(vS s.1).ownBlock≠some c
 rg:∀ r∈rs,∀ y∈r.2,∃ x:Nat,y=(x:Int)/\x<n
 bel:Below b w W
 le:b<=g
theorem GrS.size {b g n:Nat} {w W:World} {rs:List (SVt × List Int)} (h:GrS b g n w rs W):b<=W.heap.size:=Nat.le_trans h.le (Nat.le_of_lt h.arr.lt)
theorem GrS.grow {b g n:Nat} {w W W':World} {rs:List (SVt × List Int)} (h:GrS b g n w rs W) (hb:Below W.heap.size W W'):GrS b g n w rs W' :=
 ⟨h.arr.below hb h.arr.lt,fun k r hr=>(h.own k r hr).below hb (Nat.le_refl _),h.dis,h.rg,h.bel.trans (hb.mono h.size),h.le⟩
theorem GrS.start {b g n p:Nat} {w W:World} (ha:Arr W g 22 (List.replicate p (.slice none 0 0))) (hb:Below b w W) (hle:b<=g):GrS b g n w (List.replicate p ((none,0,0),[])) W:=by
 refine ⟨by rw [List.map_replicate];exact ha,fun k r hr=>?_,fun j k r s _ hr hs c hc=>?_,fun r hr y hy=>?_,hb,hle⟩
 · rw [List.getElem?_replicate] at hr
   split at hr
   · cases hr;exact OwnI.nil _ _ _
   · cases hr
 · rw [List.getElem?_replicate] at hr
   split at hr
   · cases hr;cases hc
   · cases hr
 · rw [List.eq_of_mem_replicate hr] at hy
   cases hy
theorem GrS.app {b g n:Nat} {w W W1:World} {rs:List (SVt × List Int)} {k i:Nat} {r:SVt × List Int} {s:SVt} (h:GrS b g n w rs W) (hk:rs[k]? = some r) (hi:i<n)
 (ho:OwnI 3 b W1 (vS s) (r.2 ++ [(i:Int)])) (hb:Below b W W1) (hke:∀ c,c<W.heap.size->(vS r.1).ownBlock≠some c->W1.heap[c]? = W.heap[c]?) (hm:(vS s).ownBlock=(vS r.1).ownBlock\/(vS s).ownBlock=some W.heap.size) :
 GrS b g n w (rs.set k (s,r.2 ++ [(i:Int)])) (W1.setCell ⟨g,k,none⟩ (vS s)):=by
 have hkl:k<rs.length:=(List.getElem?_eq_some_iff.1 hk).1
 have hrg:(vS r.1).ownBlock≠some g:=(h.own k r hk).apart h.arr (by decide)
 have ha1:Arr W1 g 22 (rs.map fun r=>vS r.1):=(hke g h.arr.lt hrg).trans h.arr
 have hoth:∀ (j:Nat) q,j≠k->rs[j]? = some q->OwnI 3 b W1 (vS q.1) q.2:=fun j q hjk hq=>by
  have h1:=h.own j q hq
  refine ⟨h1.1,?_⟩
  rcases h1.2 with h0|⟨g',cap,cur,e1,h5,hh,rr⟩
  · exact .inl h0
  · refine .inr ⟨g',cap,cur,e1,h5,(hke g' (heap_lt hh) fun e=>?_).trans hh,rr⟩
    exact h.dis j k q r hjk hq hk g' (by rw [e1];rfl) e
 refine ⟨?_,fun j q hq=>?_,fun j l q q' hjl hq hq' c hc=>?_,fun q hq y hy=>?_,?_,h.le⟩
 · rw [List.map_set]
   exact ha1.set k _
 · rw [List.getElem?_set] at hq
   split at hq
   · next e =>
     subst e
     cases hq
     exact ho.far (ho.apart ha1 (by decide)) _
   · next e =>
     have h2:=hoth j q (fun e'=>e e'.symm) hq
     exact h2.far (h2.apart ha1 (by decide)) _
 · rw [List.getElem?_set] at hq hq'
   split at hq
   · next e =>
     subst e
     cases hq
     rw [if_neg hjl] at hq'
     rcases hm with hm|hm
     · rw [hm] at hc
       exact h.dis k l r q' hjl hk hq' c hc
     · rw [hm] at hc
       cases hc
       intro e2
       have h3:=(h.own l q' hq').ltB _ e2
       omega
   · next e =>
     split at hq'
     · next e2 =>
       subst e2
       cases hq'
       intro e3
       rcases hm with hm|hm
       · rw [hm] at e3
         exact h.dis j k q r (fun e'=>e e'.symm) hq hk c hc e3
       · rw [hm] at e3
         cases e3
         have h3:=(h.own j q hq).ltB _ hc
         omega
     · exact h.dis j l q q' hjl hq hq' c hc
 · obtain ⟨j,hj⟩:=List.getElem?_of_mem hq
   rw [List.getElem?_set] at hj
   split at hj
   · cases hj
     rcases List.mem_append.1 hy with hy|hy
     · exact h.rg r (List.mem_of_getElem? hk) y hy
     · rw [List.mem_singleton.1 hy]
       exact ⟨i,rfl,hi⟩
   · exact h.rg q (List.mem_of_getElem? hj) y hy
 · exact (h.bel.trans hb).setCell (p:=⟨g,k,none⟩) h.le _
theorem run_make_rows (n:Nat) (hn:n<=1000) (W:World):(Instr.makeSlice 45 (.int .i64 (n:Int)) (.int .i64 (n:Int))).run Try.prog W=.ok (.slice (some ⟨W.heap.size,0,none⟩) n n) (W.alloc (.cells (rowOf (List.replicate n (.slice none 0 0))) 22)):=by
 obtain ⟨i,hi,hz,hs,hby⟩:=info_parts info_iLs
 exact run_make_one 45 22 i _ Try.underlying45 hi hz hs rfl (by omega) n (by omega) W
theorem GrS.rws {b g n p:Nat} {w W:World} {rs:List (SVt × List Int)} (h:GrS b g n w rs W) (hp:rs.length=p) (hp2:p<=1000) (hl:∀ r∈rs,r.2.length<=1000):Rws b n W (.slice (some ⟨g,0,none⟩) p p) (rs.map (·.2)):=by
 refine ⟨by simp;omega,fun l hl'=>?_,rs.map (·.1),by simp,?_,fun k s l hs hl'=>?_⟩
 · obtain ⟨r,hr,rfl⟩:=List.mem_map.1 hl'
   exact ⟨hl r hr,h.rg r hr⟩
 · have e1:(rs.map (·.1)).flatMap eS=rs.map fun r=>vS r.1:=by
    rw [List.flatMap_map]
    clear hl hp h
    induction rs with
    | nil=>rfl
    | cons r rs ih=>rw [List.flatMap_cons,ih];rfl
   unfold OwnA
   rw [e1,List.length_map,hp]
   exact ⟨by simp [hp],.inr ⟨g,p,_,rfl,h.le,h.arr,Nat.le_refl _,by unfold maxLen;omega,by simp [rowOf,hp],by rw [rowOf];simp only [Nat.mul_one];exact List.take_of_length_le (by simp [hp])⟩⟩
 · rw [List.getElem?_map] at hs hl'
   cases hr:rs[k]? with
   | none=>rw [hr] at hs;cases hs
   | some r =>
    rw [hr] at hs hl'
    cases hs
    cases hl'
    exact h.own k r hr
set_option maxHeartbeats 4000000 in
set_option maxRecDepth 100000 in
theorem graph_any {S M:List Int} {L:Int} (hv:valB S M L=true) (k:Ok S M L) (vs vm:Value) (w:World) (hS:Ints w vs S) (hM:Ints w vm M) :
 Calls Try.prog 39 #[.agg #[vs,vm,.int .i64 L]] w fun e w'=>∃ v lls,e=.returned v/\Rws w.heap.size S.length w' v lls/\Below w.heap.size w w':=by
 have hW:∀ W,W=w.alloc (.cells #[vs,vm,.int .i64 L] 24)->Arr W w.heap.size 24 [vs,vm,.int .i64 L]/\Below w.heap.size w W:=by
  rintro W rfl
  exact ⟨Arr.new _ _ [_,_,_],(Below.refl _ _).alloc (Nat.le_refl _) _⟩
 obtain ⟨i0,hi,hz0,hz1,hz2⟩:=info_parts info_int
 have HI:=Lib.hid hi
 have HZ0:=Lib.hid hz0
 have HZ1:=Lib.hid hz1
 have HZ2:=Lib.hid hz2
 have HK:=Lib.hid k
 have HS:=Lib.hid hS
 have HM:=Lib.hid hM
 have HV:=Lib.hid hv
 obtain ⟨A1,c1,rfl,-,-⟩:=hS
 obtain ⟨A2,c2,rfl,-,-⟩:=hM
 have HN:=Lib.hid k.n
 clear hv k hi hz0 hz1 hz2
 go_enter Try.func39,Try.ntmps39
 go_upto_region 1 with fail
 generalize w.alloc (.cells #[.slice A1 S.length c1,.slice A2 M.length c2,.int .i64 L] 24)=w3 at hW ⊢
 obtain ⟨q3,hb3⟩:=hW w3 rfl
 clear hW
 have HV3:=Lib.hid (valid_code _ _ S M L w3 (HS.out.below hb3) (HM.out.below hb3))
 rw [HV.out] at HV3
 have y0:=q3.cell 0
 have y1:=q3.cell 1
 have y2:=q3.cell 2
 have Q3:=Lib.hid q3
 have HB3:=Lib.hid hb3
 clear q3 hb3
 go_wp2_with fail
 refine HV3.out.mono ?_
 rintro e w4 ⟨rfl,hb4⟩
 have HB4:=Lib.hid (HB3.out.trans (hb4.mono HB3.out.size))
 have q4:=Q3.out.below hb4 Q3.out.lt
 clear y0 y1 y2 hb4
 have y0:=q4.cell 0
 have y1:=q4.cell 1
 have y2:=q4.cell 2
 have HL:=Lib.hid (label_code _ _ S M L w4 (HS.out.below HB4.out) (HM.out.below HB4.out) HK.out)
 clear q4
 go_wp2_with fail
 refine HL.out.mono ?_
 rintro e w5 ⟨gl,pl,p,rfl,hgl,harr,hpo,hpl,hb5⟩
 have HP:=Lib.hid hpo
 have HAR:=Lib.hid harr
 have HGL:=Lib.hid hgl
 have HB5:=Lib.hid (HB4.out.trans (hb5.mono HB4.out.size))
 have HPL:=Lib.hid hpl
 have hmk:=run_make_rows p (by have:=HN.out;omega) w5
 clear hpo harr hgl hb5 y0 y1 y2 HL HV3
 go_upto_region 5 with fail
 clear hmk
 have hst:GrS w5.heap.size w5.heap.size S.length w5 (List.replicate p ((none,0,0),[])) (w5.alloc (.cells (rowOf (List.replicate p (.slice none 0 0))) 22)):=GrS.start (Arr.new w5 _ _) ((Below.refl _ _).alloc (Nat.le_refl _) _) (Nat.le_refl _)
 have hlt:=HAR.out.lt
 generalize hw6:(w5.alloc (.cells (rowOf (List.replicate p (.slice none 0 0))) 22))=w6 at *
 obtain ⟨g,hg⟩:∃ g,g=w5.heap.size:=⟨_,rfl⟩
 have HBE:=Lib.hid (show ∀ W,Below g w5 W->Arr W gl 3 (ic pl) from fun W hW=>HAR.out.below (by rw [hg] at hW;exact hW) hlt)
 have HG5:=Lib.hid (show w.heap.size<=g from by rw [hg];exact HB5.out.size)
 rw [<- hg] at hst ⊢
 have HST:=Lib.hid (show ∃ rs,rs.length=p/\(∀ r∈rs,r.2.length<=0)/\GrS g g S.length w5 rs w6 from ⟨_,List.length_replicate,fun r hr=>by rw [List.eq_of_mem_replicate hr];exact Nat.le_refl _,hst⟩)
 clear hst hw6 hlt hpl
 obtain ⟨n,hn⟩:∃ n,n=S.length:=⟨_,rfl⟩
 have HNN:=Lib.hid hn
 rw [<- hn] at HST HPL HN HP
 have e0:S.length=n:=hn.symm
 rw [e0]
 clear hn hg e0
 go_wp2_with fail
 go_loopg [20] n (fun gk s20 wr=>∃ i:Nat,i<=n/\gk=n-i/\s20=.int .i64 (i:Int)/\Hid (∃ rs,rs.length=p/\(∀ r∈rs,r.2.length<=i)/\GrS g g n w5 rs wr))
 case atStart=>exact ⟨0,Nat.zero_le _,rfl,rfl,HST⟩
 case round =>
  clear HST
  obtain ⟨i,hi,rfl,rfl,HR⟩:=hrel
  obtain ⟨rs,hrl,hrs,hgr⟩:=HR.out
  clear HR
  by_cases hlt:i<n
  · have z1:(i:Int)<(n:Int):=by omega
    have har:=HBE.out wr hgr.bel
    have hgp:0<=gi pl i/\gi pl i<(p:Int):=by
     have h1:=HP.out.low i (by omega)
     have h2:=HP.out.rng i (by omega)
     omega
    obtain ⟨q,hq⟩:∃ q:Nat,gi pl i=(q:Int):=⟨(gi pl i).toNat,by omega⟩
    have hcell:=har.cell i
    rw [ic_get (by have:=HP.out.len;omega),hq] at hcell
    rw [hq] at hgp
    have z2:(q:Int)<(p:Int):=hgp.2
    have hqr:q<rs.length:=by omega
    obtain ⟨r,hr⟩:∃ r,rs[q]? = some r:=⟨_,List.getElem?_eq_getElem hqr⟩
    obtain ⟨⟨rA,rn,rc⟩,rl⟩:=r
    have HQQ:=Lib.hid (show (rs.map fun r=>vS r.1)[q]? = some (.slice rA rn rc) by rw [List.getElem?_map,hr];rfl)
    have hrow:=(hgr.arr.cell q).trans HQQ.out
    have hlr:=hrs _ (List.mem_of_getElem? hr)
    have hsz:=hgr.size
    have HLI:=Lib.hid (show i<n/\n<=64/\rl.length<=i from ⟨hlt,HN.out,hlr⟩)
    have hgw:=hgr.arr.lt
    have HRR:=Lib.hid hr
    have HG:=Lib.hid (hgr.grow ((Below.refl wr.heap.size wr).alloc (Nat.le_refl _) (.cells #[.int .i64 (i:Int)] 3)))
    have HRL:=Lib.hid (show rs.length=p/\(∀ r∈rs,r.2.length<=i) from ⟨hrl,hrs⟩)
    have HGX:=Lib.hid (HG.out.own q _ hr)
    have HGA:=Lib.hid (show ∀ W1,(∀ c,c<(wr.alloc (.cells #[.int .i64 (i:Int)] 3)).heap.size->(vS (rA,rn,rc)).ownBlock≠some c->W1.heap[c]? = (wr.alloc (.cells #[.int .i64 (i:Int)] 3)).heap[c]?)->Arr W1 g 22 (rs.map fun r=>vS r.1) from fun W1 hW1=>(hW1 g HG.out.arr.lt (HGX.out.apart HG.out.arr (by decide))).trans HG.out.arr)
    have hn64:=HN.out
    clear hgr har hq hgp hr hlr hrs hrl hqr hlt
    go_wp2_with (at_builtin;refine wpList_appIx rfl _ _ 22 rfl Try.underlying22 HI.out HZ0.out HZ1.out HZ2.out rfl HGX.out (b:=wr.heap.size) (y:=(i:Int)) rfl (by simp [go_sem]) (by have:=HLI.out;show rl.length<=_;omega) (by simp;omega) ?_;intro v' w1 hown1 hbel1 hkx1 hmv1;obtain ⟨vA,vc,hvf⟩:=hown1.form;rw [show (rl ++ [(i:Int)]).length=rl.length+1 from List.length_append] at hvf;subst hvf;have HNX:=Lib.hid (HG.out.app (s:=(vA,rl.length+1,vc)) HRR.out HLI.out.1 hown1 hbel1 hkx1 hmv1);have hga:=HGA.out w1 hkx1;have hfz1:=hga.frozen q;have hgw1:=hga.lt;have hgc1:=(hga.cell q).trans HQQ.out;clear hga hown1 hbel1 hkx1 hmv1)
    go_roundg (n-(i+1))
    case measure=>have:=HLI.out;omega
    case rel =>
     refine ⟨i+1,by have:=HLI.out;omega,rfl,by go_num,Lib.hid ⟨_,?_,fun r hr=>?_,HNX.out⟩⟩
     · rw [List.length_set];exact HRL.out.1
     obtain ⟨j,hj⟩:=List.getElem?_of_mem hr
     rw [List.getElem?_set] at hj
     split at hj
     · split at hj
       · cases hj;have:=HLI.out;simp;omega
       · cases hj
     · have:=HRL.out.2 r (List.mem_of_getElem? hj);omega
  · have z1:¬ (i:Int)<(n:Int):=by omega
    have HGR:=Lib.hid (hgr.rws hrl (by have:=HPL.out;have:=HN.out;omega) fun r hr=>by have:=hrs r hr;have:=HN.out;omega)
    have HBB:=Lib.hid (HB5.out.trans (hgr.bel.mono HG5.out))
    clear hgr hrs hrl
    go_wp2_with fail
    go_ret
    exact ⟨_,rfl,⟨_,by rw [<- HNN.out];exact HGR.out.low HG5.out⟩,HBB.out⟩
structure SvS (B g b1 b2 m n:Nat) (vs vm:Value) (L:Int) (w3 W:World):Prop where
 arr:Arr W g 42 [vs,vm,.int .i64 L,.slice (some ⟨b1,0,none⟩) m m,.slice (some ⟨b2,0,none⟩) n n]
 o1:∃ LL:List Int,LL.length=m/\OwnI 3 B W (.slice (some ⟨b1,0,none⟩) m m) LL
 o2:∃ PP:List Int,PP.length=n/\OwnI 3 B W (.slice (some ⟨b2,0,none⟩) n n) PP
 ne:b1≠b2
 bel:Below B w3 W
 le:B<=g
theorem SvS.below {B g b1 b2 m n:Nat} {vs vm:Value} {L:Int} {w3 W W2:World} (h:SvS B g b1 b2 m n vs vm L w3 W) (hb:Below W.heap.size W W2):SvS B g b1 b2 m n vs vm L w3 W2:=by
 obtain ⟨LL,l1,l2⟩:=h.o1
 obtain ⟨PP,p1,p2⟩:=h.o2
 have hs:B<=W.heap.size:=Nat.le_trans h.le (Nat.le_of_lt h.arr.lt)
 exact ⟨h.arr.below hb h.arr.lt,⟨LL,l1,l2.below hb (Nat.le_refl _)⟩,⟨PP,p1,p2.below hb (Nat.le_refl _)⟩,h.ne,h.bel.trans (hb.mono hs),h.le⟩
theorem info_sheet:(Try.prog.info? 42).map (·.size)=some 5:=by kernel_rfl
theorem flat_eS (ss:List SVt) (i:Nat):(ss.flatMap eS)[i]? = (ss[i]?).map vS:=by
 rw [show ss.flatMap eS=ss.map vS from by
  induction ss with
  | nil=>rfl
  | cons s ss ih=>rw [List.flatMap_cons,ih];rfl,List.getElem?_map]
theorem Rws.at_ {b N i n c:Nat} {w:World} {A:Option Addr} {lls:List (List Int)} (h:Rws b N w (.slice A n c) lls) (hi:i<lls.length):∃ g o rA rc,A=some ⟨g,o,none⟩/\g<w.heap.size/\w.cell? ⟨g,o+i,none⟩=some (.slice rA lls[i].length rc)/\OwnI 3 b w (.slice rA lls[i].length rc) lls[i]:=by
 obtain ⟨ss,h1,h2,h3⟩:=h.own
 obtain ⟨A',c',hv,hle,hx⟩:=h2.sl
 injection hv with e1 e2 e3
 subst e1
 have hi2:i<ss.length:=by omega
 obtain ⟨g,o,hA,hc⟩:=hx i (vS ss[i]) (by rw [flat_eS,List.getElem?_eq_getElem hi2];rfl)
 have ho:=h3 i ss[i] lls[i] (List.getElem?_eq_getElem hi2) (List.getElem?_eq_getElem hi)
 obtain ⟨rA,rc,hf⟩:=ho.form
 rw [hf] at hc ho
 exact ⟨g,o,rA,rc,hA,block_lt_of_cell hc,hc,ho⟩
theorem SvS.left {B g b1 b2 m n x:Nat} {vs vm:Value} {L y:Int} {w3 W:World} (h:SvS B g b1 b2 m n vs vm L w3 W) (hx:x<m):∃ u,W.cell? ⟨b1,x,none⟩=some u/\W.frozen? ⟨b1,x,none⟩=false/\b1<W.heap.size/\SvS B g b1 b2 m n vs vm L w3 (W.setCell ⟨b1,x,none⟩ (.int .i64 y)):=by
 obtain ⟨LL,l1,l2⟩:=h.o1
 obtain ⟨PP,p1,p2⟩:=h.o2
 obtain ⟨b,hA,hb,hn,hc,hf,hs⟩:=l2.setAt (i:=x) (by omega)
 injection hA with hA
 injection hA with hA
 subst hA
 have n1:b1≠g:=fun e=>l2.apart h.arr (by decide) (by rw [e];rfl)
 have n2:(Value.slice (some ⟨b2,0,none⟩) n n).ownBlock≠some b1:=fun e=>by injection e with e;exact h.ne e.symm
 refine ⟨_,hc,hf,l2.ltB b1 rfl,?_,⟨_,by rw [List.length_set];exact l1,hs y⟩,⟨PP,p1,p2.far n2 _⟩,h.ne,h.bel.setCell (p:=⟨b1,x,none⟩) hb _,h.le⟩
 exact (Below.heap_setCell W ⟨b1,x,none⟩ _ g (fun e=>n1 e.symm)).trans h.arr
theorem SvS.part {B g b1 b2 m n x:Nat} {vs vm:Value} {L y:Int} {w3 W:World} (h:SvS B g b1 b2 m n vs vm L w3 W) (hx:x<n):∃ u,W.cell? ⟨b2,x,none⟩=some u/\W.frozen? ⟨b2,x,none⟩=false/\b2<W.heap.size/\SvS B g b1 b2 m n vs vm L w3 (W.setCell ⟨b2,x,none⟩ (.int .i64 y)):=by
 obtain ⟨LL,l1,l2⟩:=h.o1
 obtain ⟨PP,p1,p2⟩:=h.o2
 obtain ⟨b,hA,hb,hn,hc,hf,hs⟩:=p2.setAt (i:=x) (by omega)
 injection hA with hA
 injection hA with hA
 subst hA
 have n1:b2≠g:=fun e=>p2.apart h.arr (by decide) (by rw [e];rfl)
 have n2:(Value.slice (some ⟨b1,0,none⟩) m m).ownBlock≠some b2:=fun e=>by injection e with e;exact h.ne e
 refine ⟨_,hc,hf,p2.ltB b2 rfl,?_,⟨LL,l1,l2.far n2 _⟩,⟨_,by rw [List.length_set];exact p1,hs y⟩,h.ne,h.bel.setCell (p:=⟨b2,x,none⟩) hb _,h.le⟩
 exact (Below.heap_setCell W ⟨b2,x,none⟩ _ g (fun e=>n1 e.symm)).trans h.arr
set_option maxHeartbeats 4000000 in
set_option maxRecDepth 100000 in
theorem survey_any {S M:List Int} {L:Int} (hv:valB S M L=true) (k:Ok S M L) (vs vm:Value) (w:World) (hS:Ints w vs S) (hM:Ints w vm M) :
 Calls Try.prog 16 #[.agg #[vs,vm,.int .i64 L]] w fun e w'=>∃ vl vp LL PP,e=.returned (.agg #[vs,vm,.int .i64 L,vl,vp])/\Ints w' vl LL/\LL.length=M.length/\Ints w' vp PP/\PP.length=S.length/\Below w.heap.size w w':=by
 have hW:∀ W,W=(w.alloc (.cells #[vs,vm,.int .i64 L] 24)).alloc (.cells #[.slice none 0 0,.slice none 0 0,.int .i64 0,.slice none 0 0,.slice none 0 0] 42)->Arr W w.heap.size 24 [vs,vm,.int .i64 L]/\Arr W (w.heap.size+1) 42 [.slice none 0 0,.slice none 0 0,.int .i64 0,.slice none 0 0,.slice none 0 0]/\Below w.heap.size w W/\W.heap.size=w.heap.size+2:=by
  intro W hW
  subst hW
  exact ⟨(Arr.new _ _ [_,_,_]).alloc _,Arr.newAt (w.alloc _) _ [_,_,_,_,_] _ (by simp),((Below.refl _ _).alloc (Nat.le_refl _) _).alloc (by simp) _,by simp⟩
 have HK:=Lib.hid k
 have HV:=Lib.hid hv
 have hM9:M.length<=1000000:=by have:=k.n;have:=k.m;omega
 have hS9:S.length<=1000000:=by have:=k.n;omega
 have GS:=Lib.hid hS
 have GM:=Lib.hid hM
 obtain ⟨A,ca,rfl,hc,hx⟩:=hS
 obtain ⟨A2,cb,rfl,hc2,hx2⟩:=hM
 clear hx hx2 k hv hc hc2
 go_enter Try.func16,Try.ntmps16
 go_upto_region 1 with fail
 generalize ((w.alloc (.cells #[.slice A S.length ca,.slice A2 M.length cb,.int .i64 L] 24)).alloc (.cells #[.slice none 0 0,.slice none 0 0,.int .i64 0,.slice none 0 0,.slice none 0 0] 42))=w3 at hW ⊢
 obtain ⟨qa,qr,hb3,hs3⟩:=hW w3 rfl
 clear hW
 refine wp_region_phis 11 (by kernel_rfl) (by kernel_rfl) (by kernel_rfl) (by kernel_rfl) (by kernel_rfl) rfl (by kernel_rfl) (phiT (fun i=>([some (.agg #[.slice A S.length ca,.slice A2 M.length cb,.int .i64 L]),some (.pointer (some ⟨w.heap.size,1,none⟩)),some (.slice A2 M.length cb),some (.int .i64 (M.length:Int)),none,some (.pointer (some ⟨w.heap.size,0,none⟩)),some (.slice A S.length ca),some (.int .i64 (S.length:Int)),none,none,none,some (undef)]:List (Option Value)).getD i none) (fun i v w=>(if i=4 then (fun (v:Value) (w:World)=>∃ b,v=.slice (some ⟨b,0,none⟩) M.length M.length/\OwnI 3 w3.heap.size w v (List.replicate M.length (0:Int))) v w else (if i=8 then (fun (v:Value) (w:World)=>∃ b,v=.slice (some ⟨b,0,none⟩) S.length S.length/\OwnI 3 w3.heap.size w v (List.replicate S.length (0:Int))) v w else (if i=9 then (fun (v:Value) (w:World)=>∃ b1 b2,v=.agg #[.slice A S.length ca,.slice A2 M.length cb,.int .i64 L,.slice (some ⟨b1,0,none⟩) M.length M.length,.slice (some ⟨b2,0,none⟩) S.length S.length]/\OwnI 3 w3.heap.size w (.slice (some ⟨b1,0,none⟩) M.length M.length) (List.replicate M.length (0:Int))/\OwnI 3 w3.heap.size w (.slice (some ⟨b2,0,none⟩) S.length S.length) (List.replicate S.length (0:Int))/\b1≠b2) v w else (if i=10 then (fun (v:Value) (w:World)=>∃ g,v=.pointer (some ⟨g,0,none⟩)/\w3.heap.size<=g/\Arr w g 42 [.slice none 0 0,.slice none 0 0,.int .i64 0,.slice none 0 0,.slice none 0 0]) v w else True)))))) (fun i v w w' h hb=>?_) (fun i=>decide (i=4) || decide (i=8)) (fun i v w hi h k hk=>?_) (fun x W=>∃ g b1 b2,x 10=.pointer (some ⟨g,0,none⟩)/\Arr W g 42 [.slice A S.length ca,.slice A2 M.length cb,.int .i64 L,.slice (some ⟨b1,0,none⟩) M.length M.length,.slice (some ⟨b2,0,none⟩) S.length S.length]/\OwnI 3 w3.heap.size W (.slice (some ⟨b1,0,none⟩) M.length M.length) (List.replicate M.length (0:Int))/\OwnI 3 w3.heap.size W (.slice (some ⟨b2,0,none⟩) S.length S.length) (List.replicate S.length (0:Int))/\b1≠b2/\w3.heap.size<=g/\Below w3.heap.size w3 W) ⟨?_,?_,?_,?_,?_,?_,?_,?_,?_,?_,?_,?_,trivial⟩ ?_
 · unfold phiT at h ⊢
   split
   · next u hu=>rw [hu] at h;exact h
   · next hu =>
     rw [hu] at h
     simp only at h ⊢
     by_cases q4:i=4
     · rw [if_pos q4] at h ⊢;exact (by obtain ⟨b,e,h1⟩:=(show ∃ b,v=.slice (some ⟨b,0,none⟩) M.length M.length/\OwnI 3 w3.heap.size w v (List.replicate M.length (0:Int)) from h);exact ⟨b,e,h1.below hb (Nat.le_refl _)⟩)
     · rw [if_neg q4] at h ⊢
       by_cases q8:i=8
       · rw [if_pos q8] at h ⊢;exact (by obtain ⟨b,e,h1⟩:=(show ∃ b,v=.slice (some ⟨b,0,none⟩) S.length S.length/\OwnI 3 w3.heap.size w v (List.replicate S.length (0:Int)) from h);exact ⟨b,e,h1.below hb (Nat.le_refl _)⟩)
       · rw [if_neg q8] at h ⊢
         by_cases q9:i=9
         · rw [if_pos q9] at h ⊢;exact (by obtain ⟨b1,b2,e,h1,h2,h3⟩:=(show ∃ b1 b2,v=.agg #[.slice A S.length ca,.slice A2 M.length cb,.int .i64 L,.slice (some ⟨b1,0,none⟩) M.length M.length,.slice (some ⟨b2,0,none⟩) S.length S.length]/\OwnI 3 w3.heap.size w (.slice (some ⟨b1,0,none⟩) M.length M.length) (List.replicate M.length (0:Int))/\OwnI 3 w3.heap.size w (.slice (some ⟨b2,0,none⟩) S.length S.length) (List.replicate S.length (0:Int))/\b1≠b2 from h);exact ⟨b1,b2,e,h1.below hb (Nat.le_refl _),h2.below hb (Nat.le_refl _),h3⟩)
         · rw [if_neg q9] at h ⊢
           by_cases q10:i=10
           · rw [if_pos q10] at h ⊢;exact (by obtain ⟨g,e,h1,h2⟩:=(show ∃ g,v=.pointer (some ⟨g,0,none⟩)/\w3.heap.size<=g/\Arr w g 42 [.slice none 0 0,.slice none 0 0,.int .i64 0,.slice none 0 0,.slice none 0 0] from h);exact ⟨g,e,h1,h2.below hb h2.lt⟩)
           · rw [if_neg q10] at h ⊢
             trivial
 · simp only [Bool.or_eq_true,decide_eq_true_eq,Bool.false_eq_true] at hi
   rcases hi with rfl|rfl
   · have h2:(fun (v:Value) (w:World)=>∃ b,v=.slice (some ⟨b,0,none⟩) M.length M.length/\OwnI 3 w3.heap.size w v (List.replicate M.length (0:Int))) v w:=h
     exact (by obtain ⟨b,e,h1⟩:=h2;exact h1.ltB k hk)
   · have h2:(fun (v:Value) (w:World)=>∃ b,v=.slice (some ⟨b,0,none⟩) S.length S.length/\OwnI 3 w3.heap.size w v (List.replicate S.length (0:Int))) v w:=h
     exact (by obtain ⟨b,e,h1⟩:=h2;exact h1.ltB k hk)
 · intro x w1 bA hbel hdep hdap hold hb
   refine ⟨fun _=>?_,fun h=>absurd h (by decide)⟩
   have e1:bA.tmps[1]?.getD undef=.pointer (some ⟨w.heap.size,0,none⟩):=hb 1
   have u0:=(qa.below hbel qa.lt).cell 0
   have u1:=(qa.below hbel qa.lt).cell 1
   have u2:=(qa.below hbel qa.lt).cell 2
   refine phf_run (.agg #[.slice A S.length ca,.slice A2 M.length cb,.int .i64 L]) rfl ?_ rfl
   clear hb hdep hdap hold
   go_simp
 · intro x w1 bA hbel hdep hdap hold hb
   refine ⟨fun _=>?_,fun h=>absurd h (by decide)⟩
   have e1:bA.tmps[1]?.getD undef=.pointer (some ⟨w.heap.size,0,none⟩):=hb 1
   refine phf_run (.pointer (some ⟨w.heap.size,1,none⟩)) rfl ?_ rfl
   clear hb hdep hdap hold
   go_simp
 · intro x w1 bA hbel hdep hdap hold hb
   refine ⟨fun _=>?_,fun h=>absurd h (by decide)⟩
   have e13:bA.tmps[13]?.getD undef=.pointer (some ⟨w.heap.size,1,none⟩):=(hb 13).trans (hdep 1 (by decide))
   have u1:=(qa.below hbel qa.lt).cell 1
   refine phf_run (.slice A2 M.length cb) rfl ?_ rfl
   clear hb hdep hdap hold
   go_simp
 · intro x w1 bA hbel hdep hdap hold hb
   refine ⟨fun _=>?_,fun h=>absurd h (by decide)⟩
   have e14:bA.tmps[14]?.getD undef=.slice A2 M.length cb:=(hb 14).trans (hdep 2 (by decide))
   refine phf_run (.int .i64 (M.length:Int)) rfl ?_ rfl
   clear hb hdep hdap hold
   go_simp
 · intro x w1 bA hbel hdep hdap hold hb
   refine ⟨fun _=>?_,fun h=>absurd h (by decide)⟩
   have e15:bA.tmps[15]?.getD undef=.int .i64 (M.length:Int):=(hb 15).trans (hdep 3 (by decide))
   have hmk:=mk_zeros M.length hM9 w1
   refine phf_make (.slice (some ⟨w1.heap.size,0,none⟩) M.length M.length) (w1.alloc (.cells (rowOf (List.replicate M.length (.int .i64 0))) 3)) ?_ ((Below.refl _ _).alloc (Nat.le_refl _) _) (⟨_,rfl,OwnI.zeros hbel.size (by omega)⟩) (fun _ k hk=>(by have hk2:some w1.heap.size=some k:=hk;injection hk2 with hk3;omega))
   clear hb hdep hdap hold
   go_simp
 · intro x w1 bA hbel hdep hdap hold hb
   refine ⟨fun _=>?_,fun h=>absurd h (by decide)⟩
   have e1:bA.tmps[1]?.getD undef=.pointer (some ⟨w.heap.size,0,none⟩):=hb 1
   refine phf_run (.pointer (some ⟨w.heap.size,0,none⟩)) rfl ?_ rfl
   clear hb hdep hdap hold
   go_simp
 · intro x w1 bA hbel hdep hdap hold hb
   refine ⟨fun _=>?_,fun h=>absurd h (by decide)⟩
   have e17:bA.tmps[17]?.getD undef=.pointer (some ⟨w.heap.size,0,none⟩):=(hb 17).trans (hdep 5 (by decide))
   have u0:=(qa.below hbel qa.lt).cell 0
   refine phf_run (.slice A S.length ca) rfl ?_ rfl
   clear hb hdep hdap hold
   go_simp
 · intro x w1 bA hbel hdep hdap hold hb
   refine ⟨fun _=>?_,fun h=>absurd h (by decide)⟩
   have e18:bA.tmps[18]?.getD undef=.slice A S.length ca:=(hb 18).trans (hdep 6 (by decide))
   refine phf_run (.int .i64 (S.length:Int)) rfl ?_ rfl
   clear hb hdep hdap hold
   go_simp
 · intro x w1 bA hbel hdep hdap hold hb
   refine ⟨fun _=>?_,fun h=>absurd h (by decide)⟩
   have e19:bA.tmps[19]?.getD undef=.int .i64 (S.length:Int):=(hb 19).trans (hdep 7 (by decide))
   have hmk:=mk_zeros S.length hS9 w1
   refine phf_make (.slice (some ⟨w1.heap.size,0,none⟩) S.length S.length) (w1.alloc (.cells (rowOf (List.replicate S.length (.int .i64 0))) 3)) ?_ ((Below.refl _ _).alloc (Nat.le_refl _) _) (⟨_,rfl,OwnI.zeros hbel.size (by omega)⟩) (fun _ k hk=>(by have hk2:some w1.heap.size=some k:=hk;injection hk2 with hk3;omega))
   clear hb hdep hdap hold
   go_simp
 · intro x w1 bA hbel hdep hdap hold hb
   refine ⟨fun _=>?_,fun h=>absurd h (by decide)⟩
   have ap16_20:=hdap 4 (by decide) 8 (by decide) (by decide) rfl rfl
   have ap20_16:=hdap 8 (by decide) 4 (by decide) (by decide) rfl rfl
   have e12:bA.tmps[12]?.getD undef=.agg #[.slice A S.length ca,.slice A2 M.length cb,.int .i64 L]:=(hb 12).trans (hdep 0 (by decide))
   have p16:=hdep 4 (by decide)
   have e16:bA.tmps[16]?.getD undef=x 4:=hb 16
   generalize x 4=x16 at *
   have P16:=Lib.hid (show (fun (v:Value) (w:World)=>∃ b,v=.slice (some ⟨b,0,none⟩) M.length M.length/\OwnI 3 w3.heap.size w v (List.replicate M.length (0:Int))) x16 w1 from p16)
   clear p16
   have p20:=hdep 8 (by decide)
   have e20:bA.tmps[20]?.getD undef=x 8:=hb 20
   generalize x 8=x20 at *
   have P20:=Lib.hid (show (fun (v:Value) (w:World)=>∃ b,v=.slice (some ⟨b,0,none⟩) S.length S.length/\OwnI 3 w3.heap.size w v (List.replicate S.length (0:Int))) x20 w1 from p20)
   clear p20
   obtain ⟨B1,x16e,P16b⟩:=P16.out
   obtain ⟨B2,x20e,P20b⟩:=P20.out
   subst x16e x20e
   have ap:=ap16_20 B1 rfl
   refine phf_make (_) (w1) ?_ (Below.refl _ _) (⟨_,_,rfl,P16b,P20b,fun e=>ap (by rw [e];rfl)⟩) (fun h=>Bool.noConfusion h)
   clear hb hdep hdap hold
   go_simp
 · intro x w1 bA hbel hdep hdap hold hb
   refine ⟨fun _=>?_,fun h=>absurd h (by decide)⟩
   refine phf_make (.pointer (some ⟨w1.heap.size,0,none⟩)) (w1.alloc (.cells #[.slice none 0 0,.slice none 0 0,.int .i64 0,.slice none 0 0,.slice none 0 0] 42)) ?_ ((Below.refl _ _).alloc (Nat.le_refl _) _) (⟨_,rfl,hbel.size,Arr.new _ _ [_,_,_,_,_]⟩) (fun h=>Bool.noConfusion h)
   clear hb hdep hdap hold
   go_simp
 · intro x w1 bA hbel hdep hdap hold hb
   refine ⟨fun h=>absurd h (by decide),fun _ hall=>?_⟩
   have e3:bA.tmps[3]?.getD undef=x 10:=hb 3
   have e21:bA.tmps[21]?.getD undef=x 9:=hb 21
   have p16:=Lib.hid (show (fun (v:Value) (w:World)=>∃ b,v=.slice (some ⟨b,0,none⟩) M.length M.length/\OwnI 3 w3.heap.size w v (List.replicate M.length (0:Int))) (x 4) w1 from hall 4 (by decide))
   have p20:=Lib.hid (show (fun (v:Value) (w:World)=>∃ b,v=.slice (some ⟨b,0,none⟩) S.length S.length/\OwnI 3 w3.heap.size w v (List.replicate S.length (0:Int))) (x 8) w1 from hall 8 (by decide))
   have p21:=Lib.hid (show (fun (v:Value) (w:World)=>∃ b1 b2,v=.agg #[.slice A S.length ca,.slice A2 M.length cb,.int .i64 L,.slice (some ⟨b1,0,none⟩) M.length M.length,.slice (some ⟨b2,0,none⟩) S.length S.length]/\OwnI 3 w3.heap.size w (.slice (some ⟨b1,0,none⟩) M.length M.length) (List.replicate M.length (0:Int))/\OwnI 3 w3.heap.size w (.slice (some ⟨b2,0,none⟩) S.length S.length) (List.replicate S.length (0:Int))/\b1≠b2) (x 9) w1 from hall 9 (by decide))
   have p3:=Lib.hid (show (fun (v:Value) (w:World)=>∃ g,v=.pointer (some ⟨g,0,none⟩)/\w3.heap.size<=g/\Arr w g 42 [.slice none 0 0,.slice none 0 0,.int .i64 0,.slice none 0 0,.slice none 0 0]) (x 10) w1 from hall 10 (by decide))
   clear hb hdep hdap hold
   obtain ⟨b1,b2,e21b,o1,o2,o3⟩:=p21.out
   rw [e21b] at e21
   obtain ⟨g,e3b,hg,ag⟩:=p3.out
   rw [e3b] at e3
   have HXg:=Lib.hid e3b
   have O1:=Lib.hid o1
   have O2:=Lib.hid o2
   have c0:=ag.cell 0
   have c1:=ag.cell 1
   have c2:=ag.cell 2
   have c3:=ag.cell 3
   have c4:=ag.cell 4
   have f0:=ag.frozen 0
   have f1:=ag.frozen 1
   have f2:=ag.frozen 2
   have f3:=ag.frozen 3
   have f4:=ag.frozen 4
   have AG:=Lib.hid ag
   clear ag o1 o2 p16 p20 p21 p3
   have hg1:=O1.out.apart AG.out (by decide)
   have hg2:=O2.out.apart AG.out (by decide)
   refine phs_store (n:=11) (x:=x) (R:=fun x W=>∃ g b1 b2,x 10=.pointer (some ⟨g,0,none⟩)/\Arr W g 42 [.slice A S.length ca,.slice A2 M.length cb,.int .i64 L,.slice (some ⟨b1,0,none⟩) M.length M.length,.slice (some ⟨b2,0,none⟩) S.length S.length]/\OwnI 3 w3.heap.size W (.slice (some ⟨b1,0,none⟩) M.length M.length) (List.replicate M.length (0:Int))/\OwnI 3 w3.heap.size W (.slice (some ⟨b2,0,none⟩) S.length S.length) (List.replicate S.length (0:Int))/\b1≠b2/\w3.heap.size<=g/\Below w3.heap.size w3 W) (((((w1.setCell ⟨g,0,none⟩ (.slice A S.length ca)).setCell ⟨g,1,none⟩ (.slice A2 M.length cb)).setCell ⟨g,2,none⟩ (.int .i64 L)).setCell ⟨g,3,none⟩ (.slice (some ⟨b1,0,none⟩) M.length M.length)).setCell ⟨g,4,none⟩ (.slice (some ⟨b2,0,none⟩) S.length S.length)) ?_ rfl (fun v=>⟨g,b1,b2,(by simpa [upd] using HXg.out),((((AG.out.set 0 _).set 1 _).set 2 _).set 3 _).set 4 _,(((((O1.out.far hg1 _).far hg1 _).far hg1 _).far hg1 _).far hg1 _),(((((O2.out.far hg2 _).far hg2 _).far hg2 _).far hg2 _).far hg2 _),o3,hg,((((hbel.setCell (p:=⟨g,0,none⟩) hg _).setCell (p:=⟨g,1,none⟩) hg _).setCell (p:=⟨g,2,none⟩) hg _).setCell (p:=⟨g,3,none⟩) hg _).setCell (p:=⟨g,4,none⟩) hg _⟩)
   clear e21b e3b
   go_simp
 intro x w5 hR
 obtain ⟨g,b1,b2,h10,hA,o1,o2,hne,hg,hb5⟩:=hR
 simp only [putAll,dstOf,Act.put,List.map_cons,List.map_nil,List.setIfInBounds_toArray,List.set_cons_succ,List.set_cons_zero,Nat.reduceAdd]
 rw [h10]
 obtain ⟨n,hn⟩:∃ n,n=S.length:=⟨_,rfl⟩
 obtain ⟨m,hm⟩:∃ m,m=M.length:=⟨_,rfl⟩
 obtain ⟨H,hH⟩:∃ H,H=w3.heap.size:=⟨_,rfl⟩
 have hsv:SvS H g b1 b2 m n (.slice A n ca) (.slice A2 m cb) L w3 w5:=by
  rw [hH,hm,hn]
  exact ⟨hA,⟨_,by simp,o1⟩,⟨_,by simp,o2⟩,hne,hb5,hg⟩
 have HF:=Lib.hid (faces_any HV.out HK.out _ _ w5 (GS.out.below (hb3.trans (hb5.mono (by rw [hs3];omega)))) (GM.out.below (hb3.trans (hb5.mono (by rw [hs3];omega)))))
 have HDD:=Lib.hid (fun W (hb:Below H w3 W)=>qa.below (by rw [hH] at hb;exact hb) qa.lt)
 have HRS:=Lib.hid (fun W (hb:Below H w3 W)=>qr.below (by rw [hH] at hb;exact hb) qr.lt)
 have qd:=HDD.out w5 (by rw [hH];exact hb5)
 have HSZ:=Lib.hid (show H=w.heap.size+2 by rw [hH];exact hs3)
 have hb1:b1<w5.heap.size:=o1.ltB b1 rfl
 have hb2:b2<w5.heap.size:=o2.ltB b2 rfl
 have HTOP:=Lib.hid (show ∀ W,Below H w3 W->Below w.heap.size w W from fun W hb=>hb3.trans (hb.mono (by rw [hH,hs3];omega)))
 have HMS:=Lib.hid (show m=M.length/\n=S.length from ⟨hm,hn⟩)
 have HSV:=Lib.hid hsv
 have d0:w5.cell? ⟨w.heap.size,0,none⟩=some (.slice A n ca):=by rw [hn];exact qd.cell 0
 have d1:w5.cell? ⟨w.heap.size,1,none⟩=some (.slice A2 m cb):=by rw [hm];exact qd.cell 1
 have d2:w5.cell? ⟨w.heap.size,2,none⟩=some (.int .i64 L):=qd.cell 2
 rw [<- hm,<- hn] at HF
 rw [<- hm,<- hn]
 have sgl:=hsv.arr.lt
 clear hsv qd hA o1 o2 hb5 hg hn hm hH h10 qa qr hM9 hS9
 go_wp2_with fail
 refine HF.out.mono ?_
 rintro e w6 ⟨v,lls,rfl,hrw,hb6⟩
 have HN9:=Lib.hid hrw.len
 have HRGL:=Lib.hid hrw.rg
 obtain ⟨Af,cf,hvf⟩:∃ A c,v=.slice A lls.length c:=by obtain ⟨ss,h1,h2,h3⟩:=hrw.own;obtain ⟨A,c,h⟩:=h2.form;exact ⟨A,c,by rw [h,h1]⟩
 subst hvf
 obtain ⟨n1,hn1⟩:∃ k,k=lls.length:=⟨_,rfl⟩
 have HLN:=Lib.hid hn1
 rw [<- hn1] at HN9 hrw ⊢
 have HST:=Lib.hid (show SvS H g b1 b2 m n (.slice A n ca) (.slice A2 m cb) L w3 w6/\Rws w5.heap.size m w6 (.slice Af n1 cf) lls from ⟨HSV.out.below hb6,hrw⟩)
 have HBL:=Lib.hid hb1
 have hsz:=hb6.size
 clear hb6 hrw hn1 d0 d1 d2
 go_wp2_with fail
 go_loopg [25] n1 (fun gk s25 wr=>∃ i:Nat,i<=n1/\gk=n1-i/\s25=.int .i64 (i:Int)/\Hid (SvS H g b1 b2 m n (.slice A n ca) (.slice A2 m cb) L w3 wr/\Rws w5.heap.size m wr (.slice Af n1 cf) lls))
 case atStart=>exact ⟨0,Nat.zero_le _,rfl,rfl,HST⟩
 case round =>
  clear HST
  obtain ⟨i,hi,rfl,rfl,HR⟩:=hrel
  obtain ⟨hsv,hrw⟩:=HR.out
  clear HR
  by_cases hlt:i<n1
  · have z1:(i:Int)<(n1:Int):=by omega
    have hil:i<lls.length:=by have:=HLN.out;omega
    obtain ⟨rb,ro,rA,rc,hA,hrlt,hcell,hrow⟩:=hrw.at_ hil
    subst hA
    have HRG:=Lib.hid (HRGL.out _ (List.getElem_mem hil))
    generalize lls[i]=l at *
    have HST:=Lib.hid (show SvS H g b1 b2 m n (.slice A n ca) (.slice A2 m cb) L w3 wr/\Rws w5.heap.size m wr (.slice (some ⟨rb,ro,none⟩) n1 cf) lls/\OwnI 3 w5.heap.size wr (.slice rA l.length rc) l from ⟨hsv,hrw,hrow⟩)
    obtain ⟨ln,hln⟩:∃ k,k=l.length:=⟨_,rfl⟩
    have HLL:=Lib.hid hln
    rw [<- hln] at HST hcell
    have hn9:=HN9.out
    have hln9:ln<=1000:=by rw [hln];exact HRG.out.1
    have sgl:g<wr.heap.size:=hsv.arr.lt
    clear hsv hrw hrow hln hil hlt
    go_wp2_with fail
    go_loopg [32] ln (fun gk s32 wr=>∃ j:Nat,j<=ln/\gk=ln-j/\s32=.int .i64 (j:Int)/\Hid (SvS H g b1 b2 m n (.slice A n ca) (.slice A2 m cb) L w3 wr/\Rws w5.heap.size m wr (.slice (some ⟨rb,ro,none⟩) n1 cf) lls/\OwnI 3 w5.heap.size wr (.slice rA ln rc) l))
    case atStart=>exact ⟨0,Nat.zero_le _,rfl,rfl,HST⟩
    case round =>
     clear HST
     obtain ⟨j,hj,rfl,rfl,HR⟩:=hrel
     obtain ⟨hsv,hrw,hrow⟩:=HR.out
     clear HR
     by_cases hlj:j<ln
     · have z2:(j:Int)<(ln:Int):=by omega
       have hjl:j<l.length:=by have:=HLL.out;omega
       obtain ⟨b,o,hA,_,hcj⟩:=hrow.ints.at_ hjl
       subst hA
       obtain ⟨y,hy,hyN⟩:=HRG.out.2 l[j] (List.getElem_mem hjl)
       rw [hy] at hcj
       have z3:(y:Int)<(m:Int):=by omega
       have sg:=hsv.arr.cell 3
       obtain ⟨u,hu,hfz,hbl,hnx⟩:=hsv.left (y:=(i:Int)) hyN
       have hne:(Value.slice (some ⟨b,o,none⟩) ln rc).ownBlock≠some b1:=fun e=>by have:=hrow.block _ e;have:=HBL.out;omega
       have HNX:=Lib.hid (show SvS H g b1 b2 m n (.slice A n ca) (.slice A2 m cb) L w3 (wr.setCell ⟨b1,y,none⟩ (.int .i64 (i:Int)))/\Rws w5.heap.size m (wr.setCell ⟨b1,y,none⟩ (.int .i64 (i:Int))) (.slice (some ⟨rb,ro,none⟩) n1 cf) lls/\OwnI 3 w5.heap.size (wr.setCell ⟨b1,y,none⟩ (.int .i64 (i:Int))) (.slice (some ⟨b,o,none⟩) ln rc) l from ⟨hnx,hrw.set (p:=⟨b1,y,none⟩) HBL.out _,hrow.far hne _⟩)
       clear hsv hrw hrow hy hnx hne
       go_wp2_with fail
       go_roundg (ln-(j+1))
       case measure=>omega
       case rel=>exact ⟨j+1,by omega,rfl,by go_num,HNX⟩
     · have z2:¬ (j:Int)<(ln:Int):=by omega
       have HNX:=Lib.hid (show SvS H g b1 b2 m n (.slice A n ca) (.slice A2 m cb) L w3 wr/\Rws w5.heap.size m wr (.slice (some ⟨rb,ro,none⟩) n1 cf) lls from ⟨hsv,hrw⟩)
       clear hsv hrw hrow
       go_wp2_with fail
       go_roundg (n1-(i+1))
       case measure=>omega
       case rel=>exact ⟨i+1,by omega,rfl,by go_num,HNX⟩
  · have z1:¬ (i:Int)<(n1:Int):=by omega
    have HD2:=Lib.hid (HTOP.out wr hsv.bel)
    have HSV2:=Lib.hid hsv
    have qd:=HDD.out wr hsv.bel
    have d0:wr.cell? ⟨w.heap.size,0,none⟩=some (.slice A n ca):=by rw [HMS.out.2];exact qd.cell 0
    have d1:wr.cell? ⟨w.heap.size,1,none⟩=some (.slice A2 m cb):=by rw [HMS.out.1];exact qd.cell 1
    have d2:wr.cell? ⟨w.heap.size,2,none⟩=some (.int .i64 L):=qd.cell 2
    have HG:=Lib.hid (graph_any HV.out HK.out _ _ wr (GS.out.below HD2.out) (GM.out.below HD2.out))
    rw [<- HMS.out.1,<- HMS.out.2] at HG
    have sgl2:=hsv.arr.lt
    obtain ⟨PP,hp1,hp2⟩:=hsv.o2
    have hb2:b2<wr.heap.size:=hp2.ltB b2 rfl
    clear hsv hrw qd hp1 hp2 HBL
    go_wp2_with fail
    refine HG.out.mono ?_
    rintro e w7 ⟨v,lls2,rfl,hrw,hb7⟩
    obtain ⟨HB2,hHB⟩:∃ k,k=wr.heap.size:=⟨_,rfl⟩
    rw [<- hHB] at hrw hb2
    have HN9:=Lib.hid hrw.len
    have HRGL:=Lib.hid hrw.rg
    obtain ⟨Ag,cg,hvf⟩:∃ A c,v=.slice A lls2.length c:=by obtain ⟨ss,h1,h2,h3⟩:=hrw.own;obtain ⟨A,c,h⟩:=h2.form;exact ⟨A,c,by rw [h,h1]⟩
    subst hvf
    obtain ⟨n2,hn2⟩:∃ k,k=lls2.length:=⟨_,rfl⟩
    have HLN:=Lib.hid hn2
    rw [<- hn2] at HN9 hrw ⊢
    have HST:=Lib.hid (show SvS H g b1 b2 m n (.slice A n ca) (.slice A2 m cb) L w3 w7/\Rws HB2 n w7 (.slice Ag n2 cg) lls2 from ⟨HSV2.out.below hb7,hrw⟩)
    have HBL:=Lib.hid hb2
    have hsz2:=hb7.size
    clear hb7 hrw hn2 d0 d1 d2
    go_wp2_with fail
    go_loopg [46] n2 (fun gk s46 wr=>∃ i:Nat,i<=n2/\gk=n2-i/\s46=.int .i64 (i:Int)/\Hid (SvS H g b1 b2 m n (.slice A n ca) (.slice A2 m cb) L w3 wr/\Rws HB2 n wr (.slice Ag n2 cg) lls2))
    case atStart=>exact ⟨0,Nat.zero_le _,rfl,rfl,HST⟩
    case round =>
     clear HST
     obtain ⟨i,hi,rfl,rfl,HR⟩:=hrel
     obtain ⟨hsv,hrw⟩:=HR.out
     clear HR
     by_cases hlt:i<n2
     · have z1:(i:Int)<(n2:Int):=by omega
       have hil:i<lls2.length:=by have:=HLN.out;omega
       obtain ⟨rb,ro,rA,rc,hA,hrlt,hcell,hrow⟩:=hrw.at_ hil
       subst hA
       have HRG:=Lib.hid (HRGL.out _ (List.getElem_mem hil))
       generalize lls2[i]=l at *
       have HST:=Lib.hid (show SvS H g b1 b2 m n (.slice A n ca) (.slice A2 m cb) L w3 wr/\Rws HB2 n wr (.slice (some ⟨rb,ro,none⟩) n2 cg) lls2/\OwnI 3 HB2 wr (.slice rA l.length rc) l from ⟨hsv,hrw,hrow⟩)
       obtain ⟨ln,hln⟩:∃ k,k=l.length:=⟨_,rfl⟩
       have HLL:=Lib.hid hln
       rw [<- hln] at HST hcell
       have hn9:=HN9.out
       have hln9:ln<=1000:=by rw [hln];exact HRG.out.1
       have sgl:g<wr.heap.size:=hsv.arr.lt
       clear hsv hrw hrow hln hil hlt
       go_wp2_with fail
       go_loopg [53] ln (fun gk s53 wr=>∃ j:Nat,j<=ln/\gk=ln-j/\s53=.int .i64 (j:Int)/\Hid (SvS H g b1 b2 m n (.slice A n ca) (.slice A2 m cb) L w3 wr/\Rws HB2 n wr (.slice (some ⟨rb,ro,none⟩) n2 cg) lls2/\OwnI 3 HB2 wr (.slice rA ln rc) l))
       case atStart=>exact ⟨0,Nat.zero_le _,rfl,rfl,HST⟩
       case round =>
        clear HST
        obtain ⟨j,hj,rfl,rfl,HR⟩:=hrel
        obtain ⟨hsv,hrw,hrow⟩:=HR.out
        clear HR
        by_cases hlj:j<ln
        · have z2:(j:Int)<(ln:Int):=by omega
          have hjl:j<l.length:=by have:=HLL.out;omega
          obtain ⟨b,o,hA,_,hcj⟩:=hrow.ints.at_ hjl
          subst hA
          obtain ⟨y,hy,hyN⟩:=HRG.out.2 l[j] (List.getElem_mem hjl)
          rw [hy] at hcj
          have z3:(y:Int)<(n:Int):=by omega
          have sg:=hsv.arr.cell 4
          obtain ⟨u,hu,hfz,hbl,hnx⟩:=hsv.part (y:=(i:Int)) hyN
          have hne:(Value.slice (some ⟨b,o,none⟩) ln rc).ownBlock≠some b2:=fun e=>by have:=hrow.block _ e;have:=HBL.out;omega
          have HNX:=Lib.hid (show SvS H g b1 b2 m n (.slice A n ca) (.slice A2 m cb) L w3 (wr.setCell ⟨b2,y,none⟩ (.int .i64 (i:Int)))/\Rws HB2 n (wr.setCell ⟨b2,y,none⟩ (.int .i64 (i:Int))) (.slice (some ⟨rb,ro,none⟩) n2 cg) lls2/\OwnI 3 HB2 (wr.setCell ⟨b2,y,none⟩ (.int .i64 (i:Int))) (.slice (some ⟨b,o,none⟩) ln rc) l from ⟨hnx,hrw.set (p:=⟨b2,y,none⟩) HBL.out _,hrow.far hne _⟩)
          clear hsv hrw hrow hy hnx hne
          go_wp2_with fail
          go_roundg (ln-(j+1))
          case measure=>omega
          case rel=>exact ⟨j+1,by omega,rfl,by go_num,HNX⟩
        · have z2:¬ (j:Int)<(ln:Int):=by omega
          have HNX:=Lib.hid (show SvS H g b1 b2 m n (.slice A n ca) (.slice A2 m cb) L w3 wr/\Rws HB2 n wr (.slice (some ⟨rb,ro,none⟩) n2 cg) lls2 from ⟨hsv,hrw⟩)
          clear hsv hrw hrow
          go_wp2_with fail
          go_roundg (n2-(i+1))
          case measure=>omega
          case rel=>exact ⟨i+1,by omega,rfl,by go_num,HNX⟩
     · have z1:¬ (i:Int)<(n2:Int):=by omega
       have HSV3:=Lib.hid hsv
       have g0:=hsv.arr.cell 0
       have g1:=hsv.arr.cell 1
       have g2:=hsv.arr.cell 2
       have g3:=hsv.arr.cell 3
       have g4:=hsv.arr.cell 4
       have hq:=HRS.out wr hsv.bel
       have r0:=hq.cell 0
       have r1:=hq.cell 1
       have r2:=hq.cell 2
       have r3:=hq.cell 3
       have r4:=hq.cell 4
       have f0:=hq.frozen 0
       have f1:=hq.frozen 1
       have f2:=hq.frozen 2
       have f3:=hq.frozen 3
       have f4:=hq.frozen 4
       have hql:=hq.lt
       have HRES:=Lib.hid (((((hq.set 0 (.slice A n ca)).set 1 (.slice A2 m cb)).set 2 (.int .i64 L)).set 3 (.slice (some ⟨b1,0,none⟩) m m)).set 4 (.slice (some ⟨b2,0,none⟩) n n))
       clear hsv hrw hq
       go_wp2_with fail
       refine bodyPost_ret (v:=.agg #[.slice A n ca,.slice A2 m cb,.int .i64 L,.slice (some ⟨b1,0,none⟩) m m,.slice (some ⟨b2,0,none⟩) n n]) (results_c Try.results16 _ _ (w.heap.size+1) 42 _ _ rfl HRES.out Try.underlying42 rfl info_sheet) rfl ?_
       obtain ⟨LL,l1,l2⟩:=HSV3.out.o1
       obtain ⟨PP,p1,p2⟩:=HSV3.out.o2
       have hsz:=HSZ.out
       have q1:(Value.slice (some ⟨b1,0,none⟩) m m).ownBlock≠some (w.heap.size+1):=fun e=>by have:=l2.block _ e;omega
       have q2:(Value.slice (some ⟨b2,0,none⟩) n n).ownBlock≠some (w.heap.size+1):=fun e=>by have:=p2.block _ e;omega
       have hbb:=HTOP.out _ HSV3.out.bel
       refine ⟨_,_,by rw [HMS.out.1,HMS.out.2],LL,(((((l2.far q1 _).far q1 _).far q1 _).far q1 _).far q1 _).ints,by rw [l1,HMS.out.1],PP,(((((p2.far q2 _).far q2 _).far q2 _).far q2 _).far q2 _).ints,by rw [p1,HMS.out.2],((((hbb.setCell (p:=⟨w.heap.size+1,0,none⟩) (Nat.le_succ _) _).setCell (p:=⟨w.heap.size+1,1,none⟩) (Nat.le_succ _) _).setCell (p:=⟨w.heap.size+1,2,none⟩) (Nat.le_succ _) _).setCell (p:=⟨w.heap.size+1,3,none⟩) (Nat.le_succ _) _).setCell (p:=⟨w.heap.size+1,4,none⟩) (Nat.le_succ _) _⟩
end Go.Proofs.Ytfnmeigpfmeomaa
