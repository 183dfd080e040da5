/- intmatrix.isolate: the walk. -/
import Derived.Test.YtfnmeigpfmeomaaZfIsp
import Derived.Test.YtfnmeigpfmeomaaZfTab
namespace Go.Proofs.Ytfnmeigpfmeomaa
open Go.RowKit
set_option linter.unusedVariables false
theorem rowsU_next {m k i:Nat} (A:List (List Nat)) (h:k+1<=i):rowsU m k A (i+1-(k+1))=rowWhile m k i (ge (rowsU m k A (i-(k+1))) i k) (rowsU m k A (i-(k+1))):=by
 rw [show i+1-(k+1)=(i-(k+1))+1 by omega,rowsU,show k+1+(i-(k+1))=i by omega]
theorem colsU_next {m k j:Nat} (A:List (List Nat)) (h:k+1<=j):colsU m k A (j+1-(k+1))=colWhile m k j (ge (colsU m k A (j-(k+1))) k j) (colsU m k A (j-(k+1))):=by
 rw [show j+1-(k+1)=(j-(k+1))+1 by omega,colsU,show k+1+(j-(k+1))=j by omega]
theorem rowWhile_step {m k i f:Nat} {A:List (List Nat)} (h:ge A i k≠0) (hf:ge A i k<=f):rowWhile m k i f A=rowWhile m k i (f-1) (rowStep m k i A):=by
 obtain ⟨g,rfl⟩:∃ g,f=g+1:=⟨f-1,by omega⟩
 rw [rowWhile,if_neg h,Nat.add_sub_cancel]
theorem colWhile_step {m k j f:Nat} {A:List (List Nat)} (h:ge A k j≠0) (hf:ge A k j<=f):colWhile m k j f A=colWhile m k j (f-1) (colStep m k j A):=by
 obtain ⟨g,rfl⟩:∃ g,f=g+1:=⟨f-1,by omega⟩
 rw [colWhile,if_neg h,Nat.add_sub_cancel]
theorem isoF_step {m k C f:Nat} {A:List (List Nat)} (hf:isoM k C A<f):isoF m k C f A=if chg k C (rowsAll m k A)=true then isoF m k C (f-1) (colsAll m k C (rowsAll m k A)) else colsAll m k C (rowsAll m k A):=by
 obtain ⟨g,rfl⟩:∃ g,f=g+1:=⟨f-1,by omega⟩
 rw [isoF,Nat.add_sub_cancel]
theorem chg_next {k c:Nat} {A:List (List Nat)} (h:k<c):chg k (c+1) A=(chg k c A || decide (ge A k c≠0)):=by
 unfold chg;rw [List.range_succ,List.any_append];simp [h]
theorem chg_start (k:Nat) (A:List (List Nat)):chg k (k+1) A=false:=by
 cases h:chg k (k+1) A with
 | false=>rfl
 | true=>obtain ⟨j,h1,h2,_⟩:=chg_true.1 h;omega
structure Is (R:Nat) (bs:List Nat) (C k m ab kb mb:Nat) (n:Nat) (w0:World) (cur:List (List Nat)) (bs':List Nat) (w:World):Prop where
 mu:MU w R bs' C cur
 sub:∀ b∈bs',b∈bs
 wr:Wr (R :: bs) w0 w
 bx:Bx w ab kb mb R n k m
 len:cur.length=n
 wk:Wk m k C cur
theorem Is.drewN {R:Nat} {bs:List Nat} {C k m ab kb mb n:Nat} {w0:World} {cur:List (List Nat)} {bs':List Nat} {w:World} (h:Is R bs C k m ab kb mb n w0 cur bs' w) (q:Nat):Is R bs C k m ab kb mb n w0 cur bs' (w.drewN q) :=
 ⟨h.mu.drewN q,h.sub,h.wr.drewN q,h.bx.drewN q,h.len,h.wk⟩
theorem Is.next {R:Nat} {bs:List Nat} {C k m ab kb mb n:Nat} {w0:World} {cur cur':List (List Nat)} {bs' bs'':List Nat} {w w':World} (h:Is R bs C k m ab kb mb n w0 cur bs' w) (n1:ab ∉ R :: bs) (n2:kb ∉ R :: bs) (n3:mb ∉ R :: bs)
 (h1:MU w' R bs'' C cur') (h2:∀ b∈bs'',b∈bs') (h3:Wr (R :: bs') w w') (hl:cur'.length=n) (hw:Wk m k C cur'):Is R bs C k m ab kb mb n w0 cur' bs'' w' :=
 have o:Wr (R :: bs) w w':=h3.mono (fun x hx=>by
  rcases List.mem_cons.1 hx with e|e
  · rw [e];simp
  · exact List.mem_cons_of_mem _ (h.sub x e))
 ⟨h1,fun b hb=>h.sub b (h2 b hb),h.wr.trans o,h.bx.wr o n1 n2 n3,hl,hw⟩
theorem notin_sub {x R:Nat} {bs bs':List Nat} (h:x ∉ R :: bs) (hs:∀ b∈bs',b∈bs):x ∉ R :: bs':=by
 intro hx
 rcases List.mem_cons.1 hx with e|e
 · exact h (by rw [e];simp)
 · exact h (List.mem_cons_of_mem _ (hs x e))
set_option maxHeartbeats 4000000 in
set_option maxRecDepth 100000 in
theorem isolate_any (R:Nat) (bs:List Nat) (C:Nat) (A:List (List Nat)) (k m:Nat) (w:World) (h:MU w R bs C A) (hA:A.length<=1000) (hC:C<=1000) (hw:Wk m k C A) (hm:m<=4611686018427387904) :
 Calls Try.prog 73 #[.slice (some ⟨R,0,none⟩) A.length A.length,.int .i64 (k:Nat),.int .u64 (m:Nat)] w fun e w'=>e=.returned (.tuple #[])/\∃ bs',MU w' R bs' C (isoF m k C (isoM k C A+1) A)/\(∀ b∈bs',b∈bs)/\Wr (R :: bs) w w':=by
 have hkn:=hw.kn
 have hkC:=hw.kC
 obtain ⟨n,hn⟩:∃ n,n=A.length:=⟨_,rfl⟩
 have lR:=h.outer.lt
 have n1:w.heap.size ∉ R :: bs:=fun q=>by
  rcases List.mem_cons.1 q with e|e
  · omega
  · have:=h.lt _ e;omega
 have n2:w.heap.size+1 ∉ R :: bs:=fun q=>by
  rcases List.mem_cons.1 q with e|e
  · omega
  · have:=h.lt _ e;omega
 have n3:w.heap.size+1+1 ∉ R :: bs:=fun q=>by
  rcases List.mem_cons.1 q with e|e
  · omega
  · have:=h.lt _ e;omega
 have h0:Is R bs C k m w.heap.size (w.heap.size+1) (w.heap.size+1+1) n w A bs (((w.alloc (.cells #[.slice (some ⟨R,0,none⟩) n n] 100)).alloc (.cells #[.int .i64 (k:Int)] 3)).alloc (.cells #[.int .u64 (m:Int)] 88)):=by
  refine ⟨((h.alloc _).alloc _).alloc _,fun _ q=>q,(((Wr.refl _ _).alloc _).alloc _).alloc _,⟨?_,?_,?_⟩,hn.symm,hw⟩
  · exact ((Arr.new w 100 [.slice (some ⟨R,0,none⟩) n n]).alloc _).alloc _
  · exact (Arr.newAt (w.alloc _) 3 [.int .i64 (k:Int)] _ (by simp)).alloc _
  · exact Arr.newAt ((w.alloc _).alloc _) 88 [.int .u64 (m:Int)] _ (by simp)
 obtain ⟨T,hT⟩:∃ T,T=isoF m k C (isoM k C A+1) A:=⟨_,rfl⟩
 rw [<- hT,<- hn]
 have HT:=Lib.hid hT.symm
 rw [<- hn] at hA hkn
 have HN1:=Lib.hid n1
 have HN2:=Lib.hid n2
 have HN3:=Lib.hid n3
 clear hT n1 n2 n3 h hn hw
 go_enter Try.func73,Try.ntmps73
 go_upto_region 1 with fail
 generalize (((w.alloc (.cells #[.slice (some ⟨R,0,none⟩) n n] 100)).alloc (.cells #[.int .i64 (k:Int)] 3)).alloc (.cells #[.int .u64 (m:Int)] 88))=w1 at h0 ⊢
 generalize w.heap.size+1+1=mb at *
 generalize w.heap.size+1=kb at *
 generalize w.heap.size=ab at *
 go_wp2_with fail
 go_loopg [8,9,10] (isoM k C A+2) (fun gk s8 s9 s10 wr=>∃ (c:Bool) (cur:List (List Nat)) (bs':List Nat) (f:Nat),s8=.bool c/\Is R bs C k m ab kb mb n w cur bs' wr/\((c=true/\isoM k C cur<f/\gk=isoM k C cur+2/\isoF m k C f cur=T)\/(c=false/\gk=0/\cur=T)))
 case atStart=>exact ⟨true,A,bs,isoM k C A+1,rfl,h0,.inl ⟨rfl,Nat.lt_succ_self _,rfl,HT.out⟩⟩
 case round =>
  clear h0 HT
  obtain ⟨c,cur,bs',f,rfl,hI,hcase⟩:=hrel
  rcases hcase with ⟨rfl,hf,rfl,hT⟩|⟨rfl,rfl,hT⟩
  · have HT:=Lib.hid ((isoF_step (m:=m) hf).symm.trans hT)
    have HML:=Lib.hid (fun hc=>isoM_less hI.wk hc)
    clear hT
    obtain ⟨wo,rfl⟩:∃ wo:World,wo=wr:=⟨_,rfl⟩
    have y1:=hI.bx.k.cell 0
    have y0:=hI.bx.a.cell 0
    have HIS:=Lib.hid hI
    have HISL:=Lib.hid hI.len
    clear hI
    go_wp2_with fail
    clear y0 y1
    go_loopg [9] (n-(k+1)) (fun gk s9 wr=>∃ (i:Nat) (bs2:List Nat),k+1<=i/\i<=n/\gk=n-i/\s9=.int .i64 (i:Int)/\Is R bs C k m ab kb mb n w (rowsU m k cur (i-(k+1))) bs2 wr)
    case atStart=>exact ⟨k+1,bs',Nat.le_refl _,by omega,rfl,by go_num,by rw [Nat.sub_self];exact HIS.out⟩
    case round =>
     clear HIS
     obtain ⟨i,bs2,hki,hin,rfl,rfl,hI2⟩:=hrel
     obtain ⟨wo,rfl⟩:∃ wo:World,wo=wr:=⟨_,rfl⟩
     have y1:=hI2.bx.k.cell 0
     have y0:=hI2.bx.a.cell 0
     by_cases hlt:i<n
     · have z1:(i:Int)<(n:Int):=by omega
       have HNX:=Lib.hid (rowsU_next (m:=m) cur hki)
       obtain ⟨T2,hT2⟩:∃ T2,T2=rowsU m k cur (i+1-(k+1)):=⟨_,rfl⟩
       rw [<- hT2] at HNX
       have HT2:=Lib.hid hT2
       have HIS:=Lib.hid hI2
       clear hT2 hI2
       go_wp2_with fail
       clear y0 y1
       go_loopg [] (ge (rowsU m k cur (i-(k+1))) i k) (fun gk wr=>∃ (cur3:List (List Nat)) (bs3:List Nat) (g:Nat),gk=ge cur3 i k/\ge cur3 i k<=g/\Hid (rowWhile m k i g cur3=T2)/\Is R bs C k m ab kb mb n w cur3 bs3 wr)
       case atStart=>exact ⟨_,bs2,_,rfl,Nat.le_refl _,Lib.hid HNX.out.symm,HIS.out⟩
       case round =>
        clear HIS HNX
        obtain ⟨cur3,bs3,g,rfl,hg,HW,hI3⟩:=hrel
        obtain ⟨wo,rfl⟩:∃ wo:World,wo=wr:=⟨_,rfl⟩
        have y1:=hI3.bx.k.cell 0
        have y0:=hI3.bx.a.cell 0
        obtain ⟨bi,hbi,hbim⟩:=hI3.mu.bl (i:=i) (by rw [hI3.len];exact hlt)
        have c1:=hI3.mu.cellR hbi
        have c2:=hI3.mu.cell hbi hkC
        have z2:(k:Int)<(C:Int):=by omega
        have HIS:=Lib.hid hI3
        by_cases hz:ge cur3 i k=0
        · rw [hz] at c2
          have HD:=Lib.hid ((rowWhile_done hz).symm.trans HW.out)
          clear hI3 hbi hz
          go_upto_region 9 with fail
          go_quiet (fail)
          go_wp2_with fail
          go_roundg (n-(i+1))
          case measure=>omega
          case rel=>exact ⟨i+1,bs3,by omega,by omega,rfl,by go_num,by rw [<- HT2.out,<- HD.out];exact HIS.out.drewN _⟩
        · have hv:0<ge cur3 i k:=by omega
          have HW2:=Lib.hid ((rowWhile_step hz hg).symm.trans HW.out)
          have HL:=Lib.hid (rowStep_less hI3.wk (show i<cur3.length by rw [hI3.len];exact hlt) (by omega) hz)
          have z3:(((ge cur3 i k:Nat):Int) != 0)=true:=by simp;omega
          obtain ⟨vi,hvi⟩:∃ v,v=ge cur3 i k:=⟨_,rfl⟩
          rw [<- hvi] at c2 z3
          clear hI3 hbi hz hvi HW
          go_upto_region 9 with fail
          go_quiet (fail)
          have hI4:=HIS.out.drewN nq
          generalize wo.drewN nq=W at *
          have HC:=Lib.hid (rowStep_any ab kb mb R bs3 C cur3 k i m W hI4.mu (by have:=hI4.bx;rw [<- hI4.len] at this;exact this) (notin_sub HN1.out hI4.sub) (notin_sub HN2.out hI4.sub) (notin_sub HN3.out hI4.sub) (by rw [hI4.len];exact hA) hC (by rw [hI4.len];exact hlt) hI4.wk.kn hkC (by omega) hI4.wk.pos hI4.wk.lt hm)
          have HI4:=Lib.hid hI4
          clear hI4 c1 c2 y0 y1 HIS
          go_wp2_with (go_at_call 80;refine HC.out.mono ?_;rintro e w' ⟨rfl,bs4,h1,h2,h3⟩)
          go_roundg (ge (rowStep m k i cur3) i k)
          case measure=>have:=HL.out;omega
          case rel=>exact ⟨rowStep m k i cur3,bs4,g-1,rfl,by have:=HL.out;omega,HW2,HI4.out.next HN1.out HN2.out HN3.out h1 h2 h3 (by rw [rowStep_length];exact HI4.out.len) (HI4.out.wk.rowStep (by rw [HI4.out.len];exact hlt) (by omega))⟩
     · have z1:¬ ((i:Int)<(n:Int)):=by omega
       have hin2:i=n:=by omega
       obtain ⟨B,hB⟩:∃ B,B=rowsAll m k cur:=⟨_,rfl⟩
       have hB2:rowsU m k cur (i-(k+1))=B:=by rw [hB];unfold rowsAll;rw [hin2,HISL.out]
       rw [hB2] at hI2
       rw [<- hB] at HT HML
       clear hB hB2 hin2
       have HWB:=Lib.hid hI2.wk
       have HIS:=Lib.hid hI2
       clear hI2
       go_wp2_with fail
       clear y0 y1
       go_loopg [8,10] (C-(k+1)) (fun gk s8 s10 wr=>∃ (j:Nat) (bs5:List Nat),k+1<=j/\j<=C/\gk=C-j/\s10=.int .i64 (j:Int)/\s8=.bool (chg k j B)/\Is R bs C k m ab kb mb n w (colsU m k B (j-(k+1))) bs5 wr)
       case atStart=>exact ⟨k+1,bs2,Nat.le_refl _,by omega,rfl,by go_num,by rw [chg_start],by rw [Nat.sub_self];exact HIS.out⟩
       case round =>
        clear HIS
        obtain ⟨j,bs5,hkj,hjC,rfl,rfl,rfl,hI5⟩:=hrel
        obtain ⟨wo,rfl⟩:∃ wo:World,wo=wr:=⟨_,rfl⟩
        have y1:=hI5.bx.k.cell 0
        have y0:=hI5.bx.a.cell 0
        obtain ⟨bk,hbk,hbkm⟩:=hI5.mu.bl (i:=k) (by rw [hI5.len];exact hkn)
        have c1:=hI5.mu.cellR hbk
        have z0:(k:Int)<(n:Int):=by omega
        clear hbk
        by_cases hjt:j<C
        · have z2:(j:Int)<(C:Int):=by omega
          have HNX:=Lib.hid (colsU_next (m:=m) B hkj)
          have HOT:=Lib.hid ((colsU_all HWB.out (j-(k+1)) (by omega)).2.2.2 j (by omega))
          have HCN:=Lib.hid (chg_next (A:=B) (show k<j by omega))
          obtain ⟨T3,hT3⟩:∃ T3,T3=colsU m k B (j+1-(k+1)):=⟨_,rfl⟩
          rw [<- hT3] at HNX
          have HT3:=Lib.hid hT3
          have HIS:=Lib.hid hI5
          obtain ⟨c0,hc0⟩:∃ c0,c0=chg k j B:=⟨_,rfl⟩
          rw [<- hc0] at HCN ⊢
          clear hT3 hI5 hc0
          obtain ⟨st,hst⟩:∃ st,st=colsU m k B (j-(k+1)):=⟨_,rfl⟩
          rw [<- hst] at HNX HOT HIS
          clear hst
          go_wp2_with fail
          clear y0 y1 c1
          go_loopg [8] (ge st k j) (fun gk s8 wr=>∃ (cur6:List (List Nat)) (bs6:List Nat) (g:Nat) (ch:Bool),s8=.bool ch/\gk=ge cur6 k j/\ge cur6 k j<=g/\Hid (colWhile m k j g cur6=T3)/\Is R bs C k m ab kb mb n w cur6 bs6 wr/\Hid ((ch=c0/\cur6=st)\/(ch=true/\ge B k j≠0)))
          case atStart=>exact ⟨st,bs5,_,c0,rfl,rfl,Nat.le_refl _,Lib.hid HNX.out.symm,HIS.out,Lib.hid (.inl ⟨rfl,rfl⟩)⟩
          case round =>
           clear HIS HNX
           obtain ⟨cur6,bs6,g,ch,rfl,rfl,hg,HW,hI6,HCH⟩:=hrel
           obtain ⟨wo,rfl⟩:∃ wo:World,wo=wr:=⟨_,rfl⟩
           have y1:=hI6.bx.k.cell 0
           have y0:=hI6.bx.a.cell 0
           obtain ⟨bq,hbq,hbqm⟩:=hI6.mu.bl (i:=k) (by rw [hI6.len];exact hkn)
           have c1:=hI6.mu.cellR hbq
           have c2:=hI6.mu.cell hbq hjt
           have HIS:=Lib.hid hI6
           by_cases hz:ge cur6 k j=0
           · rw [hz] at c2
             have HD:=Lib.hid ((colWhile_done hz).symm.trans HW.out)
             have HCC:=Lib.hid (show ch=chg k (j+1) B by
              rw [HCN.out]
              rcases HCH.out with ⟨e1,e2⟩|⟨e1,e2⟩
              · rw [e1,<- HOT.out,<- e2,hz];simp
              · rw [e1];simp [e2])
             clear hI6 hbq hz
             go_wp2_with fail
             go_roundg (C-(j+1))
             case measure=>omega
             case rel=>exact ⟨j+1,bs6,by omega,by omega,rfl,by go_num,by rw [HCC.out],by rw [<- HT3.out,<- HD.out];exact HIS.out⟩
           · have hv:0<ge cur6 k j:=by omega
             have HW2:=Lib.hid ((colWhile_step hz hg).symm.trans HW.out)
             have HL:=Lib.hid (colStep_less hI6.wk hjt (show j≠k by omega) hz)
             have HCC:=Lib.hid (show ge B k j≠0 by
              rcases HCH.out with ⟨e1,e2⟩|⟨e1,e2⟩
              · rw [<- HOT.out,<- e2];exact hz
              · exact e2)
             have z3:(((ge cur6 k j:Nat):Int) != 0)=true:=by simp;omega
             obtain ⟨vi,hvi⟩:∃ v,v=ge cur6 k j:=⟨_,rfl⟩
             rw [<- hvi] at c2 z3
             have HC:=Lib.hid (colStep_any ab kb mb R bs6 C cur6 k j m wo hI6.mu (by have:=hI6.bx;rw [<- hI6.len] at this;exact this) (notin_sub HN1.out hI6.sub) (notin_sub HN2.out hI6.sub) (notin_sub HN3.out hI6.sub) (by rw [hI6.len];exact hA) hC hjt hI6.wk.kn hkC (by omega) hI6.wk.pos hI6.wk.lt hm)
             clear hI6 hbq hz hvi HW
             go_wp2_with (go_at_call 81;refine HC.out.mono ?_;rintro e w' ⟨rfl,h1,h3⟩)
             go_roundg (ge (colStep m k j cur6) k j)
             case measure=>have:=HL.out;omega
             case rel=>exact ⟨colStep m k j cur6,bs6,g-1,true,rfl,rfl,by have:=HL.out;omega,HW2,HIS.out.next HN1.out HN2.out HN3.out h1 (fun _ q=>q) h3 (by rw [colStep_length];exact HIS.out.len) (HIS.out.wk.colStep hjt (by omega)),Lib.hid (.inr ⟨rfl,HCC.out⟩)⟩
        · have z2:¬ ((j:Int)<(C:Int)):=by omega
          have hjn:j=C:=by omega
          have HD:=Lib.hid (show colsU m k B (j-(k+1))=colsAll m k C B by rw [hjn];rfl)
          have HJ:=Lib.hid hjn
          have HIS:=Lib.hid hI5
          clear hI5 hjn
          cases hcc:chg k C B with
          | true =>
           have HC1:=Lib.hid hcc
           clear hcc
           have hch:chg k j B=true:=by rw [HJ.out];exact HC1.out
           go_wp2_with fail
           go_roundg (isoM k C (colsAll m k C B)+2)
           case measure=>have:=HML.out HC1.out;omega
           case rel=>exact ⟨true,colsAll m k C B,bs5,f-1,rfl,by rw [<- HD.out];exact HIS.out,.inl ⟨rfl,by have:=HML.out HC1.out;omega,rfl,by have:=HT.out;rw [if_pos HC1.out] at this;exact this⟩⟩
          | false =>
           have HC1:=Lib.hid hcc
           clear hcc
           have hch:chg k j B=false:=by rw [HJ.out];exact HC1.out
           go_wp2_with fail
           go_roundg 0
           case measure=>omega
           case rel=>exact ⟨false,colsAll m k C B,bs5,f,rfl,by rw [<- HD.out];exact HIS.out,.inr ⟨rfl,rfl,by have:=HT.out;rw [if_neg (by rw [HC1.out];simp)] at this;exact this⟩⟩
  · have HT:=Lib.hid hT
    clear hT
    go_wp2_with fail
    go_end0
    refine ⟨rfl,bs',?_,hI.sub,hI.wr⟩
    rw [<- HT.out];exact hI.mu
def rs (m:Nat) (x:Int):Nat:=if x<0 then (0+(m-x.natAbs%m))%m else x.natAbs%m
def resR (m:Nat) (r:List Int):List Nat:=r.map (rs m)
def resF (m:Nat) (rows:List (List Int)):List (List Nat):=rows.map (resR m)
theorem rs_lt {m:Nat} (hm:0<m) (x:Int):rs m x<m:=by unfold rs;split <;> exact Nat.mod_lt _ hm
def rsP (m:Nat) (r:List Int) (y:Nat):List Nat:=(List.range r.length).map fun j=>if j<y then rs m (gi r j) else 0
theorem rsP_length (m:Nat) (r:List Int) (y:Nat):(rsP m r y).length=r.length:=by simp [rsP]
theorem gn_rsP {m:Nat} {r:List Int} {y j:Nat} (h:j<r.length):gn (rsP m r y) j=if j<y then rs m (gi r j) else 0:=by unfold rsP;rw [gn_map_range,if_pos h]
theorem rsP_zero (m:Nat) (r:List Int):rsP m r 0=List.replicate r.length 0:=by
 apply gn_ext (by simp [rsP_length])
 intro i hi
 rw [rsP_length] at hi
 rw [gn_rsP hi,if_neg (by omega)]
 unfold gn;rw [List.getElem?_replicate,if_pos hi];rfl
theorem rsP_step {m:Nat} {r:List Int} {y:Nat} (h:y<r.length):(rsP m r y).set y (rs m (gi r y))=rsP m r (y+1):=by
 apply gn_ext (by simp [rsP_length])
 intro i hi
 have hi':i<r.length:=by simpa [rsP_length] using hi
 rw [gn_set _ _ _ _ (by rw [rsP_length];exact h),gn_rsP hi',gn_rsP hi']
 by_cases e:i=y
 · subst e;rw [if_pos rfl,if_pos (by omega)]
 · rw [if_neg e]
   by_cases c:i<y
   · rw [if_pos c,if_pos (by omega)]
   · rw [if_neg c,if_neg (by omega)]
theorem rsP_all (m:Nat) (r:List Int):rsP m r r.length=resR m r:=by
 apply gn_ext (by simp [rsP_length,resR])
 intro i hi
 rw [rsP_length] at hi
 rw [gn_rsP hi,if_pos hi]
 unfold gn resR gi
 rw [List.getElem?_map,List.getElem?_eq_getElem hi];rfl
theorem resF_length (m:Nat) (rows:List (List Int)):(resF m rows).length=rows.length:=by simp [resF]
theorem resF_take {m:Nat} {rows:List (List Int)} {x:Nat} (h:x<rows.length):resF m (rows.take (x+1))=resF m (rows.take x) ++ [resR m rows[x]]:=by
 unfold resF;rw [List.take_succ_eq_append_getElem h,List.map_append];rfl
structure PU (w:World) (R:Nat) (bs:List Nat) (C n:Nat) (A:List (List Nat)):Prop where
 len:bs.length=A.length
 inj:∀ (i j b:Nat),bs[i]? = some b->bs[j]? = some b->i=j
 lo:∀ b∈bs,R<b/\b<w.heap.size
 outer:Arr w R 103 (bs.map (hd C) ++ List.replicate (n-A.length) (Value.slice none 0 0))
 row:∀ (i b:Nat),bs[i]? = some b->Arr w b 88 (uc (gr A i))
 cols:∀ i,i<A.length->(gr A i).length=C
theorem PU.mu {w:World} {R C n:Nat} {bs:List Nat} {A:List (List Nat)} (h:PU w R bs C n A) (hn:A.length=n):MU w R bs C A:=by
 refine ⟨h.len,h.inj,fun q=>by have:=h.lo R q;omega,?_,h.row,h.cols⟩
 have:=h.outer
 rw [hn,Nat.sub_self] at this
 simpa using this
theorem PU.snoc {w w':World} {R C n B:Nat} {bs:List Nat} {A:List (List Nat)} {r:List Nat} (h:PU w R bs C n A) (hB:B=w.heap.size) (hn:A.length<n) (hr:r.length=C)
 (hk:∀ b∈bs,w'.heap[b]? = w.heap[b]?) (hR:Arr w' R 103 ((bs.map (hd C) ++ List.replicate (n-A.length) (Value.slice none 0 0)).set A.length (hd C B))) (hb:Arr w' B 88 (uc r)) (hlt:R<B):PU w' R (bs ++ [B]) C n (A ++ [r]):=by
 have hsz:=hb.lt
 refine ⟨by simp [h.len],fun i j b hi hj=>?_,fun b hb'=>?_,?_,fun i b hi=>?_,fun i hi=>?_⟩
 · rcases Nat.lt_or_ge i bs.length with q|q
   · rw [List.getElem?_append_left q] at hi
     rcases Nat.lt_or_ge j bs.length with q2|q2
     · rw [List.getElem?_append_left q2] at hj
       exact h.inj i j b hi hj
     · exfalso
       rw [List.getElem?_append_right q2] at hj
       have e:b=B:=by
        have:=List.mem_of_getElem? hj;simpa using this
       have:=(h.lo b (List.mem_of_getElem? hi)).2
       omega
   · rw [List.getElem?_append_right q] at hi
     have e:b=B:=by have:=List.mem_of_getElem? hi;simpa using this
     have l1:=(List.getElem?_eq_some_iff.1 hi).1
     simp at l1
     rcases Nat.lt_or_ge j bs.length with q2|q2
     · exfalso
       rw [List.getElem?_append_left q2] at hj
       have:=(h.lo b (List.mem_of_getElem? hj)).2
       omega
     · rw [List.getElem?_append_right q2] at hj
       have l2:=(List.getElem?_eq_some_iff.1 hj).1
       simp at l2
       omega
 · rcases List.mem_append.1 hb' with q|q
   · have:=h.lo b q;omega
   · have:b=B:=by simpa using q
     omega
 · have e:(bs.map (hd C) ++ List.replicate (n-A.length) (Value.slice none 0 0)).set A.length (hd C B)=(bs ++ [B]).map (hd C) ++ List.replicate (n-(A ++ [r]).length) (Value.slice none 0 0):=by
    have h3:n-A.length=(n-(A.length+1))+1:=by omega
    rw [List.set_append_right (h:=by simp [h.len]),h3,List.replicate_succ]
    simp [h.len]
   rw [e] at hR;exact hR
 · rcases Nat.lt_or_ge i bs.length with q|q
   · rw [List.getElem?_append_left q] at hi
     have e:gr (A ++ [r]) i=gr A i:=by unfold gr;rw [List.getElem?_append_left (by rw [<- h.len];exact q)]
     rw [e]
     exact (hk b (List.mem_of_getElem? hi)).trans (h.row i b hi)
   · rw [List.getElem?_append_right q] at hi
     have l1:=(List.getElem?_eq_some_iff.1 hi).1
     simp at l1
     have e:b=B:=by have:=List.mem_of_getElem? hi;simpa using this
     have e2:i=A.length:=by rw [<- h.len];omega
     subst e e2
     have e3:gr (A ++ [r]) A.length=r:=by unfold gr;simp
     rw [e3];exact hb
 · simp at hi
   rcases Nat.lt_or_ge i A.length with q|q
   · have e:gr (A ++ [r]) i=gr A i:=by unfold gr;rw [List.getElem?_append_left q]
     rw [e];exact h.cols i q
   · have e2:i=A.length:=by omega
     subst e2
     have e3:gr (A ++ [r]) A.length=r:=by unfold gr;simp
     rw [e3];exact hr
theorem rowInfo:(Try.prog.info? 103).map (fun i=>(i.zero,i.size,i.bytes))=some (some (.slice none 0 0),1,24):=by kernel_rfl
theorem numInfo:(Try.prog.info? 88).map (fun i=>(i.zero,i.size,i.bytes))=some (some (.int .u64 0),1,8):=by kernel_rfl
set_option maxHeartbeats 4000000 in
set_option maxRecDepth 100000 in
theorem residues_any (v:Value) (rows:List (List Int)) (C m:Nat) (w:World) (h:Mat w v rows) (hn:rows.length<=1000) (hC:C<=1000) (hc:∀ r∈rows,r.length=C) (hb:∀ r∈rows,∀ x∈r,-9223372036854775807<=x/\x<=9223372036854775807) (hm:0<m) (hm2:m<=4611686018427387904) :
 Calls Try.prog 67 #[v,.int .u64 (m:Nat)] w fun e w'=>e=.returned (.slice (some ⟨w.heap.size,0,none⟩) rows.length rows.length)/\∃ bs,MU w' w.heap.size bs C (resF m rows)/\(∀ b∈bs,w.heap.size<b)/\Below w.heap.size w w':=by
 obtain ⟨i0,hi0,hz0,hz1,hz2⟩:=info_parts rowInfo
 obtain ⟨i1,hi1,hy0,hy1,hy2⟩:=info_parts numInfo
 have HMK1:=Lib.hid (run_make_one (P:=Try.prog) 100 103 i0 (.slice none 0 0) Try.underlying100 hi0 hz0 hz1 rfl (by omega) rows.length (by omega))
 have HMK2:=Lib.hid (run_make_one (P:=Try.prog) 103 88 i1 (.int .u64 0) Try.underlying103 hi1 hy0 hy1 rfl (by omega) C (by omega))
 have HM:=Lib.hid h
 have HCL:=Lib.hid hc
 have HBD:=Lib.hid hb
 obtain ⟨A0,c0,rfl,hcap,hx⟩:=h
 clear hx hc hb
 obtain ⟨n,hnn⟩:∃ n,n=rows.length:=⟨_,rfl⟩
 rw [<- hnn] at hn hcap HMK1 ⊢
 have HNN:=Lib.hid hnn
 clear hnn
 have hmk:=HMK1.out
 go_enter Try.func67,Try.ntmps67
 go_wp2_with fail
 clear hmk
 have hP:PU (w.alloc (.cells (rowOf (List.replicate n (Value.slice none 0 0))) 103)) w.heap.size [] C n []:=by
  refine ⟨rfl,fun i j b hi=>by simp at hi,fun b hb=>by simp at hb,?_,fun i b hi=>by simp at hi,fun i hi=>by simp at hi⟩
  simpa using Arr.new w 103 (List.replicate n (Value.slice none 0 0))
 have hB0:Below w.heap.size w (w.alloc (.cells (rowOf (List.replicate n (Value.slice none 0 0))) 103)):=(Below.refl _ _).alloc (Nat.le_refl _) _
 generalize (w.alloc (.cells (rowOf (List.replicate n (Value.slice none 0 0))) 103))=w4 at hP hB0 ⊢
 obtain ⟨R,hRR⟩:∃ R,R=w.heap.size:=⟨_,rfl⟩
 rw [<- hRR] at hP ⊢
 have HR:=Lib.hid hRR
 clear hRR
 go_loopg [6,7,8,9,15] n (fun gk s6 s7 s8 s9 s15 wr=>∃ (x:Nat) (bs:List Nat),x<=n/\gk=n-x/\s15=.int .i64 (x:Int)/\PU wr R bs C n (resF m (rows.take x))/\Below w.heap.size w wr)
 case atStart=>exact ⟨0,[],Nat.zero_le _,rfl,rfl,by simpa [resF] using hP,hB0⟩
 case round =>
  clear hP hB0
  obtain ⟨x,bs,hx,rfl,rfl,hP,hB0⟩:=hrel
  obtain ⟨wo,rfl⟩:∃ wo:World,wo=wr:=⟨_,rfl⟩
  by_cases hlt:x<n
  · have z1:(x:Int)<(n:Int):=by omega
    have hxr:x<rows.length:=by rw [<- HNN.out];exact hlt
    obtain ⟨b0,o0,rfl,hb0,u,hu,hI⟩:=(HM.out).at_ hxr
    have hrl:=HCL.out rows[x] (List.getElem_mem hxr)
    have HRB:=Lib.hid (HBD.out rows[x] (List.getElem_mem hxr))
    have HTK:=Lib.hid (resF_take (m:=m) hxr)
    generalize rows[x]=row at *
    have HII:=Lib.hid hI
    obtain ⟨A2,c2,rfl,hc2,hx2⟩:=hI
    clear hx2
    rw [hrl] at hu
    have hu':=(hB0.cell (p:=⟨b0,o0+x,none⟩) hb0).trans hu
    have hlen:(resF m (rows.take x)).length=x:=by rw [resF_length];simp;omega
    have zl:x<n:=hlt
    have zc:wo.cell? ⟨R,x,none⟩=some (Value.slice none 0 0):=by
     rw [hP.outer.cell,List.getElem?_append_right (by simp [hP.len,hlen]),List.getElem?_replicate,if_pos (by simp [hP.len,hlen];omega)]
    have zf:=hP.outer.frozen x
    have hmk:=HMK2.out
    have HRL:=Lib.hid hrl
    have HLN:=Lib.hid hlen
    have lR:=hP.outer.lt
    have HPU:=Lib.hid hP
    clear hP hrl hlen hu
    go_upto_region 6 with fail
    have hse:(wo.setCell ⟨R,x,none⟩ (.slice (some ⟨wo.heap.size,0,none⟩) C C)).heap.size=wo.heap.size:=by simp
    have hW:∀ W,W=(wo.setCell ⟨R,x,none⟩ (.slice (some ⟨wo.heap.size,0,none⟩) C C)).alloc (.cells (rowOf (List.replicate C (Value.int .u64 0))) 88)->Arr W wo.heap.size 88 (uc (rsP m row 0))/\Arr W R 103 ((bs.map (hd C) ++ List.replicate (n-(resF m (rows.take x)).length) (Value.slice none 0 0)).set (resF m (rows.take x)).length (hd C wo.heap.size))/\(∀ b∈bs,W.heap[b]? = wo.heap[b]?)/\Below w.heap.size w W:=by
     intro W hW
     subst hW
     refine ⟨?_,?_,fun b hb=>?_,(hB0.setCell (p:=⟨R,x,none⟩) (by rw [HR.out];exact Nat.le_refl _) _).alloc (Nat.le_trans hB0.size (Nat.le_of_eq hse.symm)) _⟩
     · rw [rsP_zero,HRL.out,show uc (List.replicate C 0)=List.replicate C (Value.int .u64 0) by simp [uc]]
       exact Arr.newAt _ _ _ _ hse.symm
     · rw [HLN.out]
       have h1:=HPU.out.outer
       rw [HLN.out] at h1
       exact (h1.set x (.slice (some ⟨wo.heap.size,0,none⟩) C C)).alloc _
     · have hlo:=HPU.out.lo b hb
       rw [Below.heap_alloc _ _ b (by rw [hse];exact hlo.2)]
       exact Below.heap_setCell _ ⟨R,x,none⟩ _ b (Nat.ne_of_gt hlo.1)
    generalize hBB:wo.heap.size=B at *
    generalize (wo.setCell ⟨R,x,none⟩ (.slice (some ⟨B,0,none⟩) C C)).alloc (.cells (rowOf (List.replicate C (Value.int .u64 0))) 88)=w7 at hW ⊢
    obtain ⟨ha7,hR7,hk7,hb7⟩:=hW w7 rfl
    have HBB:=Lib.hid hBB
    have lRB:R≠B:=by omega
    have hcR:w7.cell? ⟨R,x,none⟩=some (.slice (some ⟨B,0,none⟩) C C):=by
     rw [hR7.cell,HLN.out,List.getElem?_set,if_pos rfl,if_pos (by simp [HPU.out.len,HLN.out];omega)];rfl
    have HR7:=Lib.hid hR7
    have HK7:=Lib.hid hk7
    clear hW hmk hBB zc zf hu' hse hR7 hk7
    go_wp2_with fail
    go_loopg [8,9,28] C (fun gk s8 s9 s28 wr=>∃ y:Nat,y<=C/\gk=C-y/\s28=.int .i64 (y:Int)/\Arr wr B 88 (uc (rsP m row y))/\Onl B w7 wr)
    case atStart=>exact ⟨0,Nat.zero_le _,rfl,rfl,ha7,Onl.refl _ _⟩
    case round =>
     clear ha7
     obtain ⟨y,hy,rfl,rfl,hA,hO⟩:=hrel
     obtain ⟨wp,rfl⟩:∃ wp:World,wp=wr:=⟨_,rfl⟩
     by_cases hyt:y<C
     · have z2:(y:Int)<(C:Int):=by omega
       have hyr:y<row.length:=by rw [HRL.out];exact hyt
       have hb9:Below w.heap.size w wp:=hb7.trans (hO.below (by have:=HR.out;omega))
       obtain ⟨b2,o2,rfl,hbl,hcell⟩:=(HII.out.below hb9).at_ hyr
       have hce:gi row y=row[y]:=by unfold gi;rw [List.getElem?_eq_getElem hyr];rfl
       have hbd:=HRB.out row[y] (List.getElem_mem hyr)
       rw [<- hce] at hcell hbd
       have c1:=(hO.cell (p:=⟨R,x,none⟩) lRB).trans hcR
       have c3:=hA.frozen y
       have c2:=(hA.cell y).trans (uc_get (by rw [rsP_length];exact hyr))
       have HAB:=Lib.hid (fun W=>abs_any (gi row y) W hbd.1 hbd.2)
       have e1:=rem_nat (gi row y).natAbs m
       have hql:(gi row y).natAbs%m<m:=Nat.mod_lt _ hm
       have HSB:=Lib.hid (fun W=>subMod_any 0 ((gi row y).natAbs%m) m W hm hql hm2)
       have HN:=Lib.hid (fun (W:World) (q:Nat) (hq:q=rs m (gi row y)) (hW:Onl B w7 W) (l:List Nat) (hl:l.set y q=rsP m row (y+1)) (ha:Arr W B 88 (uc l))=>(show Arr (W.setCell ⟨B,y,none⟩ (.int .u64 (q:Int))) B 88 (uc (rsP m row (y+1)))/\Onl B w7 (W.setCell ⟨B,y,none⟩ (.int .u64 (q:Int))) from by
        rw [<- hl,<- uc_set];exact ⟨ha.set y _,hW.setCell y _⟩))
       have HST:=Lib.hid (rsP_step (m:=m) hyr)
       have HQ1:=Lib.hid (fun hh:¬ gi row y<0=>show (gi row y).natAbs%m=rs m (gi row y) by unfold rs;rw [if_neg hh])
       have HQ2:=Lib.hid (fun hh:gi row y<0=>show (0+(m-(gi row y).natAbs%m))%m=rs m (gi row y) by unfold rs;rw [if_pos hh])
       generalize rs m (gi row y)=rv at *
       generalize (0+(m-(gi row y).natAbs%m))%m=q2 at *
       have E1:=Lib.hid (show ((gi row y).natAbs:Int).tmod (m:Int)=(((gi row y).natAbs%m:Nat):Int) from rfl)
       clear e1
       generalize hqq:(gi row y).natAbs%m=q at *
       generalize (gi row y).natAbs=ab at *
       generalize gi row y=e at *
       have HA:=Lib.hid hA
       have HO:=Lib.hid hO
       have z3:((m:Int)==0)=false:=by simp;omega
       have z4:(m:Int)≠0:=by omega
       clear hA hO hqq hce
       go_upto_region 9 with fail
       refine wp_region_table 10 (by kernel_rfl) (by kernel_rfl) (by kernel_rfl) (by kernel_rfl) (by kernel_rfl) rfl (by kernel_rfl) (fun i=>[Value.slice (some ⟨R,0,none⟩) n n,Value.int .i64 (x:Int),Value.pointer (some ⟨R,x,none⟩),Value.slice (some ⟨B,0,none⟩) C C,Value.int .i64 (y:Int),Value.int .i64 e,Value.int .u64 (ab:Int),Value.int .u64 (m:Int),Value.int .u64 (q:Int),Value.pointer (some ⟨B,y,none⟩),undef].getD i undef) (fun W=>W.setCell ⟨B,y,none⟩ (.int .u64 (q:Int))) ⟨?_,?_,?_,?_,?_,?_,?_,?_,?_,?_,?_,trivial⟩ ?_
       · intro m0 b hb
         have e5:b.tmps[5]?.getD undef=Value.slice (some ⟨R,0,none⟩) n n:=hb 5 rfl
         refine tab_run (by decide) (Value.slice (some ⟨R,0,none⟩) n n) rfl ?_
         clear hb
         go_simp
       · intro m0 b hb
         have e6:b.tmps[6]?.getD undef=Value.int .i64 (x:Int):=hb 6 rfl
         refine tab_run (by decide) (Value.int .i64 (x:Int)) rfl ?_
         clear hb
         go_simp
       · intro m0 b hb
         have e33:b.tmps[33]?.getD undef=Value.slice (some ⟨R,0,none⟩) n n:=hb 33 rfl
         have e34:b.tmps[34]?.getD undef=Value.int .i64 (x:Int):=hb 34 rfl
         refine tab_run (by decide) (Value.pointer (some ⟨R,x,none⟩)) rfl ?_
         clear hb
         go_simp
       · intro m0 b hb
         have e35:b.tmps[35]?.getD undef=Value.pointer (some ⟨R,x,none⟩):=hb 35 rfl
         refine tab_run (by decide) (Value.slice (some ⟨B,0,none⟩) C C) rfl ?_
         clear hb
         go_simp
       · intro m0 b hb
         have e8:b.tmps[8]?.getD undef=Value.int .i64 (y:Int):=hb 8 rfl
         refine tab_run (by decide) (Value.int .i64 (y:Int)) rfl ?_
         clear hb
         go_simp
       · intro m0 b hb
         have e9:b.tmps[9]?.getD undef=Value.int .i64 e:=hb 9 rfl
         refine tab_run (by decide) (Value.int .i64 e) rfl ?_
         clear hb
         go_simp
       · intro m0 b hb
         have e38:b.tmps[38]?.getD undef=Value.int .i64 e:=hb 38 rfl
         refine tab_call (by decide) (Value.int .u64 (ab:Int)) rfl ?_ ((HAB.out _).mono fun e w' ⟨h,hw⟩=>⟨0,h,hw.symm⟩)
         clear hb
         go_simp
       · intro m0 b hb
         have e1:b.tmps[1]?.getD undef=Value.int .u64 (m:Int):=hb 1 rfl
         refine tab_run (by decide) (Value.int .u64 (m:Int)) rfl ?_
         clear hb
         go_simp
       · intro m0 b hb
         have e39:b.tmps[39]?.getD undef=Value.int .u64 (ab:Int):=hb 39 rfl
         have e40:b.tmps[40]?.getD undef=Value.int .u64 (m:Int):=hb 40 rfl
         refine tab_run (by decide) (Value.int .u64 (q:Int)) rfl ?_
         clear hb
         go_simp
         rw [if_neg (by omega),E1.out]
       · intro m0 b hb
         have e36:b.tmps[36]?.getD undef=Value.slice (some ⟨B,0,none⟩) C C:=hb 36 rfl
         have e37:b.tmps[37]?.getD undef=Value.int .i64 (y:Int):=hb 37 rfl
         refine tab_run (by decide) (Value.pointer (some ⟨B,y,none⟩)) rfl ?_
         clear hb
         go_simp
       · intro m0 b hb
         have e41:b.tmps[41]?.getD undef=Value.int .u64 (q:Int):=hb 41 rfl
         have e42:b.tmps[42]?.getD undef=Value.pointer (some ⟨B,y,none⟩):=hb 42 rfl
         refine tab_store undef rfl _ rfl ?_ rfl
         clear hb
         go_simp
       intro m0
       simp only [putAll,dstOf,Act.put,List.map_cons,List.map_nil,List.setIfInBounds_toArray,List.set_cons_succ,List.set_cons_zero,Nat.reduceAdd,List.getD_cons_succ,List.getD_cons_zero]
       by_cases he:e<0
       · have hA2:Arr ((wp.drewN m0).setCell ⟨B,y,none⟩ (.int .u64 (q:Int))) B 88 (uc ((rsP m row y).set y q)):=by
          rw [<- uc_set];exact HA.out.set y _
         have hO2:Onl B w7 ((wp.drewN m0).setCell ⟨B,y,none⟩ (.int .u64 (q:Int))):=(HO.out.drewN m0).setCell y _
         generalize (wp.drewN m0).setCell ⟨B,y,none⟩ (.int .u64 (q:Int))=wq at hA2 hO2 ⊢
         have d1:=(hO2.cell (p:=⟨R,x,none⟩) lRB).trans hcR
         have d2:wq.cell? ⟨B,y,none⟩=some (.int .u64 (q:Int)):=(hA2.cell y).trans (by rw [uc_get (by simp [rsP_length];exact hyr)];rw [gn_set _ _ _ _ (by rw [rsP_length];exact hyr),if_pos rfl])
         have d3:=hA2.frozen y
         have HA2:=Lib.hid hA2
         have HO2:=Lib.hid hO2
         clear hA2 hO2
         go_upto_region 11 with fail
         refine wp_region_table 15 (by kernel_rfl) (by kernel_rfl) (by kernel_rfl) (by kernel_rfl) (by kernel_rfl) rfl (by kernel_rfl) (fun i=>[Value.slice (some ⟨R,0,none⟩) n n,Value.int .i64 (x:Int),Value.pointer (some ⟨R,x,none⟩),Value.slice (some ⟨B,0,none⟩) C C,Value.int .i64 (y:Int),Value.slice (some ⟨R,0,none⟩) n n,Value.int .i64 (x:Int),Value.pointer (some ⟨R,x,none⟩),Value.slice (some ⟨B,0,none⟩) C C,Value.int .i64 (y:Int),Value.pointer (some ⟨B,y,none⟩),Value.int .u64 (q:Int),Value.int .u64 (m:Int),Value.int .u64 (q2:Int),Value.pointer (some ⟨B,y,none⟩),undef].getD i undef) (fun W=>W.setCell ⟨B,y,none⟩ (.int .u64 (q2:Int))) ⟨?_,?_,?_,?_,?_,?_,?_,?_,?_,?_,?_,?_,?_,?_,?_,?_,trivial⟩ ?_
         · intro m0 b hb
           have e5:b.tmps[5]?.getD undef=Value.slice (some ⟨R,0,none⟩) n n:=hb 5 rfl
           refine tab_run (by decide) (Value.slice (some ⟨R,0,none⟩) n n) rfl ?_
           clear hb
           go_simp
         · intro m0 b hb
           have e6:b.tmps[6]?.getD undef=Value.int .i64 (x:Int):=hb 6 rfl
           refine tab_run (by decide) (Value.int .i64 (x:Int)) rfl ?_
           clear hb
           go_simp
         · intro m0 b hb
           have e45:b.tmps[45]?.getD undef=Value.slice (some ⟨R,0,none⟩) n n:=hb 45 rfl
           have e46:b.tmps[46]?.getD undef=Value.int .i64 (x:Int):=hb 46 rfl
           refine tab_run (by decide) (Value.pointer (some ⟨R,x,none⟩)) rfl ?_
           clear hb
           go_simp
         · intro m0 b hb
           have e47:b.tmps[47]?.getD undef=Value.pointer (some ⟨R,x,none⟩):=hb 47 rfl
           refine tab_run (by decide) (Value.slice (some ⟨B,0,none⟩) C C) rfl ?_
           clear hb
           go_simp
         · intro m0 b hb
           have e8:b.tmps[8]?.getD undef=Value.int .i64 (y:Int):=hb 8 rfl
           refine tab_run (by decide) (Value.int .i64 (y:Int)) rfl ?_
           clear hb
           go_simp
         · intro m0 b hb
           have e5:b.tmps[5]?.getD undef=Value.slice (some ⟨R,0,none⟩) n n:=hb 5 rfl
           refine tab_run (by decide) (Value.slice (some ⟨R,0,none⟩) n n) rfl ?_
           clear hb
           go_simp
         · intro m0 b hb
           have e6:b.tmps[6]?.getD undef=Value.int .i64 (x:Int):=hb 6 rfl
           refine tab_run (by decide) (Value.int .i64 (x:Int)) rfl ?_
           clear hb
           go_simp
         · intro m0 b hb
           have e50:b.tmps[50]?.getD undef=Value.slice (some ⟨R,0,none⟩) n n:=hb 50 rfl
           have e51:b.tmps[51]?.getD undef=Value.int .i64 (x:Int):=hb 51 rfl
           refine tab_run (by decide) (Value.pointer (some ⟨R,x,none⟩)) rfl ?_
           clear hb
           go_simp
         · intro m0 b hb
           have e52:b.tmps[52]?.getD undef=Value.pointer (some ⟨R,x,none⟩):=hb 52 rfl
           refine tab_run (by decide) (Value.slice (some ⟨B,0,none⟩) C C) rfl ?_
           clear hb
           go_simp
         · intro m0 b hb
           have e8:b.tmps[8]?.getD undef=Value.int .i64 (y:Int):=hb 8 rfl
           refine tab_run (by decide) (Value.int .i64 (y:Int)) rfl ?_
           clear hb
           go_simp
         · intro m0 b hb
           have e53:b.tmps[53]?.getD undef=Value.slice (some ⟨B,0,none⟩) C C:=hb 53 rfl
           have e54:b.tmps[54]?.getD undef=Value.int .i64 (y:Int):=hb 54 rfl
           refine tab_run (by decide) (Value.pointer (some ⟨B,y,none⟩)) rfl ?_
           clear hb
           go_simp
         · intro m0 b hb
           have e55:b.tmps[55]?.getD undef=Value.pointer (some ⟨B,y,none⟩):=hb 55 rfl
           refine tab_run (by decide) (Value.int .u64 (q:Int)) rfl ?_
           clear hb
           go_simp
         · intro m0 b hb
           have e1:b.tmps[1]?.getD undef=Value.int .u64 (m:Int):=hb 1 rfl
           refine tab_run (by decide) (Value.int .u64 (m:Int)) rfl ?_
           clear hb
           go_simp
         · intro m0 b hb
           have e56:b.tmps[56]?.getD undef=Value.int .u64 (q:Int):=hb 56 rfl
           have e57:b.tmps[57]?.getD undef=Value.int .u64 (m:Int):=hb 57 rfl
           refine tab_call (by decide) (Value.int .u64 (q2:Int)) rfl ?_ ((HSB.out _).mono fun e w' ⟨h,hw⟩=>⟨0,h,hw.symm⟩)
           clear hb
           go_simp
         · intro m0 b hb
           have e48:b.tmps[48]?.getD undef=Value.slice (some ⟨B,0,none⟩) C C:=hb 48 rfl
           have e49:b.tmps[49]?.getD undef=Value.int .i64 (y:Int):=hb 49 rfl
           refine tab_run (by decide) (Value.pointer (some ⟨B,y,none⟩)) rfl ?_
           clear hb
           go_simp
         · intro m0 b hb
           have e58:b.tmps[58]?.getD undef=Value.int .u64 (q2:Int):=hb 58 rfl
           have e59:b.tmps[59]?.getD undef=Value.pointer (some ⟨B,y,none⟩):=hb 59 rfl
           refine tab_store undef rfl _ rfl ?_ rfl
           clear hb
           go_simp
         intro m0
         simp only [putAll,dstOf,Act.put,List.map_cons,List.map_nil,List.setIfInBounds_toArray,List.set_cons_succ,List.set_cons_zero,Nat.reduceAdd,List.getD_cons_succ,List.getD_cons_zero]
         go_wp2_with fail
         go_roundg (C-(y+1))
         case measure=>omega
         case rel=>exact ⟨y+1,by omega,rfl,by go_num,HN.out _ q2 (HQ2.out he) (HO2.out.drewN _) _ (by rw [List.set_set,HQ2.out he];exact HST.out) HA2.out⟩
       · go_wp2_with fail
         go_roundg (C-(y+1))
         case measure=>omega
         case rel=>exact ⟨y+1,by omega,rfl,by go_num,HN.out _ q (HQ1.out he) (HO.out.drewN _) _ (by rw [HQ1.out he];exact HST.out) HA.out⟩
     · have z2:¬ ((y:Int)<(C:Int)):=by omega
       have hyn:y=C:=by omega
       have HY:=Lib.hid hyn
       clear hyn
       have HPN:=Lib.hid (show PU wp R (bs ++ [B]) C n (resF m (rows.take (x+1))) by
        rw [HTK.out]
        refine HPU.out.snoc (w':=wp) HBB.out.symm (by rw [HLN.out];exact hlt) (by simp [resR,HRL.out]) (fun b hb=>?_) ?_ ?_ (by omega)
        · rw [hO.block b (by have:=HPU.out.lo b hb;have:=HBB.out;omega)];exact HK7.out b hb
        · exact HR7.out.onl hO lRB
        · rw [<- rsP_all,HRL.out,<- HY.out];exact hA)
       have hb9:Below w.heap.size w wp:=hb7.trans (hO.below (by have:=HR.out;omega))
       go_wp2_with fail
       go_roundg (n-(x+1))
       case measure=>omega
       case rel=>exact ⟨x+1,bs ++ [B],by omega,rfl,by go_num,HPN.out,hb9⟩
  · have z1:¬ ((x:Int)<(n:Int)):=by omega
    have hxn:x=n:=by omega
    have HXN:=Lib.hid (show rows.take x=rows by rw [hxn,HNN.out];simp)
    clear hxn
    go_wp2_with fail
    go_ret
    have hr:=HR.out
    clear HR
    subst hr
    refine ⟨rfl,bs,?_,fun b hb=>(hP.lo b hb).1,hB0⟩
    have:=hP
    rw [HXN.out] at this
    exact this.mu (by rw [resF_length,HNN.out])
end Go.Proofs.Ytfnmeigpfmeomaa
namespace Go.Proofs.Ytfnmeigpfmeomaa
set_option linter.unusedVariables false
def elR (k:Nat) (piv:List Nat) (r:List Nat):List Nat:=if gn r k=0 then r else cmb 2305843009213693951 (gn r k*invF (gn piv k)%2305843009213693951) k r.length piv r
def elS (A:List (List Nat)) (k x y:Nat):List (List Nat):=swC (swR A x k) y k
def elN (A1:List (List Nat)) (k:Nat):List (List Nat):=updR A1 (k+1) A1.length (elR k (gr A1 k))
def elM (mi v e:Nat):Nat:=if e=1 then (0+(2305843009213693951-mi*v%2305843009213693951))%2305843009213693951 else mi*v%2305843009213693951
def elF (C:Nat):Nat->List (List Nat)->Nat->Nat->Nat × Nat
 | 0,_,k,mi=>(k,mi)
 | f+1,A,k,mi=>match findF A k C with
  | none=>(k,mi)
  | some (x,y)=>elF C f (elN (elS A k x y) k) (k+1) (elM mi (ge (elS A k x y) k k) (exN x y k))
def minS (mi:Nat):Int:=if 1152921504606846975<mi then -((2305843009213693951-mi:Nat):Int) else (mi:Int)
theorem elF_none {C f k mi:Nat} {A:List (List Nat)} (h:findF A k C=none):elF C (f+1) A k mi=(k,mi):=by
 rw [elF,h]
theorem elF_some {C f k mi x y:Nat} {A:List (List Nat)} (h:findF A k C=some (x,y)):elF C (f+1) A k mi=elF C f (elN (elS A k x y) k) (k+1) (elM mi (ge (elS A k x y) k k) (exN x y k)):=by
 rw [elF,h]
theorem elM_lt (mi v e:Nat):elM mi v e<2305843009213693951:=by unfold elM;split <;> exact Nat.mod_lt _ (by omega)
theorem invF_lt (a:Nat):invF a<2305843009213693951:=by rw [invF_eq];exact Nat.mod_lt _ (by decide)
theorem elS_length (A:List (List Nat)) (k x y:Nat):(elS A k x y).length=A.length:=by unfold elS;rw [swC_length,swR_length]
theorem elN_length (A:List (List Nat)) (k:Nat):(elN A k).length=A.length:=updR_length _ _ _ _
theorem Ltm.elS {m C k x y:Nat} {A:List (List Nat)} (h:Ltm m A) (hc:Cl C A) (hm:0<m) (hk:k<A.length) (hkC:k<C) (hx:x<A.length) (hy:y<C):Ltm m (elS A k x y):=by
 unfold Go.Proofs.Ytfnmeigpfmeomaa.elS swC
 exact (h.swR hx hk).updR (hc.swR hx hk) hm (swp_small hy hkC)
theorem Cl.elS {C k x y:Nat} {A:List (List Nat)} (hc:Cl C A) (hk:k<A.length) (hx:x<A.length):Cl C (elS A k x y):=by
 unfold Go.Proofs.Ytfnmeigpfmeomaa.elS swC
 exact (hc.swR hx hk).updR (fun r hr=>by rw [swp_length];exact hr)
theorem elR_length (k:Nat) (piv r:List Nat):(elR k piv r).length=r.length:=by unfold elR;split <;> simp [cmb_length]
theorem elR_lt {k:Nat} {piv r:List Nat} (h:∀ j,gn r j<2305843009213693951) (j:Nat):gn (elR k piv r) j<2305843009213693951:=by
 unfold elR;split
 · exact h j
 · exact gn_mod_lt (by omega) h j
theorem Ltm.elN {C k:Nat} {A:List (List Nat)} (h:Ltm 2305843009213693951 A) (hc:Cl C A):Ltm 2305843009213693951 (elN A k):=by
 unfold Go.Proofs.Ytfnmeigpfmeomaa.elN
 exact h.updR hc (by omega) (fun r _ hr j=>elR_lt hr j)
theorem Cl.elN {C k:Nat} {A:List (List Nat)} (hc:Cl C A):Cl C (elN A k):=by
 unfold Go.Proofs.Ytfnmeigpfmeomaa.elN
 exact hc.updR (fun r hr=>by rw [elR_length];exact hr)
theorem elS_pos {C k x y:Nat} {A:List (List Nat)} (hc:Cl C A) (h:findF A k C=some (x,y)):ge (elS A k x y) k k≠0:=by
 obtain ⟨h1,h2,h3,h4,h5⟩:=findF_some h
 have hk:k<A.length:=by omega
 have hl:=(hc.swR h2 hk) k (by rw [swR_length];exact hk)
 unfold elS ge
 rw [gr_swC (by rw [swR_length];exact hk),gn_swp (by rw [hl];exact h4) (by rw [hl];omega),if_pos rfl,gr_swR h2 hk,if_pos rfl]
 exact h5
end Go.Proofs.Ytfnmeigpfmeomaa
namespace Go.Proofs.Ytfnmeigpfmeomaa
open Go.RowKit
set_option linter.unusedVariables false
structure El (base R:Nat) (bs:List Nat) (C n rk:Nat) (w0:World) (cur:List (List Nat)) (k:Nat) (bs':List Nat) (w:World):Prop where
 mu:MU w R bs' C cur
 sub:∀ b∈bs',b∈bs
 bel:Below base w0 w
 box:Arr w rk 3 [.int .i64 (k:Int)]
 len:cur.length=n
 lt:Ltm 2305843009213693951 cur
 cl:Cl C cur
theorem El.drewN {base R:Nat} {bs:List Nat} {C n rk:Nat} {w0:World} {cur:List (List Nat)} {k:Nat} {bs':List Nat} {w:World} (h:El base R bs C n rk w0 cur k bs' w) (q:Nat):El base R bs C n rk w0 cur k bs' (w.drewN q) :=
 ⟨h.mu.drewN q,h.sub,bdrewN h.bel q,h.box,h.len,h.lt,h.cl⟩
theorem El.alloc {base R:Nat} {bs:List Nat} {C n rk:Nat} {w0:World} {cur:List (List Nat)} {k:Nat} {bs':List Nat} {w:World} (h:El base R bs C n rk w0 cur k bs' w) (hb:base<=w.heap.size) (o:Obj):El base R bs C n rk w0 cur k bs' (w.alloc o) :=
 ⟨h.mu.alloc o,h.sub,h.bel.alloc hb o,h.box.alloc o,h.len,h.lt,h.cl⟩
theorem El.next {base R:Nat} {bs:List Nat} {C n rk:Nat} {w0:World} {cur cur':List (List Nat)} {k:Nat} {bs' bs'':List Nat} {w w':World} (h:El base R bs C n rk w0 cur k bs' w) (hb:base<=w.heap.size) (hL:∀ b∈R :: bs,base<=b) (nk:rk ∉ R :: bs)
 (h1:MU w' R bs'' C cur') (h2:∀ b∈bs'',b∈bs') (h3:Wr (R :: bs') w w') (hl:cur'.length=n) (hlt:Ltm 2305843009213693951 cur') (hcl:Cl C cur'):El base R bs C n rk w0 cur' k bs'' w' :=
 have hs:∀ x∈R :: bs',x∈R :: bs:=fun x hx=>by
  rcases List.mem_cons.1 hx with e|e
  · rw [e];simp
  · exact List.mem_cons_of_mem _ (h.sub x e)
 ⟨h1,fun b hb=>h.sub b (h2 b hb),h.bel.trans (h3.below hb (fun x hx=>hL x (hs x hx))),h.box.wr h3 (fun q=>nk (hs _ q)),hl,hlt,hcl⟩
theorem zero_cast:((0:Nat):Int)=0:=rfl
theorem subP0_any (b:Nat) (w:World) (hb:b<2305843009213693951) :
 Calls Try.prog 70 #[.int .u64 0,.int .u64 (b:Nat),.int .u64 2305843009213693951] w fun e w'=>e=.returned (.int .u64 (((0+(2305843009213693951-b))%2305843009213693951:Nat):Int))/\w=w':=by
 have h:=subP_any 0 b w (by omega) hb
 rw [zero_cast] at h
 exact h
theorem set_gr_self (A:List (List Nat)) (i:Nat):A.set i (gr A i)=A:=by
 apply gr_ext (by simp)
 intro c hc
 by_cases h:i<A.length
 · rw [gr_set _ _ _ _ h];split
   · next e=>rw [e]
   · rfl
 · rw [List.set_eq_of_length_le (by omega)]
theorem El.box_next {base R:Nat} {bs:List Nat} {C n rk:Nat} {w0:World} {cur:List (List Nat)} {k k':Nat} {bs':List Nat} {w:World} (h:El base R bs C n rk w0 cur k bs' w) (hb:base<=rk) (nk:rk ∉ R :: bs):El base R bs C n rk w0 cur k' bs' (w.setCell ⟨rk,0,none⟩ (.int .i64 (k':Int))):=by
 have o:=(Onl.refl rk w).setCell 0 (.int .i64 (k':Int))
 refine ⟨h.mu.keep (o.block R (fun e=>nk (by rw [<- e];simp))) (fun b hb=>o.block b (fun e=>nk (by rw [<- e];exact List.mem_cons_of_mem _ (h.sub b hb)))),h.sub,h.bel.setCell (p:=⟨rk,0,none⟩) hb _,?_,h.len,h.lt,h.cl⟩
 exact h.box.set 0 _
set_option maxHeartbeats 4000000 in
set_option maxRecDepth 100000 in
theorem eliminate_any (v:Value) (rows:List (List Int)) (C:Nat) (w:World) (h:Mat w v rows) (hn:rows.length<=1000) (hC:C<=1000) (hc:∀ r∈rows,r.length=C) (hb:∀ r∈rows,∀ x∈r,-9223372036854775807<=x/\x<=9223372036854775807) :
 Calls Try.prog 48 #[v] w fun e w'=>e=.returned (.tuple #[.int .i64 ((elF C (rows.length+1) (resF 2305843009213693951 rows) 0 1).1:Nat),.int .i64 (minS (elF C (rows.length+1) (resF 2305843009213693951 rows) 0 1).2)])/\Below w.heap.size w w':=by
 have HRS:=Lib.hid (residues_any v rows C 2305843009213693951 w h hn hC hc hb (by omega) (by omega))
 rw [p_cast] at HRS
 have hA0:Ltm 2305843009213693951 (resF 2305843009213693951 rows):=by
  intro i j
  unfold ge gr resF
  rw [List.getElem?_map]
  cases hr:rows[i]? with
  | none=>simp [gn]
  | some r =>
   simp only [Option.map_some,Option.getD_some]
   unfold gn resR
   rw [List.getElem?_map]
   cases hx:r[j]? with
   | none=>simp
   | some x=>simp only [Option.map_some,Option.getD_some];exact rs_lt (by omega) x
 obtain ⟨T,hT⟩:∃ T,T=elF C (rows.length+1) (resF 2305843009213693951 rows) 0 1:=⟨_,rfl⟩
 rw [<- hT]
 have hAl:=resF_length 2305843009213693951 rows
 obtain ⟨A,hA⟩:∃ A,A=resF 2305843009213693951 rows:=⟨_,rfl⟩
 rw [<- hA] at HRS hT hA0 hAl
 obtain ⟨n,hnn⟩:∃ n,n=rows.length:=⟨_,rfl⟩
 rw [<- hnn] at HRS hn hT hAl
 have HT:=Lib.hid hT
 obtain ⟨c0,c1,c2,c3⟩:∃ A0 a1 c0,v=.slice A0 a1 c0:=by obtain ⟨A0,c0,e,_⟩:=h;exact ⟨_,_,_,e⟩
 subst c3
 clear h hc hb hA hnn hT
 go_enter Try.func48,Try.ntmps48
 go_upto_region 2 with (go_at_call 67;refine HRS.out.mono ?_;rintro e w1 ⟨rfl,bs,hmu,hbs,hbel⟩)
 have hEl:El w.heap.size w.heap.size bs C n w1.heap.size w A 0 bs (w1.alloc (.cells #[.int .i64 0] 3)) :=
  ⟨hmu.alloc _,fun _ q=>q,hbel.alloc hbel.size _,Arr.new w1 3 [.int .i64 0],hAl,hA0,hmu.cols⟩
 have nk:w1.heap.size ∉ w.heap.size :: bs:=fun q=>by
  rcases List.mem_cons.1 q with e|e
  · have:=hmu.outer.lt;omega
  · have:=hmu.lt _ e;omega
 have HNK:=Lib.hid nk
 have HRK:=Lib.hid hbel.size
 have HL:=Lib.hid (show ∀ b∈w.heap.size :: bs,w.heap.size<=b from fun b q=>by
  rcases List.mem_cons.1 q with e|e
  · omega
  · have:=hbs b e;omega)
 clear nk hbs hbel hmu hA0 hAl
 go_wp2_with fail
 generalize w1.alloc (.cells #[.int .i64 0] 3)=w2 at hEl ⊢
 generalize w1.heap.size=rk at *
 obtain ⟨R,hRR⟩:∃ R,R=w.heap.size:=⟨_,rfl⟩
 rw [<- hRR] at hEl HNK HL HRK ⊢
 have HR:=Lib.hid hRR
 clear hRR
 go_loopg [6,7,8,9,10,11,13] (n+1) (fun gk s6 s7 s8 s9 s10 s11 s13 wr=>∃ (cur:List (List Nat)) (k mi:Nat) (bs':List Nat) (f:Nat),s6=.int .u64 (mi:Int)/\gk=n+1-k/\k<=n/\n-k<f/\mi<2305843009213693951/\Hid (elF C f cur k mi=T)/\El R R bs C n rk w cur k bs' wr)
 case atStart=>exact ⟨A,0,1,bs,n+1,rfl,rfl,Nat.zero_le _,by omega,by omega,Lib.hid HT.out.symm,hEl⟩
 case round =>
  clear hEl HT
  obtain ⟨cur,k,mi,bs',f,rfl,rfl,hkn,hf,hmi,HT,hE⟩:=hrel
  obtain ⟨wo,rfl⟩:∃ wo:World,wo=wr:=⟨_,rfl⟩
  have y0:=hE.box.cell 0
  obtain ⟨g,rfl⟩:∃ g,f=g+1:=⟨f-1,by omega⟩
  cases hF:findF cur k C with
  | none =>
   have HFD:=Lib.hid (find_none R bs' C cur k wo hE.mu (by rw [hE.len];exact hn) hC (by omega) hF)
   rw [hE.len] at HFD
   have HTT:=Lib.hid (HT.out.symm.trans (elF_none hF))
   have HBE:=Lib.hid hE.bel
   clear hE hF HT
   by_cases hbig:1152921504606846975<mi
   · have z1:(1152921504606846975:Int)<(mi:Int):=by omega
     have HMS:=Lib.hid (show minS mi = -(2305843009213693951-(mi:Int)) by unfold minS;rw [if_pos hbig];omega)
     clear hbig
     go_wp2_with (go_at_call 68;refine HFD.out.mono ?_;rintro e w' ⟨rfl,rfl⟩)
     go_ret2
     have ht:=HTT.out
     clear HTT
     subst ht
     have hr:=HR.out
     clear HR
     subst hr
     refine ⟨?_,HBE.out⟩
     show _=Ending.returned (.tuple #[.int .i64 (k:Int),.int .i64 (minS mi)])
     rw [HMS.out];rfl
   · have z1:¬ ((1152921504606846975:Int)<(mi:Int)):=by omega
     have HMS:=Lib.hid (show minS mi=(mi:Int) by unfold minS;rw [if_neg hbig])
     clear hbig
     go_wp2_with (go_at_call 68;refine HFD.out.mono ?_;rintro e w' ⟨rfl,rfl⟩)
     go_ret2
     have ht:=HTT.out
     clear HTT
     subst ht
     have hr:=HR.out
     clear HR
     subst hr
     refine ⟨?_,HBE.out⟩
     show _=Ending.returned (.tuple #[.int .i64 (k:Int),.int .i64 (minS mi)])
     rw [HMS.out];rfl
  | some xy =>
   obtain ⟨x,y⟩:=xy
   have HFD:=Lib.hid (find_some R bs' C cur k x y wo hE.mu (by rw [hE.len];exact hn) hC (by omega) hF)
   rw [hE.len] at HFD
   have HTT:=Lib.hid ((elF_some hF).symm.trans HT.out)
   obtain ⟨hx1,hx2,hy1,hy2,_⟩:=findF_some hF
   rw [hE.len] at hx2
   have hk2:k<n:=by omega
   have hkC:k<C:=by omega
   have HP:=Lib.hid (elS_pos hE.cl hF)
   obtain ⟨A1,hA1⟩:∃ A1,A1=elS cur k x y:=⟨_,rfl⟩
   have HA1:=Lib.hid (show A1.length=n/\Ltm 2305843009213693951 A1/\Cl C A1 by
    rw [hA1]
    exact ⟨by rw [elS_length];exact hE.len,hE.lt.elS hE.cl (by omega) (by rw [hE.len];exact hk2) hkC (by rw [hE.len];exact hx2) hy2,hE.cl.elS (by rw [hE.len];exact hk2) (by rw [hE.len];exact hx2)⟩)
   have HFO:=Lib.hid (fun w' (q:Found R bs' C cur k x y wo w')=>(show ∃ bs2,El R R bs C n rk w A1 k bs2 w' from by
    obtain ⟨bs2,h1,h2,h3⟩:=q
    rw [show swC (swR cur x k) y k=A1 from hA1.symm] at h1
    exact ⟨bs2,hE.next (by rw [HR.out];exact hE.bel.size) HL.out HNK.out h1 h2 h3 HA1.out.1 HA1.out.2.1 HA1.out.2.2⟩))
   rw [<- hA1] at HP HTT
   clear hE hF HT hA1 hx1 hx2 hy1 hy2
   obtain ⟨ex,hex⟩:∃ ex,ex=exN x y k:=⟨_,rfl⟩
   have hex2:ex<=2:=by rw [hex];unfold exN;split <;> split <;> omega
   rw [<- hex] at HTT HFD
   clear hex
   go_upto_region 5 with (go_at_call 68;refine HFD.out.mono ?_;rintro e w' ⟨rfl,hfo⟩)
   obtain ⟨bs2,hE2⟩:=HFO.out _ hfo
   clear hfo HFO y0 HFD
   obtain ⟨bk,hbk,hbkm⟩:=hE2.mu.bl (i:=k) (by rw [hE2.len];exact hk2)
   have y0:=hE2.box.cell 0
   have c1:=hE2.mu.cellR hbk
   have z0:(k:Int)<(n:Int):=by omega
   have z0':(k:Int)<(C:Int):=by omega
   have lR:=hE2.bel.size
   have HBK:=Lib.hid hbk
   have hE3:=hE2.alloc (by rw [HR.out];exact lR) (.cells #[.slice (some ⟨bk,0,none⟩) C C] 103)
   have hpv:Arr (w'.alloc (.cells #[.slice (some ⟨bk,0,none⟩) C C] 103)) w'.heap.size 103 [hd C bk]:=Arr.new w' 103 [.slice (some ⟨bk,0,none⟩) C C]
   have npv:w'.heap.size ∉ bs2:=fun q=>by have:=hE2.mu.lt _ q;omega
   have npk:w'.heap.size≠rk:=by have:=hE2.box.lt;omega
   have HNPV:=Lib.hid npv
   clear hbk hE2 npv
   go_upto_region 6 with fail
   generalize w'.alloc (.cells #[.slice (some ⟨bk,0,none⟩) C C] 103)=w3 at hE3 hpv ⊢
   generalize w'.heap.size=pv at *
   clear y0 c1 lR
   have y0:=hE3.box.cell 0
   have y1:w3.cell? ⟨pv,0,none⟩=some (.slice (some ⟨bk,0,none⟩) C C):=hpv.cell 0
   have c2:=hE3.mu.cell HBK.out hkC
   have hv1:=HA1.out.2.1 k k
   have HE3:=Lib.hid hE3
   have HPV:=Lib.hid hpv
   obtain ⟨v,hv⟩:∃ v,v=ge A1 k k:=⟨_,rfl⟩
   rw [<- hv] at c2 hv1 HTT HP
   have HVV:=Lib.hid hv
   have HMU:=Lib.hid (fun W=>mulP_any mi v W (by omega) (by omega))
   have hmq:mi*v%2305843009213693951<2305843009213693951:=Nat.mod_lt _ (by omega)
   have HSU:=Lib.hid (fun W=>subP0_any (mi*v%2305843009213693951) W hmq)
   have HEM:=Lib.hid (show elM mi v ex=if ex=1 then (0+(2305843009213693951-mi*v%2305843009213693951))%2305843009213693951 else mi*v%2305843009213693951 from rfl)
   have hem:=elM_lt mi v ex
   generalize elM mi v ex=em at *
   generalize (0+(2305843009213693951-mi*v%2305843009213693951))%2305843009213693951=ms at *
   generalize mi*v%2305843009213693951=mq at *
   clear hv hE3 hpv
   go_upto_if 35 with (go_at_call 69;(with_reducible refine (HMU.out _).mono ?_);rintro e w' ⟨q,rfl,rfl⟩)
   go_cut [6] (fun s6 wx=>s6=.int .u64 (em:Int)/\∃ q,wx=w3.drewN q)
   case first =>
    by_cases he:ex=1
    · have z1:((ex:Int)==1)=true:=by simp;omega
      have E:=Lib.hid he
      clear he
      go_wp2_with (go_at_call 70;(with_reducible refine (HSU.out _).mono ?_);rintro e w' ⟨rfl,rfl⟩)
      go_meet
      refine ⟨?_,_,rfl⟩
      rw [HEM.out,if_pos E.out]
    · have z1:((ex:Int)==1)=false:=by simp;omega
      have E:=Lib.hid he
      clear he
      go_wp2_with fail
      go_meet
      refine ⟨?_,_,rfl⟩
      rw [HEM.out,if_neg E.out]
   case rest =>
    obtain ⟨rfl,q4,hwc⟩:=hcut
    have hE4:El R R bs C n rk w A1 k bs2 wc:=by rw [hwc];exact HE3.out.drewN _
    have hp4:Arr wc pv 103 [hd C bk]:=by rw [hwc];exact HPV.out
    clear hwc y0 y1 c2 HE3 HPV HMU HSU HEM
    have y0:=hE4.box.cell 0
    have y1:wc.cell? ⟨pv,0,none⟩=some (.slice (some ⟨bk,0,none⟩) C C):=hp4.cell 0
    have c2:=hE4.mu.cell HBK.out hkC
    rw [<- HVV.out] at c2
    have HIV:=Lib.hid (fun W=>inverse_any v W (by omega))
    have hiv:=invF_lt v
    obtain ⟨iv,hivv⟩:∃ iv,iv=invF v:=⟨_,rfl⟩
    rw [<- hivv] at HIV hiv
    have HIVV:=Lib.hid hivv
    clear hivv
    have HE4:=Lib.hid hE4
    have HP4:=Lib.hid hp4
    clear hE4 hp4
    go_upto_region 10 with (go_at_call 71;(with_reducible refine (HIV.out _).mono ?_);rintro e w' ⟨q,rfl,rfl⟩)
    have hE5:=HE4.out.drewN q
    have hp5:Arr (wc.drewN q) pv 103 [hd C bk]:=HP4.out
    generalize wc.drewN q=w5 at *
    clear y0 y1 c2 HE4 HP4 HIV
    have y0:=hE5.box.cell 0
    have HE5:=Lib.hid hE5
    have HP5:=Lib.hid hp5
    clear hE5 hp5
    have HG:=Lib.hid (show gr A1 k=gr A1 k/\elN A1 k=updR A1 (k+1) n (elR k (gr A1 k)) from ⟨rfl,by unfold elN;rw [HA1.out.1]⟩)
    have HUP:=Lib.hid (fun x=>(show (updR A1 (k+1) x (elR k (gr A1 k))).length=n/\Ltm 2305843009213693951 (updR A1 (k+1) x (elR k (gr A1 k)))/\Cl C (updR A1 (k+1) x (elR k (gr A1 k))) from
     ⟨by rw [updR_length];exact HA1.out.1,HA1.out.2.1.updR HA1.out.2.2 (by omega) (fun r _ hr j=>elR_lt hr j),HA1.out.2.2.updR (fun r hr=>by rw [elR_length];exact hr)⟩))
    by_cases hlast:k+1=n
    · have z2:¬ ((k:Int)+1<(n:Int)):=by omega
      have HLA:=Lib.hid hlast
      clear hlast
      have hz:n-(k+1)=0:=by have:=HLA.out;omega
      have HNN:=Lib.hid (show updR A1 (k+1) n (elR k (gr A1 k))=A1 by rw [HLA.out,updR_start])
      go_wp2_with fail
      clear hz
      go_loopg [13,49] 0 (fun gk s13 s49 wr=>gk=0/\s49=.int .i64 0/\w5=wr)
      case atStart=>exact ⟨rfl,rfl,rfl⟩
      case round =>
       obtain ⟨rfl,rfl,rfl⟩:=hrel
       have zf:=HE5.out.box.frozen 0
       go_wp2_with fail
       go_roundg (n+1-(k+1))
       case measure=>omega
       case rel=>exact ⟨A1,k+1,em,bs2,g,rfl,rfl,by omega,by omega,hem,Lib.hid (by have:=HTT.out;rw [HG.out.2,HNN.out] at this;exact this),HE5.out.box_next (k':=k+1) HRK.out HNK.out⟩
    · have z2:(k:Int)+1<(n:Int):=by omega
      go_wp2_with fail
      generalize hLL:n-(k+1)=L at *
      have HLN:=Lib.hid (show k+1+L=n by omega)
      have hL2:L<=1000:=by omega
      clear hLL y0
      go_loopg [13,49] L (fun gk s13 s49 wr=>∃ x:Nat,x<=L/\gk=L-x/\s49=.int .i64 (x:Int)/\El R R bs C n rk w (updR A1 (k+1) (k+1+x) (elR k (gr A1 k))) k bs2 wr/\Arr wr pv 103 [hd C bk])
      case atStart=>exact ⟨0,Nat.zero_le _,rfl,rfl,by rw [Nat.add_zero,updR_start];exact HE5.out,HP5.out⟩
      case round =>
       clear HE5 HP5
       obtain ⟨x,hx,rfl,rfl,hE,hp⟩:=hrel
       obtain ⟨wp,rfl⟩:∃ wp:World,wp=wr:=⟨_,rfl⟩
       have y0:=hE.box.cell 0
       have zf:=hE.box.frozen 0
       by_cases hxt:x<L
       · have z3:(x:Int)<(L:Int):=by omega
         have hin:k+1+x<n:=by have:=HLN.out;omega
         obtain ⟨d,hd',hdm⟩:=hE.mu.bl (i:=k+1+x) (by rw [hE.len];exact hin)
         have c1:=hE.mu.cellR hd'
         have c2:=hE.mu.cell hd' hkC
         unfold ge at c2
         rw [gr_updR_at] at c2
         have HST:=Lib.hid (updR_step (A:=A1) (lo:=k+1) (x:=k+1+x) (f:=elR k (gr A1 k)) (Nat.le_add_right _ _) (by rw [HA1.out.1];exact hin))
         have hvr:gn (gr A1 (k+1+x)) k<2305843009213693951:=HA1.out.2.1 _ k
         by_cases h0:gn (gr A1 (k+1+x)) k=0
         · have HEQ:=Lib.hid (show updR A1 (k+1) (k+1+(x+1)) (elR k (gr A1 k))=updR A1 (k+1) (k+1+x) (elR k (gr A1 k)) by
            rw [<- Nat.add_assoc,<- HST.out]
            unfold elR
            rw [if_pos h0]
            have:=set_gr_self (updR A1 (k+1) (k+1+x) (elR k (gr A1 k))) (k+1+x)
            rw [gr_updR_at] at this
            exact this)
           rw [h0] at c2
           have HE:=Lib.hid hE
           clear hE hd' h0
           go_wp2_with fail
           go_roundg (L-(x+1))
           case measure=>omega
           case rel=>exact ⟨x+1,by omega,rfl,by go_num,by rw [HEQ.out];exact HE.out,hp⟩
         · have HER:=Lib.hid (show elR k (gr A1 k) (gr A1 (k+1+x))=cmb 2305843009213693951 (gn (gr A1 (k+1+x)) k*iv%2305843009213693951) k (gr A1 (k+1+x)).length (gr A1 k) (gr A1 (k+1+x)) by
            unfold elR;rw [if_neg h0,HIVV.out,HVV.out];rfl)
           have HML:=Lib.hid (fun W=>mulP_any (gn (gr A1 (k+1+x)) k) iv W (by omega) (by omega))
           have hby:gn (gr A1 (k+1+x)) k*iv%2305843009213693951<2305843009213693951:=Nat.mod_lt _ (by omega)
           have hne:d≠bk:=hE.mu.ne hd' HBK.out (by omega)
           have hdr:d≠rk:=fun e=>HNK.out (by rw [<- e];exact List.mem_cons_of_mem _ (hE.sub d hdm))
           have hdp:d≠pv:=fun e=>HNPV.out (by rw [<- e];exact hdm)
           have HCB:=Lib.hid (fun (q:Nat)=>combine_any d bk rk pv C (gr A1 (k+1+x)) (gr A1 k) (gn (gr A1 (k+1+x)) k*iv%2305843009213693951) k (wp.drewN q)
            (by have:=hE.mu.row _ d hd';rw [gr_updR_at] at this;exact this) (by have:=hE.mu.row k bk HBK.out;rw [gr_updR (by rw [HA1.out.1];exact hk2),if_neg (by omega)] at this;exact this)
            hE.box hp hne hdr hdp (HA1.out.2.2 _ (by rw [HA1.out.1];exact hin)) (HA1.out.2.2 k (by rw [HA1.out.1];exact hk2)) hC (by omega) hby (fun j=>HA1.out.2.1 _ j) (fun j=>HA1.out.2.1 k j))
           have HNX:=Lib.hid (fun (q:Nat) (w':World) (ha:Arr w' d 88 (uc (cmb 2305843009213693951 (gn (gr A1 (k+1+x)) k*iv%2305843009213693951) k C (gr A1 k) (gr A1 (k+1+x))))) (ho:Onl d (wp.drewN q) w')=>(show El R R bs C n rk w (updR A1 (k+1) (k+1+(x+1)) (elR k (gr A1 k))) k bs2 w'/\Arr w' pv 103 [hd C bk] from by
            have hE':=hE.drewN q
            have hcl:=HA1.out.2.2 (k+1+x) (by rw [HA1.out.1];exact hin)
            have hu:=HUP.out (k+1+(x+1))
            refine ⟨hE'.next (by rw [HR.out];exact hE'.bel.size) HL.out HNK.out ?_ (fun _ q=>q) (Wr.of_onl ho (List.mem_cons_of_mem _ hdm)) hu.1 hu.2.1 hu.2.2,Arr.onl (w:=wp.drewN q) hp ho hdp.symm⟩
            rw [<- Nat.add_assoc,<- HST.out,HER.out,hcl]
            exact hE'.mu.setRow hd' ho (by rw [cmb_length];exact hcl) ha))
           have z4:(((gn (gr A1 (k+1+x)) k:Nat):Int) != 0)=true:=by simp;omega
           have HC2:=Lib.hid c2
           generalize gn (gr A1 (k+1+x)) k*iv%2305843009213693951=by_ at *
           generalize gn (gr A1 (k+1+x)) k=vr at *
           clear hE hp hd' h0 HST HER
           have c2:=HC2.out
           go_wp2_with (first|(go_at_call 69;(with_reducible refine (HML.out _).mono ?_);rintro e w' ⟨q,rfl,rfl⟩)|(go_at_call 72;(with_reducible refine (HCB.out _).mono ?_);rintro e w' ⟨rfl,ha,ho⟩))
           go_roundg (L-(x+1))
           case measure=>omega
           case rel=>exact ⟨x+1,by omega,rfl,by go_num,HNX.out _ _ ha ho⟩
       · have z3:¬ ((x:Int)<(L:Int)):=by omega
         have hxn:x=L:=by omega
         have HXN:=Lib.hid (show k+1+x=n by rw [hxn];exact HLN.out)
         have HE:=Lib.hid hE
         clear hxn hE
         go_wp2_with fail
         go_roundg (n+1-(k+1))
         case measure=>omega
         case rel=>exact ⟨elN A1 k,k+1,em,bs2,g,rfl,rfl,by omega,by omega,hem,HTT,by have e:=HE.out.box_next (k':=k+1) HRK.out HNK.out;rw [HXN.out] at e;rw [HG.out.2];exact e⟩
end Go.Proofs.Ytfnmeigpfmeomaa
namespace Go.Proofs.Ytfnmeigpfmeomaa
set_option linter.unusedVariables false
theorem isoF_wk {m k C:Nat}:∀ (f:Nat) (A:List (List Nat)),Wk m k C A->Wk m k C (isoF m k C f A)
 | 0,A,h=>h
 | f+1,A,h=>by
  rw [isoF];split
  · exact isoF_wk f _ h.rowsAll.colsAll
  · exact h.rowsAll.colsAll
theorem isoF_length {m k C:Nat}:∀ (f:Nat) (A:List (List Nat)),(isoF m k C f A).length=A.length
 | 0,A=>rfl
 | f+1,A=>by
  rw [isoF];split
  · rw [isoF_length f,colsAll_length,rowsAll_length]
  · rw [colsAll_length,rowsAll_length]
def facS (m C:Nat) (A:List (List Nat)) (k:Nat):List (List Nat) :=
 match findF A k C with
 | none=>A
 | some (x,y)=>isoF m k C (isoM k C (elS A k x y)+1) (elS A k x y)
def facA (m C:Nat) (A:List (List Nat)):Nat->List (List Nat)
 | 0=>A
 | k+1=>facS m C (facA m C A k) k
theorem facS_none {m C k:Nat} {A:List (List Nat)} (h:findF A k C=none):facS m C A k=A:=by unfold facS;rw [h]
theorem facS_some {m C k x y:Nat} {A:List (List Nat)} (h:findF A k C=some (x,y)):facS m C A k=isoF m k C (isoM k C (elS A k x y)+1) (elS A k x y):=by unfold facS;rw [h]
theorem wk_of_find {m C k x y:Nat} {A:List (List Nat)} (h:findF A k C=some (x,y)) (hl:Ltm m A) (hc:Cl C A) (hm:0<m):Wk m k C (elS A k x y):=by
 obtain ⟨h1,h2,h3,h4,_⟩:=findF_some h
 exact ⟨hl.elS hc hm (by omega) (by omega) h2 h4,hc.elS (by omega) h2,by rw [elS_length];omega,by omega,elS_pos hc h⟩
theorem facS_all {m C:Nat} {A:List (List Nat)} (hl:Ltm m A) (hc:Cl C A) (hm:0<m) (k:Nat):Ltm m (facS m C A k)/\Cl C (facS m C A k)/\(facS m C A k).length=A.length:=by
 cases h:findF A k C with
 | none=>rw [facS_none h];exact ⟨hl,hc,rfl⟩
 | some xy =>
  obtain ⟨x,y⟩:=xy
  rw [facS_some h]
  have hw:=isoF_wk (isoM k C (elS A k x y)+1) _ (wk_of_find h hl hc hm)
  exact ⟨hw.lt,hw.cl,by rw [isoF_length,elS_length]⟩
theorem facA_all {m C:Nat} {A:List (List Nat)} (hl:Ltm m A) (hc:Cl C A) (hm:0<m):∀ k,Ltm m (facA m C A k)/\Cl C (facA m C A k)/\(facA m C A k).length=A.length
 | 0=>⟨hl,hc,rfl⟩
 | k+1=>by
  obtain ⟨a,b,c⟩:=facA_all hl hc hm k
  obtain ⟨a',b',c'⟩:=facS_all a b hm k
  exact ⟨a',b',c'.trans c⟩
def dgv (m C:Nat) (A:List (List Nat)) (k:Nat):Nat:=Nat.gcd (ge (facA m C A (k+1)) k k) m
def dgP (m C:Nat) (A:List (List Nat)) (d x:Nat):List Nat:=(List.range d).map fun j=>if j<x then dgv m C A j else 0
theorem dgP_length (m C:Nat) (A:List (List Nat)) (d x:Nat):(dgP m C A d x).length=d:=by simp [dgP]
theorem gn_dgP {m C:Nat} {A:List (List Nat)} {d x j:Nat} (h:j<d):gn (dgP m C A d x) j=if j<x then dgv m C A j else 0:=by unfold dgP;rw [gn_map_range,if_pos h]
theorem dgP_zero (m C:Nat) (A:List (List Nat)) (d:Nat):dgP m C A d 0=List.replicate d 0:=by
 apply gn_ext (by simp [dgP_length])
 intro i hi
 rw [dgP_length] at hi
 rw [gn_dgP hi,if_neg (by omega)]
 unfold gn;rw [List.getElem?_replicate,if_pos hi];rfl
theorem dgP_step {m C:Nat} {A:List (List Nat)} {d x:Nat} (h:x<d):(dgP m C A d x).set x (dgv m C A x)=dgP m C A d (x+1):=by
 apply gn_ext (by simp [dgP_length])
 intro i hi
 have hi':i<d:=by simpa [dgP_length] using hi
 rw [gn_set _ _ _ _ (by rw [dgP_length];exact h),gn_dgP hi',gn_dgP hi']
 by_cases e:i=x
 · subst e;rw [if_pos rfl,if_pos (by omega)]
 · rw [if_neg e]
   by_cases c:i<x
   · rw [if_pos c,if_pos (by omega)]
   · rw [if_neg c,if_neg (by omega)]
def Dvs (m:Nat) (D:List Nat):Prop:=∀ i,i<D.length->gn D i ∣ m
theorem dgP_dvs (m C:Nat) (A:List (List Nat)) (d:Nat):Dvs m (dgP m C A d d):=by
 intro i hi
 rw [dgP_length] at hi
 rw [gn_dgP hi,if_pos hi]
 exact Nat.gcd_dvd_right _ _
def chS (i k:Nat) (D:List Nat):List Nat:=(D.set i (Nat.gcd (gn D i) (gn D k))).set k (gn D i/Nat.gcd (gn D i) (gn D k)*gn D k)
theorem chS_length (i k:Nat) (D:List Nat):(chS i k D).length=D.length:=by simp [chS]
theorem div_gcd_mul (a b:Nat):a/Nat.gcd a b*b=Nat.lcm a b:=by
 unfold Nat.lcm
 rw [Nat.mul_comm (a/Nat.gcd a b) b,<- Nat.mul_div_assoc _ (Nat.gcd_dvd_left a b),Nat.mul_comm b a]
theorem gn_chS {i k:Nat} {D:List Nat} (hi:i<D.length) (hk:k<D.length) (c:Nat):gn (chS i k D) c=if c=k then Nat.lcm (gn D i) (gn D k) else if c=i then Nat.gcd (gn D i) (gn D k) else gn D c:=by
 unfold chS
 rw [gn_set _ _ _ _ (by simpa using hk),gn_set _ _ _ _ hi,div_gcd_mul]
theorem Dvs.chS {m i k:Nat} {D:List Nat} (h:Dvs m D) (hi:i<D.length) (hk:k<D.length):Dvs m (chS i k D):=by
 intro c hc
 rw [chS_length] at hc
 rw [gn_chS hi hk]
 split
 · exact Nat.lcm_dvd (h i hi) (h k hk)
 · split
   · exact Nat.dvd_trans (Nat.gcd_dvd_left _ _) (h i hi)
   · exact h c hc
def chU (i:Nat) (D:List Nat):Nat->List Nat
 | 0=>D
 | x+1=>chS i (i+1+x) (chU i D x)
def chI (d:Nat) (D:List Nat):Nat->List Nat
 | 0=>D
 | i+1=>chU i (chI d D i) (d-(i+1))
theorem chU_length (i:Nat) (D:List Nat):∀ x,(chU i D x).length=D.length
 | 0=>rfl
 | x+1=>by rw [chU,chS_length,chU_length i D x]
theorem chI_length (d:Nat) (D:List Nat):∀ i,(chI d D i).length=D.length
 | 0=>rfl
 | i+1=>by rw [chI,chU_length,chI_length d D i]
theorem Dvs.chU {m i:Nat} {D:List Nat} (h:Dvs m D) (hi:i<D.length):∀ x,i+1+x<=D.length->Dvs m (chU i D x)
 | 0,_=>h
 | x+1,hx=>by
  rw [Go.Proofs.Ytfnmeigpfmeomaa.chU]
  exact (Dvs.chU h hi x (by omega)).chS (by rw [chU_length];exact hi) (by rw [chU_length];omega)
theorem Dvs.chI {m d:Nat} {D:List Nat} (h:Dvs m D) (hd:D.length=d):∀ i,i<=d->Dvs m (chI d D i)
 | 0,_=>h
 | i+1,hi=>by
  rw [Go.Proofs.Ytfnmeigpfmeomaa.chI]
  exact (Dvs.chI h hd i (by omega)).chU (by rw [chI_length];omega) _ (by rw [chI_length];omega)
theorem chU_next {i k:Nat} (D:List Nat) (h:i+1<=k):chU i D (k+1-(i+1))=chS i k (chU i D (k-(i+1))):=by
 rw [show k+1-(i+1)=(k-(i+1))+1 by omega,chU,show i+1+(k-(i+1))=k by omega]
def outP (m:Nat) (D:List Nat) (x:Nat):List Nat:=(List.range D.length).map fun j=>if j<x/\gn D j≠m then gn D j else 0
theorem outP_length (m:Nat) (D:List Nat) (x:Nat):(outP m D x).length=D.length:=by simp [outP]
theorem gn_outP {m:Nat} {D:List Nat} {x j:Nat} (h:j<D.length):gn (outP m D x) j=if j<x/\gn D j≠m then gn D j else 0:=by unfold outP;rw [gn_map_range,if_pos h]
theorem outP_zero (m:Nat) (D:List Nat):outP m D 0=List.replicate D.length 0:=by
 apply gn_ext (by simp [outP_length])
 intro i hi
 rw [outP_length] at hi
 rw [gn_outP hi,if_neg (by omega)]
 unfold gn;rw [List.getElem?_replicate,if_pos hi];rfl
theorem outP_step {m:Nat} {D:List Nat} {x:Nat} (h:x<D.length) (hne:gn D x≠m):(outP m D x).set x (gn D x)=outP m D (x+1):=by
 apply gn_ext (by simp [outP_length])
 intro i hi
 have hi':i<D.length:=by simpa [outP_length] using hi
 rw [gn_set _ _ _ _ (by rw [outP_length];exact h),gn_outP hi',gn_outP hi']
 by_cases e:i=x
 · subst e;rw [if_pos rfl,if_pos ⟨by omega,hne⟩]
 · rw [if_neg e]
   by_cases c:i<x/\gn D i≠m
   · rw [if_pos c,if_pos ⟨by omega,c.2⟩]
   · rw [if_neg c,if_neg (fun q=>c ⟨by omega,q.2⟩)]
theorem outP_skip {m:Nat} {D:List Nat} {x:Nat} (h:x<D.length) (hne:gn D x=m):outP m D x=outP m D (x+1):=by
 apply gn_ext (by simp [outP_length])
 intro i hi
 rw [outP_length] at hi
 rw [gn_outP hi,gn_outP hi]
 by_cases c:i<x/\gn D i≠m
 · rw [if_pos c,if_pos ⟨by omega,c.2⟩]
 · rw [if_neg c,if_neg (fun q=>c ⟨by
    by_cases e:i=x
    · subst e;exact absurd hne q.2
    · omega,q.2⟩)]
def facD (m C:Nat) (rows:List (List Int)) (d:Nat):List Nat:=chI d (dgP m C (resF m rows) d d) d
def facO (m C:Nat) (rows:List (List Int)) (d:Nat):List Nat:=outP m (facD m C rows d) d
theorem mod_sub_dvd (m a b:Nat) (hm:0<m):(m:Int) ∣ (((a+(m-b%m))%m:Nat):Int)-((a:Int)-(b:Int)):=by
 have h1:b%m<m:=Nat.mod_lt _ hm
 have h2:=Nat.div_add_mod (a+(m-b%m)) m
 have h3:=Nat.div_add_mod b m
 refine ⟨1+((b/m:Nat):Int)-(((a+(m-b%m))/m:Nat):Int),?_⟩
 have h4:((m:Int)*(((a+(m-b%m))/m:Nat):Int))+(((a+(m-b%m))%m:Nat):Int)=(a:Int)+((m:Int)-((b%m:Nat):Int)):=by
  have:((m*((a+(m-b%m))/m)+(a+(m-b%m))%m:Nat):Int)=((a+(m-b%m):Nat):Int):=by rw [h2]
  rw [Int.natCast_add,Int.natCast_mul] at this
  omega
 have h5:((m:Int)*((b/m:Nat):Int))+((b%m:Nat):Int)=(b:Int):=by
  have:((m*(b/m)+b%m:Nat):Int)=(b:Int):=by rw [h3]
  rw [Int.natCast_add,Int.natCast_mul] at this
  exact this
 rw [Int.mul_sub,Int.mul_add,Int.mul_one]
 omega
structure Kv (m C k:Nat) (x0:Nat->Int) (A:List (List Nat)) (x:Nat->Int):Prop where
 blk:∀ i j,i<A.length->j<C->(i<k\/j<k)->i≠j->ge A i j=0
 ker:∀ i,i<A.length->(m:Int) ∣ sumI C (fun j=>(ge A i j:Int)*x j)
 uni:∃ y:Nat->Int,(m:Int) ∣ sumI C (fun j=>y j*x j)-1
 old:∀ i,i<k->x i=x0 i
def KV (m C k:Nat) (x0:Nat->Int) (A:List (List Nat)):Prop:=∃ x,Kv m C k x0 A x
section
variable {m C k:Nat} {x0:Nat->Int} {A:List (List Nat)}
theorem KV.swR (h:KV m C k x0 A) {a b:Nat} (ha:a<A.length) (hb:b<A.length) (hka:k<=a) (hkb:k<=b):KV m C k x0 (swR A a b):=by
 obtain ⟨x,h⟩:=h
 have hg:∀ i j,ge (Go.Proofs.Ytfnmeigpfmeomaa.swR A a b) i j=if i=b then ge A a j else if i=a then ge A b j else ge A i j:=by
  intro i j
  unfold ge
  rw [gr_swR ha hb]
  split
  · rfl
  · split <;> rfl
 refine ⟨x,fun i j hi hj hor hne=>?_,fun i hi=>?_,h.uni,h.old⟩
 · rw [swR_length] at hi
   rw [hg]
   split
   · next e=>exact h.blk a j ha hj (by omega) (by omega)
   · split
     · exact h.blk b j hb hj (by omega) (by omega)
     · exact h.blk i j hi hj hor hne
 · rw [swR_length] at hi
   have e:(fun j=>(ge (Go.Proofs.Ytfnmeigpfmeomaa.swR A a b) i j:Int)*x j)=fun j=>(ge A (if i=b then a else if i=a then b else i) j:Int)*x j:=by
    funext j
    rw [hg]
    split
    · rfl
    · split <;> rfl
   rw [e]
   refine h.ker _ ?_
   split
   · exact ha
   · split
     · exact hb
     · exact hi
theorem KV.swap {B:List (List Nat)} (h:KV m C k x0 A) (hl:B.length=A.length) {a b:Nat} (ha:a<C) (hb:b<C) (hka:k<=a) (hkb:k<=b) (hab:a≠b)
 (hg:∀ i j,i<A.length->j<C->ge B i j=ge A i (if j=b then a else if j=a then b else j)):KV m C k x0 B:=by
 obtain ⟨x,h⟩:=h
 refine ⟨fun j=>x (if j=b then a else if j=a then b else j),fun i j hi hj hor hne=>?_,fun i hi=>?_,?_,fun i hi=>?_⟩
 · rw [hl] at hi
   rw [hg i j hi hj]
   split
   · next e=>exact h.blk i a hi ha (by omega) (by omega)
   · split
     · exact h.blk i b hi hb (by omega) (by omega)
     · exact h.blk i j hi hj hor hne
 · rw [hl] at hi
   have e:=sumI_two (f:=fun j=>(ge B i j:Int)*x (if j=b then a else if j=a then b else j)) (g:=fun j=>(ge A i j:Int)*x j) ha hb hab (fun l h1 h2 h3=>by
    show (ge B i l:Int)*_=_
    rw [hg i l hi h1,if_neg h3,if_neg h2])
   simp only [hg i a hi ha,hg i b hi hb,if_neg hab,if_pos] at e
   rw [e,show sumI C (fun j=>(ge A i j:Int)*x j)+((ge A i b:Int)*x b-(ge A i a:Int)*x a)+((ge A i a:Int)*x a-(ge A i b:Int)*x b)=sumI C (fun j=>(ge A i j:Int)*x j) by omega]
   exact h.ker i hi
 · obtain ⟨y,hy⟩:=h.uni
   refine ⟨fun j=>y (if j=b then a else if j=a then b else j),?_⟩
   have e:=sumI_two (f:=fun j=>y (if j=b then a else if j=a then b else j)*x (if j=b then a else if j=a then b else j)) (g:=fun j=>y j*x j) ha hb hab (fun l h1 h2 h3=>by
    show y _*x _=_
    rw [if_neg h3,if_neg h2])
   simp only [if_neg hab,if_pos] at e
   rw [e,show sumI C (fun j=>y j*x j)+(y b*x b-y a*x a)+(y a*x a-y b*x b)=sumI C (fun j=>y j*x j) by omega]
   exact hy
 · show x _=_
   rw [if_neg (by omega),if_neg (by omega)];exact h.old i hi
theorem KV.col {B:List (List Nat)} (h:KV m C k x0 A) (hl:B.length=A.length) {j:Nat} {b:Int} (hj:j<C) (hkC:k<C) (hkj:k<j)
 (hg:∀ i l,i<A.length->l<C->l≠j->ge B i l=ge A i l) (hm:∀ i,i<A.length->(m:Int) ∣ (ge B i j:Int)-((ge A i j:Int)-b*(ge A i k:Int))) (hz:∀ i,i<k->i<A.length->ge B i j=0):KV m C k x0 B:=by
 obtain ⟨x,h⟩:=h
 have hkj':k≠j:=by omega
 refine ⟨fun l=>if l=k then x k+b*x j else x l,fun i l hi hl' hor hne=>?_,fun i hi=>?_,?_,fun i hi=>?_⟩
 · rw [hl] at hi
   by_cases e:l=j
   · subst e
     exact hz i (by omega) hi
   · rw [hg i l hi hl' e];exact h.blk i l hi hl' hor hne
 · rw [hl] at hi
   have e:=sumI_two (f:=fun l=>(ge B i l:Int)*(if l=k then x k+b*x j else x l)) (g:=fun l=>(ge A i l:Int)*x l) hj hkC hkj'.symm (fun l h1 h2 h3=>by
    show (ge B i l:Int)*(if l=k then x k+b*x j else x l)=(ge A i l:Int)*x l
    rw [if_neg h3,hg i l hi h1 h2])
   simp only [if_neg hkj'.symm,if_pos,hg i k hi hkC hkj'] at e
   rw [e]
   obtain ⟨q,hq⟩:=hm i hi
   obtain ⟨p,hp⟩:=h.ker i hi
   refine ⟨p+q*x j,?_⟩
   have e3:(ge B i j:Int)=(ge A i j:Int)-b*(ge A i k:Int)+(m:Int)*q:=by omega
   rw [e3,hp,Int.mul_add,<- Int.mul_assoc,Int.add_mul,Int.sub_mul,Int.mul_add,Int.mul_assoc b,Int.mul_left_comm b,<- Int.mul_assoc (ge A i k:Int) b]
   rw [Int.mul_assoc (m:Int) q (x j)]
   omega
 · obtain ⟨y,hy⟩:=h.uni
   refine ⟨fun l=>if l=j then y j-b*y k else y l,?_⟩
   have e:=sumI_two (f:=fun l=>(if l=j then y j-b*y k else y l)*(if l=k then x k+b*x j else x l)) (g:=fun l=>y l*x l) hj hkC hkj'.symm (fun l h1 h2 h3=>by
    show (if l=j then y j-b*y k else y l)*(if l=k then x k+b*x j else x l)=y l*x l
    rw [if_neg h2,if_neg h3])
   simp only [if_neg hkj'.symm,if_neg hkj',if_pos] at e
   have e5:(y j-b*y k)*x j-y j*x j+(y k*(x k+b*x j)-y k*x k)=0:=by
    rw [Int.sub_mul,Int.mul_add,Int.mul_comm b (y k),Int.mul_assoc];omega
   rw [e,show sumI C (fun j=>y j*x j)+((y j-b*y k)*x j-y j*x j)+(y k*(x k+b*x j)-y k*x k)=sumI C (fun j=>y j*x j) by omega]
   exact hy
 · show (if i=k then x k+b*x j else x i)=x0 i
   rw [if_neg (by omega)];exact h.old i hi
theorem KV.row {B:List (List Nat)} (h:KV m C k x0 A) (hl:B.length=A.length) {i:Nat} {b:Int} (hi:i<A.length) (hki:k<i)
 (hg:∀ r l,r<A.length->r≠i->ge B r l=ge A r l) (hm:∀ l,l<C->(m:Int) ∣ (ge B i l:Int)-((ge A i l:Int)-b*(ge A k l:Int))) (hz:∀ l,l<k->l<C->ge B i l=0):KV m C k x0 B:=by
 obtain ⟨x,h⟩:=h
 refine ⟨x,fun r l hr hl' hor hne=>?_,fun r hr=>?_,h.uni,h.old⟩
 · rw [hl] at hr
   by_cases e:r=i
   · subst e;exact hz l (by omega) hl'
   · rw [hg r l hr e];exact h.blk r l hr hl' hor hne
 · rw [hl] at hr
   by_cases e:r=i
   · subst e
     have h1:(m:Int) ∣ sumI C (fun l=>(ge B r l:Int)*x l)-sumI C (fun l=>(ge A r l:Int)*x l-b*((ge A k l:Int)*x l)):=sumI_mod (fun l hl'=>by
      obtain ⟨q,hq⟩:=hm l hl'
      refine ⟨q*x l,?_⟩
      show (ge B r l:Int)*x l-((ge A r l:Int)*x l-b*((ge A k l:Int)*x l))=_
      rw [show (m:Int)*(q*x l)=(m:Int)*q*x l from (Int.mul_assoc _ _ _).symm,<- hq,Int.sub_mul,Int.sub_mul,Int.mul_assoc b])
     rw [sumI_sub] at h1
     have h2:(m:Int) ∣ sumI C (fun l=>(ge A r l:Int)*x l)-b*sumI C (fun l=>(ge A k l:Int)*x l):=Int.dvd_sub (h.ker r hr) (Int.dvd_trans (h.ker k (by omega)) (Int.dvd_mul_left _ _))
     have h3:=Int.dvd_add h1 h2
     rwa [Int.sub_add_cancel] at h3
   · have e2:(fun j=>(ge B r j:Int)*x j)=fun j=>(ge A r j:Int)*x j:=by funext j;rw [hg r j hr e]
     rw [e2];exact h.ker r hr
end
section
variable {m C k:Nat} {x0:Nat->Int} {A:List (List Nat)}
theorem KV.elS (h:KV m C k x0 A) (hc:Cl C A) {x y:Nat} (hk:k<A.length) (hkC:k<C) (hx:x<A.length) (hy:y<C) (hkx:k<=x) (hky:k<=y):KV m C k x0 (elS A k x y):=by
 have h1:=h.swR hx hk hkx (Nat.le_refl k)
 have hc1:=hc.swR hx hk
 unfold Go.Proofs.Ytfnmeigpfmeomaa.elS
 by_cases e:y=k
 · rw [e,swC_self];exact h1
 · refine h1.swap (swC_length _ _ _) hy hkC hky (Nat.le_refl k) e (fun i j hi hj=>?_)
   have hl:=hc1 i hi
   unfold ge
   rw [gr_swC hi,gn_swp (by rw [hl];exact hy) (by rw [hl];exact hkC)]
   split
   · rfl
   · split <;> rfl
theorem KV.rowPre (h:KV m C k x0 A) (hw:Wk m k C A) {i:Nat} (hi:i<A.length) (hki:k<i):KV m C k x0 (rowPre k i A):=by
 unfold Go.Proofs.Ytfnmeigpfmeomaa.rowPre
 split
 · exact h.swR hw.kn hi (Nat.le_refl _) (by omega)
 · exact h
theorem KV.rowStep (h:KV m C k x0 A) (hw:Wk m k C A) {i:Nat} (hi:i<A.length) (hki:k<i):KV m C k x0 (rowStep m k i A):=by
 have h1:=h.rowPre hw hi hki
 have hc:=hw.cl.rowPre hi hw.kn (k:=k) (i:=i)
 have hl:(gr (Go.Proofs.Ytfnmeigpfmeomaa.rowPre k i A) i).length=C:=hc i (by rw [rowPre_length];exact hi)
 have hge:∀ l,l<C->ge (Go.Proofs.Ytfnmeigpfmeomaa.rowStep m k i A) i l=if k<=l then (ge (Go.Proofs.Ytfnmeigpfmeomaa.rowPre k i A) i l+(m-ge (Go.Proofs.Ytfnmeigpfmeomaa.rowPre k i A) i k/ge (Go.Proofs.Ytfnmeigpfmeomaa.rowPre k i A) k k*ge (Go.Proofs.Ytfnmeigpfmeomaa.rowPre k i A) k l%m))%m else ge (Go.Proofs.Ytfnmeigpfmeomaa.rowPre k i A) i l:=by
  intro l hl'
  show gn (gr (Go.Proofs.Ytfnmeigpfmeomaa.rowStep m k i A) i) l=_
  rw [gr_rowStep hi,if_pos rfl,gn_cmb (by rw [hl];exact hl')]
  by_cases q:k<=l
  · rw [if_pos q,if_pos ⟨q,by rw [hl];exact hl'⟩];rfl
  · rw [if_neg q,if_neg (fun z=>q z.1)];rfl
 obtain ⟨xx,hh⟩:=h1
 have hi':i<(Go.Proofs.Ytfnmeigpfmeomaa.rowPre k i A).length:=by rw [rowPre_length];exact hi
 have hk':k<(Go.Proofs.Ytfnmeigpfmeomaa.rowPre k i A).length:=by rw [rowPre_length];exact hw.kn
 refine KV.row (b:=((ge (Go.Proofs.Ytfnmeigpfmeomaa.rowPre k i A) i k/ge (Go.Proofs.Ytfnmeigpfmeomaa.rowPre k i A) k k:Nat):Int)) ⟨xx,hh⟩ (by rw [rowStep_length,rowPre_length]) hi' hki (fun r l hr hne=>?_) (fun l hl'=>?_) (fun l hlk hl'=>?_)
 · unfold ge;rw [gr_rowStep hi,if_neg hne]
 · rw [hge l hl']
   by_cases q:k<=l
   · rw [if_pos q,<- Int.natCast_mul]
     exact mod_sub_dvd m _ _ hw.m0
   · rw [if_neg q,hh.blk i l hi' hl' (by omega) (by omega),hh.blk k l hk' hl' (by omega) (by omega)]
     simp
 · rw [hge l hl',if_neg (by omega)]
   exact hh.blk i l hi' hl' (by omega) (by omega)
theorem KV.colPre (h:KV m C k x0 A) (hw:Wk m k C A) {j:Nat} (hj:j<C) (hkj:k<j):KV m C k x0 (colPre k j A):=by
 unfold Go.Proofs.Ytfnmeigpfmeomaa.colPre
 split
 · obtain ⟨xx,hh⟩:=h
   refine KV.swap (a:=k) (b:=j) ⟨xx,hh⟩ (updR_length _ _ _ _) hw.kC hj (Nat.le_refl k) (by omega) (by omega) (fun i l hi hl'=>?_)
   have hl:=hw.cl i hi
   show gn (gr _ i) l=_
   rw [gr_updR hi]
   by_cases q:k<=i
   · rw [if_pos ⟨q,hi⟩,gn_swp (by rw [hl];exact hw.kC) (by rw [hl];exact hj)]
     split
     · rfl
     · split <;> rfl
   · rw [if_neg (fun z=>q z.1)]
     have z1:=hh.blk i k hi hw.kC (by omega) (by omega)
     have z2:=hh.blk i j hi hj (by omega) (by omega)
     split
     · next e=>rw [e];exact z2.trans z1.symm
     · split
       · next e=>rw [e];exact z1.trans z2.symm
       · rfl
 · exact h
theorem KV.colStep (h:KV m C k x0 A) (hw:Wk m k C A) {j:Nat} (hj:j<C) (hkj:k<j):KV m C k x0 (colStep m k j A):=by
 have h1:=h.colPre hw hj hkj
 have hp:=hw.colPre hj
 obtain ⟨xx,hh⟩:=h1
 have hlen:∀ i,i<A.length->(gr (Go.Proofs.Ytfnmeigpfmeomaa.colPre k j A) i).length=C:=fun i hi=>hp.cl i (by rw [colPre_length];exact hi)
 refine KV.col (b:=((ge (Go.Proofs.Ytfnmeigpfmeomaa.colPre k j A) k j/ge (Go.Proofs.Ytfnmeigpfmeomaa.colPre k j A) k k:Nat):Int)) ⟨xx,hh⟩ (by rw [colStep_length,colPre_length]) hj hw.kC hkj (fun i l hi hl' hne=>?_) (fun i hi=>?_) (fun i hik hi=>?_)
 · rw [colPre_length] at hi
   unfold ge
   rw [gr_colStep hi]
   split
   · rw [gn_colF (by rw [hlen i hi];exact hj),if_neg hne]
   · rfl
 · have hi':=hi
   rw [colPre_length] at hi
   by_cases q:k<=i
   · have e:ge (Go.Proofs.Ytfnmeigpfmeomaa.colStep m k j A) i j=(ge (Go.Proofs.Ytfnmeigpfmeomaa.colPre k j A) i j+(m-ge (Go.Proofs.Ytfnmeigpfmeomaa.colPre k j A) k j/ge (Go.Proofs.Ytfnmeigpfmeomaa.colPre k j A) k k*ge (Go.Proofs.Ytfnmeigpfmeomaa.colPre k j A) i k%m))%m:=by
      show gn (gr _ i) j=_
      rw [gr_colStep hi,if_pos q,gn_colF (by rw [hlen i hi];exact hj),if_pos rfl];rfl
     rw [e,<- Int.natCast_mul]
     exact mod_sub_dvd m _ _ hw.m0
   · have e:ge (Go.Proofs.Ytfnmeigpfmeomaa.colStep m k j A) i j=ge (Go.Proofs.Ytfnmeigpfmeomaa.colPre k j A) i j:=by
      show gn (gr _ i) j=_
      rw [gr_colStep hi,if_neg q];rfl
     rw [e,hh.blk i j hi' hj (by omega) (by omega),hh.blk i k hi' hw.kC (by omega) (by omega)]
     simp
 · have hi':=hi
   rw [colPre_length] at hi
   show gn (gr _ i) j=0
   rw [gr_colStep hi,if_neg (by omega)]
   exact hh.blk i j hi' hj (by omega) (by omega)
end
theorem KV.rowWhile {m C k i:Nat} {x0:Nat->Int} (hki:k<i):∀ (f:Nat) (A:List (List Nat)),KV m C k x0 A->Wk m k C A->i<A.length->KV m C k x0 (rowWhile m k i f A)
 | 0,A,h,_,_=>h
 | f+1,A,h,hw,hi=>by
  rw [Go.Proofs.Ytfnmeigpfmeomaa.rowWhile];split
  · exact h
  · exact KV.rowWhile hki f _ (h.rowStep hw hi hki) (hw.rowStep hi (by omega)) (by rw [rowStep_length];exact hi)
theorem KV.rowsU {m C k:Nat} {x0:Nat->Int} {A:List (List Nat)} (h:KV m C k x0 A) (hw:Wk m k C A):∀ x,k+1+x<=A.length->KV m C k x0 (rowsU m k A x)
 | 0,_=>h
 | x+1,hx=>by
  rw [Go.Proofs.Ytfnmeigpfmeomaa.rowsU]
  exact KV.rowWhile (by omega) _ _ (KV.rowsU h hw x (by omega)) (rowsU_all hw x (by omega)).1 (by rw [rowsU_length];omega)
theorem KV.colWhile {m C k j:Nat} {x0:Nat->Int} (hj:j<C) (hkj:k<j):∀ (f:Nat) (A:List (List Nat)),KV m C k x0 A->Wk m k C A->KV m C k x0 (colWhile m k j f A)
 | 0,A,h,_=>h
 | f+1,A,h,hw=>by
  rw [Go.Proofs.Ytfnmeigpfmeomaa.colWhile];split
  · exact h
  · exact KV.colWhile hj hkj f _ (h.colStep hw hj hkj) (hw.colStep hj (by omega))
theorem KV.colsU {m C k:Nat} {x0:Nat->Int} {A:List (List Nat)} (h:KV m C k x0 A) (hw:Wk m k C A):∀ y,k+1+y<=C->KV m C k x0 (colsU m k A y)
 | 0,_=>h
 | y+1,hy=>by
  rw [Go.Proofs.Ytfnmeigpfmeomaa.colsU]
  exact KV.colWhile (by omega) (by omega) _ _ (KV.colsU h hw y (by omega)) (colsU_all hw y (by omega)).1
theorem KV.rowsAll {m C k:Nat} {x0:Nat->Int} {A:List (List Nat)} (h:KV m C k x0 A) (hw:Wk m k C A):KV m C k x0 (rowsAll m k A):=h.rowsU hw _ (by have:=hw.kn;omega)
theorem KV.colsAll {m C k:Nat} {x0:Nat->Int} {A:List (List Nat)} (h:KV m C k x0 A) (hw:Wk m k C A):KV m C k x0 (colsAll m k C A):=h.colsU hw _ (by have:=hw.kC;omega)
theorem KV.isoF {m C k:Nat} {x0:Nat->Int}:∀ (f:Nat) (A:List (List Nat)),KV m C k x0 A->Wk m k C A->KV m C k x0 (isoF m k C f A)
 | 0,A,h,_=>h
 | f+1,A,h,hw=>by
  rw [Go.Proofs.Ytfnmeigpfmeomaa.isoF];split
  · exact KV.isoF f _ ((h.rowsAll hw).colsAll hw.rowsAll) hw.rowsAll.colsAll
  · exact (h.rowsAll hw).colsAll hw.rowsAll
theorem rowStep_other {m k i r:Nat} {A:List (List Nat)} (hi:i<A.length) (hk:k<A.length) (h1:r≠i) (h2:r≠k):gr (rowStep m k i A) r=gr A r:=by
 rw [gr_rowStep hi,if_neg h1]
 unfold rowPre
 split
 · rw [gr_swR hk hi,if_neg h1,if_neg h2]
 · rfl
theorem rowWhile_other {m k i r:Nat} (h1:r≠i) (h2:r≠k):∀ (f:Nat) (A:List (List Nat)),i<A.length->k<A.length->gr (rowWhile m k i f A) r=gr A r
 | 0,A,_,_=>rfl
 | f+1,A,hi,hk=>by
  rw [rowWhile];split
  · rfl
  · rw [rowWhile_other h1 h2 f _ (by rw [rowStep_length];exact hi) (by rw [rowStep_length];exact hk),rowStep_other hi hk h1 h2]
theorem rowsU_zero {m k C:Nat} {A:List (List Nat)} (h:Wk m k C A):∀ x,k+1+x<=A.length->∀ i,k<i->i<k+1+x->ge (rowsU m k A x) i k=0
 | 0,_,i,h1,h2=>by omega
 | x+1,hx,i,h1,h2=>by
  rw [rowsU]
  have hw:=(rowsU_all h x (by omega)).1
  have hl:=rowsU_length m k A x
  by_cases e:i=k+1+x
  · subst e
    exact (rowWhile_all (i:=k+1+x) (by omega) _ _ hw (by rw [hl];omega) (Nat.le_refl _)).2.1
  · unfold ge
    rw [rowWhile_other e (by omega) _ _ (by rw [hl];omega) (by rw [hl];omega)]
    exact rowsU_zero h x (by omega) i h1 (by omega)
theorem colsU_same {m k:Nat} {A:List (List Nat)}:∀ y,(∀ j,k<j->j<k+1+y->ge A k j=0)->colsU m k A y=A
 | 0,_=>rfl
 | y+1,h=>by
  have e:=colsU_same (m:=m) y (fun j h1 h2=>h j h1 (by omega))
  rw [colsU,e,colWhile_done (h _ (by omega) (by omega))]
theorem isoF_zero {m k C:Nat}:∀ (f:Nat) (A:List (List Nat)),Wk m k C A->isoM k C A<f->(∀ i,k<i->i<A.length->ge (isoF m k C f A) i k=0)/\(∀ j,k<j->j<C->ge (isoF m k C f A) k j=0)
 | 0,A,_,h=>by omega
 | f+1,A,hw,h=>by
  rw [isoF]
  split
  · next hc =>
    obtain ⟨a,b⟩:=isoF_zero f _ hw.rowsAll.colsAll (by have:=isoM_less hw hc;omega)
    exact ⟨fun i h1 h2=>a i h1 (by rw [colsAll_length,rowsAll_length];exact h2),b⟩
  · next hc =>
    have hz:∀ j,k<j->j<C->ge (rowsAll m k A) k j=0:=by
     intro j h1 h2
     by_cases e:ge (rowsAll m k A) k j=0
     · exact e
     · exact absurd (chg_true.2 ⟨j,h1,h2,e⟩) hc
    have hkC:=hw.kC
    have hkn:=hw.kn
    have e:colsAll m k C (rowsAll m k A)=rowsAll m k A:=colsU_same _ (fun j h1 h2=>hz j h1 (by omega))
    rw [e]
    exact ⟨fun i h1 h2=>rowsU_zero hw _ (by omega) i h1 (by omega),hz⟩
theorem Kv.succ {m C k:Nat} {x0:Nat->Int} {A:List (List Nat)} {x:Nat->Int} (h:Kv m C k x0 A x) (hk:k<A.length) (hkC:k<C) (hc:∀ i,k<i->i<A.length->ge A i k=0) (hr:∀ j,k<j->j<C->ge A k j=0) :
 Kv m C (k+1) x A x/\(m:Int) ∣ (ge A k k:Int)*x k:=by
 refine ⟨⟨fun i j hi hj hor hne=>?_,h.ker,h.uni,fun _ _=>rfl⟩,?_⟩
 · by_cases q:i<k\/j<k
   · exact h.blk i j hi hj q hne
   · by_cases e:i=k
     · subst e;exact hr j (by omega) hj
     · have e2:j=k:=by omega
       subst e2;exact hc i (by omega) hi
 · have:=h.ker k hk
   rwa [sumI_single (f:=fun j=>(ge A k j:Int)*x j) hkC (fun l hl hne=>by
    show (ge A k l:Int)*x l=0
    have:ge A k l=0:=by
     rcases Nat.lt_or_ge l k with q|q
     · exact h.blk k l hk hl (Or.inr q) (fun e=>hne e.symm)
     · exact hr l (by omega) hl
    rw [this];simp)] at this
def Chn (d i:Nat) (D:List Nat):Prop:=∀ a b,a<i->a<b->b<d->gn D a ∣ gn D b
theorem chU_chn {d i:Nat} {E:List Nat} (hE:E.length=d) (hi:i<d) (h:Chn d i E):∀ x,i+1+x<=d->Chn d i (chU i E x)/\∀ k,i<k->k<i+1+x->gn (chU i E x) i ∣ gn (chU i E x) k
 | 0,_=>⟨h,fun k h1 h2=>by omega⟩
 | x+1,hx=>by
  obtain ⟨h1,h2⟩:=chU_chn hE hi h x (by omega)
  have hl:(chU i E x).length=d:=by rw [chU_length];exact hE
  have hg:=gn_chS (i:=i) (k:=i+1+x) (D:=chU i E x) (by omega) (by omega)
  rw [chU]
  generalize chU i E x=F at *
  refine ⟨fun a b ha hab hb=>?_,fun k hk1 hk2=>?_⟩
  · rw [hg,hg,if_neg (by omega),if_neg (by omega)]
    split
    · exact Nat.dvd_trans (h1 a i ha (by omega) hi) (Nat.dvd_lcm_left _ _)
    · split
      · exact Nat.dvd_gcd (h1 a i ha (by omega) hi) (h1 a (i+1+x) ha (by omega) (by omega))
      · exact h1 a b ha hab hb
  · rw [hg,hg,if_neg (by omega),if_pos rfl]
    split
    · exact Nat.dvd_trans (Nat.gcd_dvd_left _ _) (Nat.dvd_lcm_left _ _)
    · rw [if_neg (by omega)]
      exact Nat.dvd_trans (Nat.gcd_dvd_left _ _) (h2 k hk1 (by omega))
theorem chI_chn {d:Nat} {D:List Nat} (hD:D.length=d):∀ i,i<=d->Chn d i (chI d D i)
 | 0,_=>fun a b ha=>by omega
 | i+1,hi=>by
  obtain ⟨h1,h2⟩:=chU_chn (d:=d) (i:=i) (E:=chI d D i) (by rw [chI_length];exact hD) (by omega) (chI_chn hD i (by omega)) (d-(i+1)) (by omega)
  rw [chI]
  intro a b ha hab hb
  by_cases e:a=i
  · subst e;exact h2 b hab (by omega)
  · exact h1 a b (by omega) hab hb
theorem facD_chn (m C:Nat) (rows:List (List Int)) (d:Nat):Chn d d (facD m C rows d):=chI_chn (dgP_length _ _ _ _ _) d (Nat.le_refl _)
end Go.Proofs.Ytfnmeigpfmeomaa
