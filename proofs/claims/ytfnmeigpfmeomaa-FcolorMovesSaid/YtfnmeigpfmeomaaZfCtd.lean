/- intmatrix.factors: the walk. -/
import Derived.Test.YtfnmeigpfmeomaaZfGcq
import Derived.BigRegion
import Derived.Test.YtfnmeigpfmeomaaZfTab
import Derived.Test.YtfnmeigpfmeomaaZfIsp
namespace Go.Proofs.Ytfnmeigpfmeomaa
open Go.RowKit
set_option linter.unusedVariables false
theorem intInfo:(Try.prog.info? 3).map (fun i=>(i.zero,i.size,i.bytes))=some (some (.int .i64 0),1,8):=by kernel_rfl
theorem Mat.rowlen {w:World} {v:Value} {rows:List (List Int)} (h:Mat w v rows):∃ A0 c0,v=.slice A0 rows.length c0:=by obtain ⟨A0,c0,e,_⟩:=h;exact ⟨_,_,e⟩
structure Fc (R:Nat) (bs:List Nat) (C n db m:Nat) (w0:World) (cur:List (List Nat)) (D:List Nat) (bs':List Nat) (w:World):Prop where
 mu:MU w R bs' C cur
 sub:∀ b∈bs',b∈bs
 bel:Below R w0 w
 dia:Arr w db 88 (uc D)
 len:cur.length=n
 lt:Ltm m cur
 cl:Cl C cur
theorem Fc.drewN {R:Nat} {bs:List Nat} {C n db m:Nat} {w0:World} {cur:List (List Nat)} {D bs':List Nat} {w:World} (h:Fc R bs C n db m w0 cur D bs' w) (q:Nat):Fc R bs C n db m w0 cur D bs' (w.drewN q) :=
 ⟨h.mu.drewN q,h.sub,bdrewN h.bel q,h.dia,h.len,h.lt,h.cl⟩
theorem Fc.next {R:Nat} {bs:List Nat} {C n db m:Nat} {w0:World} {cur cur':List (List Nat)} {D bs' bs'':List Nat} {w w':World} (h:Fc R bs C n db m w0 cur D bs' w) (hb:R<=w.heap.size) (hL:∀ b∈R :: bs,R<=b) (nk:db ∉ R :: bs)
 (h1:MU w' R bs'' C cur') (h2:∀ b∈bs'',b∈bs') (h3:Wr (R :: bs') w w') (hl:cur'.length=n) (hlt:Ltm m cur') (hcl:Cl C cur'):Fc R bs C n db m w0 cur' D bs'' w' :=
 have hs:∀ x∈R :: bs',x∈R :: bs:=fun x hx=>by
  rcases List.mem_cons.1 hx with e|e
  · rw [e];simp
  · exact List.mem_cons_of_mem _ (h.sub x e)
 ⟨h1,fun b hb=>h.sub b (h2 b hb),h.bel.trans (h3.below hb (fun x hx=>hL x (hs x hx))),h.dia.wr h3 (fun q=>nk (hs _ q)),hl,hlt,hcl⟩
theorem Fc.put {R:Nat} {bs:List Nat} {C n db m:Nat} {w0:World} {cur:List (List Nat)} {D bs':List Nat} {w:World} (h:Fc R bs C n db m w0 cur D bs' w) (hb:R<=db) (nk:db ∉ R :: bs) (i x:Nat):Fc R bs C n db m w0 cur (D.set i x) bs' (w.setCell ⟨db,i,none⟩ (.int .u64 (x:Int))):=by
 have o:=(Onl.refl db w).setCell i (.int .u64 (x:Int))
 refine ⟨h.mu.keep (o.block R (fun e=>nk (by rw [<- e];simp))) (fun b hb=>o.block b (fun e=>nk (by rw [<- e];exact List.mem_cons_of_mem _ (h.sub b hb)))),h.sub,h.bel.setCell (p:=⟨db,i,none⟩) hb _,?_,h.len,h.lt,h.cl⟩
 rw [<- uc_set];exact h.dia.set i _
set_option maxHeartbeats 4000000 in
set_option maxRecDepth 100000 in
theorem factors_any (v:Value) (rows:List (List Int)) (C m:Nat) (w:World) (h:Mat w v rows) (hn:rows.length<=1000) (hC:C<=1000) (hCc:C=cols rows) (hc:∀ r∈rows,r.length=C) (hb:∀ r∈rows,∀ x∈r,-9223372036854775807<=x/\x<=9223372036854775807) (hm:0<m) (hm2:m<=4611686018427387904) :
 Calls Try.prog 49 #[v,.int .u64 (m:Nat)] w fun e w'=>∃ g,e=.returned (.slice (some ⟨g,0,none⟩) (min rows.length C) (min rows.length C))/\w.heap.size<=g/\Arr w' g 3 (nc (facO m C rows (min rows.length C)))/\Below w.heap.size w w':=by
 obtain ⟨i1,hi1,hy0,hy1,hy2⟩:=info_parts numInfo
 obtain ⟨i2,hi2,hx0,hx1,hx2⟩:=info_parts intInfo
 have HRS:=Lib.hid (residues_any v rows C m w h hn hC hc hb hm hm2)
 have HCO:=Lib.hid (fun w' (hb:Below w.heap.size w w')=>columns_any v rows w' (h.below hb) hn (fun r hr=>by rw [hc r hr];exact hC))
 rw [<- hCc] at HCO
 have hA0:Ltm m (resF m rows):=by
  intro i j
  unfold ge gr resF
  rw [List.getElem?_map]
  cases hr:rows[i]? with
  | none=>simpa [gn] using hm
  | some r =>
   simp only [Option.map_some,Option.getD_some]
   unfold gn resR
   rw [List.getElem?_map]
   cases hx:r[j]? with
   | none=>simpa using hm
   | some x=>simp only [Option.map_some,Option.getD_some];exact rs_lt hm x
 obtain ⟨d,hd⟩:∃ d,d=min rows.length C:=⟨_,rfl⟩
 obtain ⟨O,hO⟩:∃ O,O=facO m C rows d:=⟨_,rfl⟩
 rw [<- hd,<- hO]
 have hAl:=resF_length m rows
 have HO:=Lib.hid (show O=outP m (chI d (dgP m C (resF m rows) d d) d) d from hO)
 obtain ⟨A,hA⟩:∃ A,A=resF m rows:=⟨_,rfl⟩
 rw [<- hA] at HRS HO hA0 hAl
 obtain ⟨A0,c0,rfl⟩:=h.rowlen
 obtain ⟨n,hnn⟩:∃ n,n=rows.length:=⟨_,rfl⟩
 rw [<- hnn] at HRS HCO hn hd hAl ⊢
 have hdn:d<=n:=by omega
 have hdC:d<=C:=by omega
 have HD:=Lib.hid hd
 have HMK:=Lib.hid (run_make_one (P:=Try.prog) 103 88 i1 (.int .u64 0) Try.underlying103 hi1 hy0 hy1 rfl (by omega) d (by omega))
 have HMI:=Lib.hid (run_make_one (P:=Try.prog) 22 3 i2 (.int .i64 0) Try.underlying22 hi2 hx0 hx1 rfl (by omega) d (by omega))
 clear h hc hb hA hnn hO hCc hd
 go_enter Try.func49,Try.ntmps49
 go_upto_region 2 with (go_at_call 67;refine HRS.out.mono ?_;rintro e w1 ⟨rfl,bs,hmu,hbs,hbel⟩)
 have HC1:=Lib.hid (HCO.out w1 hbel)
 have hEl:Fc w.heap.size bs C n w1.heap.size m w A (List.replicate d 0) bs (w1.alloc (.cells (rowOf (List.replicate d (Value.int .u64 0))) 88)) :=
  ⟨hmu.alloc _,fun _ q=>q,hbel.alloc hbel.size _,by have:=Arr.new w1 88 (List.replicate d (Value.int .u64 0));rw [show uc (List.replicate d 0)=List.replicate d (Value.int .u64 0) by simp [uc]];exact this,hAl,hA0,hmu.cols⟩
 have nk:w1.heap.size ∉ w.heap.size :: bs:=fun q=>by
  rcases List.mem_cons.1 q with e|e
  · have:=hmu.outer.lt;omega
  · have:=hmu.lt _ e;omega
 have HNK:=Lib.hid nk
 have HRK:=Lib.hid hbel.size
 have HL:=Lib.hid (show ∀ b∈w.heap.size :: bs,w.heap.size<=b from fun b q=>by
  rcases List.mem_cons.1 q with e|e
  · omega
  · have:=hbs b e;omega)
 have HEL:=Lib.hid hEl
 clear nk hbs hbel hmu hA0 hAl hEl HRS HCO
 go_cut [6] (fun s6 wx=>s6=.slice (some ⟨w1.heap.size,0,none⟩) d d/\wx=w1.alloc (.cells (rowOf (List.replicate d (Value.int .u64 0))) 88))
 case first =>
  have e1:min (n:Int) (C:Int)=(d:Int):=by have:=HD.out;omega
  have hmk:=HMK.out
  go_upto_region 3 with (go_at_call 66;refine HC1.out.mono ?_;rintro e w' ⟨rfl,rfl⟩)
  go_meet
  exact ⟨rfl,rfl⟩
 case rest =>
  obtain ⟨rfl,hwc⟩:=hcut
  have hF:=HEL.out
  rw [<- hwc] at hF
  clear hwc HEL HC1 HMK
  generalize w1.heap.size=db at *
  obtain ⟨R,hRR⟩:∃ R,R=w.heap.size:=⟨_,rfl⟩
  rw [<- hRR] at hF HNK HL HRK ⊢
  have HR:=Lib.hid hRR
  clear hRR
  have HAA:=Lib.hid (fun k=>facA_all hF.lt hF.cl hm k)
  have HAL:=Lib.hid hF.len
  go_wp2_with fail
  go_loopg [7,8,9,27] d (fun gk s7 s8 s9 s27 wr=>∃ (k:Nat) (bs':List Nat),k<=d/\gk=d-k/\s27=.int .i64 (k:Int)/\Fc R bs C n db m w (facA m C A k) (dgP m C A d k) bs' wr)
  case atStart=>exact ⟨0,bs,Nat.zero_le _,rfl,rfl,by rw [dgP_zero];exact hF⟩
  case round =>
   clear hF
   obtain ⟨k,bs',hk,rfl,rfl,hE⟩:=hrel
   obtain ⟨wo,rfl⟩:∃ wo:World,wo=wr:=⟨_,rfl⟩
   by_cases hkt:k<d
   · have z1:(k:Int)<(d:Int):=by omega
     have z2:(k:Int)<(n:Int):=by omega
     have z3:(k:Int)<(C:Int):=by omega
     have hkC:k<C:=by omega
     have HEND:=Lib.hid (fun (bs2:List Nat) (wx:World) (hx:Fc R bs C n db m w (facA m C A (k+1)) (dgP m C A d k) bs2 wx)=>(show ∃ bk,wx.cell? ⟨R,k,none⟩=some (.slice (some ⟨bk,0,none⟩) C C)/\wx.cell? ⟨bk,k,none⟩=some (.int .u64 (ge (facA m C A (k+1)) k k:Nat))/\ge (facA m C A (k+1)) k k<m/\wx.cell? ⟨db,k,none⟩=some (.int .u64 ((0:Nat):Int))/\wx.frozen? ⟨db,k,none⟩=false from by
      obtain ⟨bk,hbk,_⟩:=hx.mu.bl (i:=k) (by rw [hx.len];omega)
      refine ⟨bk,hx.mu.cellR hbk,hx.mu.cell hbk hkC,hx.lt k k,?_,hx.dia.frozen k⟩
      rw [hx.dia.cell,uc_get (by rw [dgP_length];exact hkt),gn_dgP hkt,if_neg (by omega)]))
     have HPUT:=Lib.hid (fun (bs2:List Nat) (wx:World) (hx:Fc R bs C n db m w (facA m C A (k+1)) (dgP m C A d k) bs2 wx)=>(show Fc R bs C n db m w (facA m C A (k+1)) (dgP m C A d (k+1)) bs2 (wx.setCell ⟨db,k,none⟩ (.int .u64 ((Nat.gcd (ge (facA m C A (k+1)) k k) m:Nat):Int))) from by
      rw [<- dgP_step hkt]
      exact hx.put HRK.out HNK.out k _))
     have HGC:=Lib.hid (fun W (hlt:ge (facA m C A (k+1)) k k<m)=>gcdU_any (ge (facA m C A (k+1)) k k) m W (by omega) (by omega))
     cases hFF:findF (facA m C A k) k C with
     | none =>
      have HFD:=Lib.hid (find_none R bs' C (facA m C A k) k wo hE.mu (by rw [hE.len];exact hn) hC (by omega) hFF)
      rw [hE.len] at HFD
      have hE2:Fc R bs C n db m w (facA m C A (k+1)) (dgP m C A d k) bs' wo:=by rw [show facA m C A (k+1)=facA m C A k from facS_none hFF];exact hE
      obtain ⟨bk,c1,c2,hlt,c3,c4⟩:=HEND.out bs' wo hE2
      have HE2:=Lib.hid hE2
      generalize Nat.gcd (ge (facA m C A (k+1)) k k) m=gv at *
      generalize ge (facA m C A (k+1)) k k=vk at *
      clear hE hE2 hFF HEND
      go_wp2_with (first|(go_at_call 68;refine HFD.out.mono ?_;rintro e w' ⟨rfl,rfl⟩)|(go_at_call 74;(with_reducible refine (HGC.out _ hlt).mono ?_);rintro e w' ⟨q,rfl,rfl⟩))
      go_roundg (d-(k+1))
      case measure=>omega
      case rel=>exact ⟨k+1,bs',by omega,rfl,by go_num,HPUT.out _ _ (HE2.out.drewN _)⟩
     | some xy =>
      obtain ⟨x,y⟩:=xy
      have HFD:=Lib.hid (find_some R bs' C (facA m C A k) k x y wo hE.mu (by rw [hE.len];exact hn) hC (by omega) hFF)
      rw [hE.len] at HFD
      have hwk:=wk_of_find hFF hE.lt hE.cl hm
      have HW:=Lib.hid hwk
      have HSL:=Lib.hid (show (elS (facA m C A k) k x y).length=n by rw [elS_length];exact hE.len)
      have HS1:=Lib.hid (show facA m C A (k+1)=isoF m k C (isoM k C (elS (facA m C A k) k x y)+1) (elS (facA m C A k) k x y) from facS_some hFF)
      have HFO:=Lib.hid (fun w' (q:Found R bs' C (facA m C A k) k x y wo w')=>(show ∃ bs2,Fc R bs C n db m w (elS (facA m C A k) k x y) (dgP m C A d k) bs2 w' from by
       obtain ⟨bs2,h1,h2,h3⟩:=q
       exact ⟨bs2,hE.next (by rw [HR.out];exact (by have:=hE.bel.size;have:=HR.out;have:=hE.mu.outer.lt;omega)) HL.out HNK.out h1 h2 h3 HSL.out HW.out.lt HW.out.cl⟩))
      clear hE hFF hwk
      go_upto_region 8 with (go_at_call 68;refine HFD.out.mono ?_;rintro e w' ⟨rfl,hfo⟩)
      obtain ⟨bs2,hE2⟩:=HFO.out _ hfo
      have HIS:=Lib.hid (isolate_any R bs2 C (elS (facA m C A k) k x y) k m w' hE2.mu (by rw [HSL.out];exact hn) hC HW.out hm2)
      rw [HSL.out,<- HS1.out] at HIS
      have HNX:=Lib.hid (fun w'' bs3 (h1:MU w'' R bs3 C (facA m C A (k+1))) (h2:∀ b∈bs3,b∈bs2) (h3:Wr (R :: bs2) w' w'')=>hE2.next (by have:=hE2.mu.outer.lt;omega) HL.out HNK.out h1 h2 h3 ((HAA.out (k+1)).2.2.trans HAL.out) (HAA.out (k+1)).1 (HAA.out (k+1)).2.1)
      clear hE2 hfo HFO HFD
      go_upto_region 9 with (go_at_call 73;refine HIS.out.mono ?_;rintro e w'' ⟨rfl,bs3,h1,h2,h3⟩)
      have hE3:=HNX.out _ _ h1 h2 h3
      obtain ⟨bk,c1,c2,hlt,c3,c4⟩:=HEND.out bs3 w'' hE3
      have HE3:=Lib.hid hE3
      generalize Nat.gcd (ge (facA m C A (k+1)) k k) m=gv at *
      generalize ge (facA m C A (k+1)) k k=vk at *
      clear h1 h2 h3 hE3 HNX HIS HEND
      go_wp2_with (go_at_call 74;(with_reducible refine (HGC.out _ hlt).mono ?_);rintro e w' ⟨q,rfl,rfl⟩)
      go_roundg (d-(k+1))
      case measure=>omega
      case rel=>exact ⟨k+1,bs3,by omega,rfl,by go_num,HPUT.out _ _ (HE3.out.drewN _)⟩
   · have z1:¬ ((k:Int)<(d:Int)):=by omega
     have hkn:k=d:=by omega
     have hDD:=hE.dia
     rw [hkn] at hDD
     have hBB:=hE.bel
     have HDV:=Lib.hid (dgP_dvs m C A d)
     obtain ⟨D,hD⟩:∃ D,D=dgP m C A d d:=⟨_,rfl⟩
     have HDL:=Lib.hid (show D.length=d by rw [hD];exact dgP_length _ _ _ _ _)
     rw [<- hD] at hDD HDV HO
     clear hkn hE hD HAA HAL
     have HD0:=Lib.hid hDD
     have HB0:=Lib.hid hBB
     clear hDD hBB
     go_wp2_with fail
     go_loopg [10,11,12,56] d (fun gk s10 s11 s12 s56 wr=>∃ i:Nat,i<=d/\gk=d-i/\s56=.int .i64 (i:Int)/\Arr wr db 88 (uc (chI d D i))/\Below R w wr)
     case atStart=>exact ⟨0,Nat.zero_le _,rfl,rfl,HD0.out,HB0.out⟩
     case round =>
      clear HD0 HB0
      obtain ⟨i,hi,rfl,rfl,hD,hB⟩:=hrel
      obtain ⟨wo,rfl⟩:∃ wo:World,wo=wr:=⟨_,rfl⟩
      by_cases hit:i<d
      · have z1:(i:Int)<(d:Int):=by omega
        have HDI:=Lib.hid (show Dvs m (chI d D i)/\(chI d D i).length=d from ⟨HDV.out.chI HDL.out i hi,by rw [chI_length];exact HDL.out⟩)
        have HCI:=Lib.hid (show chI d D (i+1)=chU i (chI d D i) (d-(i+1)) from rfl)
        obtain ⟨E,hE⟩:∃ E,E=chI d D i:=⟨_,rfl⟩
        rw [<- hE] at hD HDI HCI
        have HDX:=Lib.hid hD
        have HBX:=Lib.hid hB
        clear hE hD hB
        go_wp2_with fail
        go_loopg [11,12] (d-(i+1)) (fun gk s11 s12 wr=>∃ k:Nat,i+1<=k/\k<=d/\gk=d-k/\s11=.int .i64 (k:Int)/\Arr wr db 88 (uc (chU i E (k-(i+1))))/\Below R w wr)
        case atStart=>exact ⟨i+1,Nat.le_refl _,by omega,rfl,by go_num,by rw [Nat.sub_self];exact HDX.out,HBX.out⟩
        case round =>
         clear HDX HBX
         obtain ⟨k,hik,hkd,rfl,rfl,hD,hB⟩:=hrel
         obtain ⟨wp,rfl⟩:∃ wp:World,wp=wr:=⟨_,rfl⟩
         by_cases hkt:k<d
         · have z2:(k:Int)<(d:Int):=by omega
           have hdv:Dvs m (chU i E (k-(i+1))):=HDI.out.1.chU (by rw [HDI.out.2];exact hit) _ (by rw [HDI.out.2];omega)
           have hl:(chU i E (k-(i+1))).length=d:=by rw [chU_length];exact HDI.out.2
           have HNX:=Lib.hid (chU_next (i:=i) (k:=k) E hik)
           obtain ⟨F,hF⟩:∃ F,F=chU i E (k-(i+1)):=⟨_,rfl⟩
           rw [<- hF] at hD hdv hl HNX
           clear hF
           have c1:=(hD.cell i).trans (uc_get (by omega))
           have c2:=(hD.cell k).trans (uc_get (by omega))
           have f1:=hD.frozen i
           have f2:=hD.frozen k
           have d1:=hdv i (by omega)
           have d2:=hdv k (by omega)
           have p1:0<gn F i:=Nat.pos_of_dvd_of_pos d1 hm
           have p2:0<gn F k:=Nat.pos_of_dvd_of_pos d2 hm
           have l1:gn F i<=m:=Nat.le_of_dvd hm d1
           have l2:gn F k<=m:=Nat.le_of_dvd hm d2
           have HGC:=Lib.hid (fun q=>gcdU_any (gn F i) (gn F k) (wp.drewN q) (by omega) (by omega))
           have hg0:0<Nat.gcd (gn F i) (gn F k):=Nat.gcd_pos_of_pos_left _ p1
           have hlc:gn F i/Nat.gcd (gn F i) (gn F k)*gn F k<=m:=by rw [div_gcd_mul];exact Nat.le_of_dvd hm (Nat.lcm_dvd d1 d2)
           have hql:gn F i/Nat.gcd (gn F i) (gn F k)<=m:=Nat.le_trans (Nat.div_le_self _ _) l1
           have HWR:=Lib.hid (fun (W:World) (ha:Arr W db 88 (uc F)) (hb:Below R w W)=>(show Arr ((W.setCell ⟨db,i,none⟩ (.int .u64 ((Nat.gcd (gn F i) (gn F k):Nat):Int))).setCell ⟨db,k,none⟩ (.int .u64 ((gn F i/Nat.gcd (gn F i) (gn F k)*gn F k:Nat):Int))) db 88 (uc (chU i E (k+1-(i+1))))/\Below R w ((W.setCell ⟨db,i,none⟩ (.int .u64 ((Nat.gcd (gn F i) (gn F k):Nat):Int))).setCell ⟨db,k,none⟩ (.int .u64 ((gn F i/Nat.gcd (gn F i) (gn F k)*gn F k:Nat):Int))) from by
            rw [HNX.out]
            have:=(ha.set i (.int .u64 ((Nat.gcd (gn F i) (gn F k):Nat):Int))).set k (.int .u64 ((gn F i/Nat.gcd (gn F i) (gn F k)*gn F k:Nat):Int))
            rw [uc_set,uc_set] at this
            exact ⟨this,(hb.setCell (p:=⟨db,i,none⟩) HRK.out _).setCell (p:=⟨db,k,none⟩) HRK.out _⟩))
           have e1:=quo_nat (gn F i) (Nat.gcd (gn F i) (gn F k))
           obtain ⟨P,hP⟩:∃ P,P=gn F i/Nat.gcd (gn F i) (gn F k)*gn F k:=⟨_,rfl⟩
           have e2:((gn F i/Nat.gcd (gn F i) (gn F k):Nat):Int)*((gn F k:Nat):Int)=(P:Int):=by rw [hP];rfl
           rw [<- hP] at HWR hlc
           clear hP
           generalize gn F i/Nat.gcd (gn F i) (gn F k)=qq at *
           generalize Nat.gcd (gn F i) (gn F k)=gg at *
           generalize gn F i=v1 at *
           generalize gn F k=v2 at *
           have HDX:=Lib.hid hD
           have HBX:=Lib.hid hB
           have z3:((gg:Int)==0)=false:=by simp;omega
           have z4:(gg:Int)≠0:=by omega
           have z5:¬ (i=k):=by omega
           clear hD hB hdv hl d1 d2
           go_upto_region 17 with fail
           go_quiet ((go_at_call 74;refine (HGC.out _).mono ?_;rintro e w' ⟨q,rfl,rfl⟩;exact ⟨rfl,_,drewN_add _ _ _⟩))
           have hD2:Arr (wp.drewN nq) db 88 (uc F):=HDX.out
           have hB2:Below R w (wp.drewN nq):=bdrewN HBX.out _
           have c1':(wp.drewN nq).cell? ⟨db,i,none⟩=some (.int .u64 (v1:Int)):=c1
           have c2':(wp.drewN nq).cell? ⟨db,k,none⟩=some (.int .u64 (v2:Int)):=c2
           have f1':(wp.drewN nq).frozen? ⟨db,i,none⟩=false:=f1
           have f2':(wp.drewN nq).frozen? ⟨db,k,none⟩=false:=f2
           generalize wp.drewN nq=W at *
           clear HDX HBX c1 c2 f1 f2 HGC
           go_upto_region 18 with fail
           go_region
           go_wp2_with fail
           go_roundg (d-(k+1))
           case measure=>omega
           case rel=>exact ⟨k+1,by omega,by omega,rfl,by go_num,HWR.out _ (hD2.drew) (hB2.drew)⟩
         · have z2:¬ ((k:Int)<(d:Int)):=by omega
           have hkn:k=d:=by omega
           have HKN:=Lib.hid hkn
           clear hkn
           go_wp2_with fail
           go_roundg (d-(i+1))
           case measure=>omega
           case rel=>exact ⟨i+1,by omega,rfl,by go_num,by rw [HCI.out,<- HKN.out];exact hD,hB⟩
      · have z1:¬ ((i:Int)<(d:Int)):=by omega
        have hin:i=d:=by omega
        rw [hin] at hD
        have HFL:=Lib.hid (show (chI d D d).length=d/\Dvs m (chI d D d) from ⟨by rw [chI_length];exact HDL.out,HDV.out.chI HDL.out d (Nat.le_refl _)⟩)
        obtain ⟨G,hG⟩:∃ G,G=chI d D d:=⟨_,rfl⟩
        rw [<- hG] at hD HFL HO
        have hmk:=HMI.out
        have lD:=hD.lt
        have hW:∀ W,W=wo.alloc (.cells (rowOf (List.replicate d (Value.int .i64 0))) 3)->Arr W wo.heap.size 3 (nc (outP m G 0))/\Arr W db 88 (uc G)/\Below R w W:=by
         intro W hW
         subst hW
         refine ⟨?_,hD.alloc _,hB.alloc (by have:=HRK.out;omega) _⟩
         rw [outP_zero,HFL.out.1,show nc (List.replicate d 0)=List.replicate d (Value.int .i64 0) by simp [nc]]
         exact Arr.new wo _ _
        have HLB:=Lib.hid (show R<=wo.heap.size by have:=HRK.out;omega)
        have hne:db≠wo.heap.size:=by omega
        clear hin hG
        go_upto_region 21 with fail
        generalize wo.alloc (.cells (rowOf (List.replicate d (Value.int .i64 0))) 3)=w8 at hW ⊢
        obtain ⟨hL8,hD8,hB8⟩:=hW w8 rfl
        generalize wo.heap.size=lb at *
        clear hmk hW hD hB
        go_wp2_with fail
        go_loopg [14,15,100] d (fun gk s14 s15 s100 wr=>∃ x:Nat,x<=d/\gk=d-x/\s100=.int .i64 (x:Int)/\Arr wr lb 3 (nc (outP m G x))/\Arr wr db 88 (uc G)/\Below R w wr)
        case atStart=>exact ⟨0,Nat.zero_le _,rfl,rfl,hL8,hD8,hB8⟩
        case round =>
         clear hL8 hD8 hB8
         obtain ⟨x,hx,rfl,rfl,hLx,hDx,hBx⟩:=hrel
         by_cases hxt:x<d
         · have z2:(x:Int)<(d:Int):=by omega
           have c1:=(hDx.cell x).trans (uc_get (by rw [HFL.out.1];exact hxt))
           have c2:=(hLx.cell x).trans (nc_get (by rw [outP_length,HFL.out.1];exact hxt))
           have f2:=hLx.frozen x
           have l1:gn G x<=m:=Nat.le_of_dvd hm (HFL.out.2 x (by rw [HFL.out.1];exact hxt))
           by_cases he:gn G x=m
           · have HSK:=Lib.hid (outP_skip (show x<G.length by rw [HFL.out.1];exact hxt) he)
             have z3:(((gn G x:Nat):Int) != (m:Int))=false:=by simp;omega
             generalize gn G x=vx at *
             clear he
             go_wp2_with fail
             go_roundg (d-(x+1))
             case measure=>omega
             case rel=>exact ⟨x+1,by omega,rfl,by go_num,by rw [<- HSK.out];exact hLx,hDx,hBx⟩
           · have HSK:=Lib.hid (outP_step (show x<G.length by rw [HFL.out.1];exact hxt) he)
             have z3:(((gn G x:Nat):Int) != (m:Int))=true:=by simp;omega
             have HWR:=Lib.hid (show Arr (wr.setCell ⟨lb,x,none⟩ (.int .i64 ((gn G x:Nat):Int))) lb 3 (nc (outP m G (x+1)))/\Arr (wr.setCell ⟨lb,x,none⟩ (.int .i64 ((gn G x:Nat):Int))) db 88 (uc G)/\Below R w (wr.setCell ⟨lb,x,none⟩ (.int .i64 ((gn G x:Nat):Int))) by
              rw [<- HSK.out,<- nc_set]
              exact ⟨hLx.set x _,hDx.far (p:=⟨lb,x,none⟩) hne _,hBx.setCell (p:=⟨lb,x,none⟩) HLB.out _⟩)
             generalize gn G x=vx at *
             clear he hLx hDx hBx HSK
             go_wp2_with fail
             go_roundg (d-(x+1))
             case measure=>omega
             case rel=>exact ⟨x+1,by omega,rfl,by go_num,HWR.out⟩
         · have z2:¬ ((x:Int)<(d:Int)):=by omega
           have hxn:x=d:=by omega
           rw [hxn,<- HO.out] at hLx
           clear hxn
           have hr:=HR.out
           clear HR
           go_wp2_with fail
           go_ret
           subst hr
           exact ⟨lb,rfl,HLB.out,hLx,hBx⟩
set_option maxHeartbeats 1000000 in
theorem isMatrix_any (v:Value) (rows:List (List Int)) (C:Nat) (w:World) (h:Mat w v rows) (hn:rows.length<=64) (hC:C<=64) (hCc:C=cols rows) (hc:∀ r∈rows,r.length=C) :
 Calls Try.prog 46 #[v] w fun e w'=>e=.returned (.bool true)/\w=w':=by
 have HCO:=Lib.hid (columns_any v rows w h (by omega) (fun r hr=>by rw [hc r hr];omega))
 rw [<- hCc] at HCO
 have HM:=Lib.hid h
 have HCL:=Lib.hid hc
 obtain ⟨A0,c0,rfl⟩:=h.rowlen
 obtain ⟨n,hnn⟩:∃ n,n=rows.length:=⟨_,rfl⟩
 rw [<- hnn] at hn HCO ⊢
 have HNN:=Lib.hid hnn
 clear h hc hCc hnn
 go_enter Try.func46,Try.ntmps46
 go_wp2_with fail
 go_loopg [4,7] n (fun gk s4 s7 wr=>∃ x:Nat,x<=n/\gk=n-x/\s7=.int .i64 (x:Int)/\w=wr)
 case atStart=>exact ⟨0,Nat.zero_le _,rfl,rfl,rfl⟩
 case round =>
  obtain ⟨x,hx,rfl,rfl,rfl⟩:=hrel
  by_cases hlt:x<n
  · have z1:(x:Int)<(n:Int):=by omega
    have z0:(0:Int)<(n:Int):=by omega
    obtain ⟨b,o,hA,hb,u,hu,hI⟩:=HM.out.at_ (i:=x) (by rw [<- HNN.out];exact hlt)
    obtain ⟨b',o',hA',hb',u',hu',hI'⟩:=HM.out.at_ (i:=0) (by rw [<- HNN.out];omega)
    subst hA
    injection hA' with hA'
    injection hA' with hA1 hA2
    subst hA1 hA2
    have l1:=HCL.out _ (List.getElem_mem (show x<rows.length by rw [<- HNN.out];exact hlt))
    have l2:=HCL.out _ (List.getElem_mem (show 0<rows.length by rw [<- HNN.out];omega))
    obtain ⟨A2,c2,rfl,_⟩:=hI
    obtain ⟨A3,c3,rfl,_⟩:=hI'
    rw [l1] at hu
    rw [l2,Nat.add_zero] at hu'
    have z2:((C:Int) != (C:Int))=false:=by simp
    clear l1 l2
    go_wp2_with fail
    go_roundg (n-(x+1))
    case measure=>omega
    case rel=>exact ⟨x+1,by omega,rfl,by go_num,rfl⟩
  · have z1:¬ ((x:Int)<(n:Int)):=by omega
    have z2:(n:Int)<=64:=by omega
    have z3:(C:Int)<=64:=by omega
    go_wp2_with (go_at_call 66;refine HCO.out.mono ?_;rintro e w' ⟨rfl,rfl⟩)
    go_ret
    exact ⟨rfl,rfl⟩
def asum (r:List Int):Nat:=(r.map Int.natAbs).sum
theorem asum_take_le (r:List Int) (y:Nat):asum (r.take y)<=asum r:=by
 conv=>rhs;rw [<- List.take_append_drop y r]
 unfold asum;rw [List.map_append,List.sum_append];omega
theorem asum_succ {r:List Int} {y:Nat} (h:y<r.length):asum (r.take (y+1))=asum (r.take y)+r[y].natAbs:=by
 unfold asum;rw [List.take_succ_eq_append_getElem h,List.map_append,List.sum_append];simp
theorem asum_mem {r:List Int} {x:Int} (h:x∈r):x.natAbs<=asum r:=by
 induction r with
 | nil=>simp at h
 | cons a r ih =>
  unfold asum at ih ⊢
  simp only [List.map_cons,List.sum_cons]
  rcases List.mem_cons.1 h with e|e
  · rw [e];omega
  · have:=ih e;omega
theorem four_pow {b s x:Nat} (hb:b<=4 ^ x) (hs:s<=4):b*s<=4 ^ (x+1):=by rw [Nat.pow_succ];exact Nat.mul_le_mul hb hs
set_option maxHeartbeats 2000000 in
theorem isSmall_any (v:Value) (rows:List (List Int)) (w:World) (h:Mat w v rows) (hn:rows.length<=24) (hl:∀ r∈rows,r.length<=1000) (hs:∀ r∈rows,asum r<=4) :
 Calls Try.prog 47 #[v] w fun e w'=>e=.returned (.bool true)/\w=w':=by
 have HM:=Lib.hid h
 have HS:=Lib.hid hs
 have HLL:=Lib.hid hl
 obtain ⟨A0,c0,rfl⟩:=h.rowlen
 obtain ⟨n,hnn⟩:∃ n,n=rows.length:=⟨_,rfl⟩
 rw [<- hnn] at hn ⊢
 have HNN:=Lib.hid hnn
 clear h hs hnn hl
 go_enter Try.func47,Try.ntmps47
 go_wp2_with fail
 go_loopg [3,5,6,8,11] n (fun gk s3 s5 s6 s8 s11 wr=>∃ x b:Nat,x<=n/\gk=n-x/\s11=.int .i64 (x:Int)/\s3=.int .u64 (b:Int)/\1<=b/\Hid (b<=4 ^ x)/\w=wr)
 case atStart=>exact ⟨0,1,Nat.zero_le _,rfl,rfl,rfl,by omega,Lib.hid (by simp),rfl⟩
 case round =>
  obtain ⟨x,b,hx,rfl,rfl,rfl,hb1,HB,rfl⟩:=hrel
  by_cases hlt:x<n
  · have z1:(x:Int)<(n:Int):=by omega
    obtain ⟨bb,o,hA,hb,u,hu,hI⟩:=HM.out.at_ (i:=x) (by rw [<- HNN.out];exact hlt)
    subst hA
    have hsum:=HS.out _ (List.getElem_mem (show x<rows.length by rw [<- HNN.out];exact hlt))
    have hrl:=HLL.out _ (List.getElem_mem (show x<rows.length by rw [<- HNN.out];exact hlt))
    generalize rows[x]=row at *
    have HI:=Lib.hid hI
    obtain ⟨A2,c2,rfl,_⟩:=hI
    go_wp2_with fail
    go_loopg [6,8,17] row.length (fun gk s6 s8 s17 wr=>∃ y s:Nat,y<=row.length/\gk=row.length-y/\s17=.int .i64 (y:Int)/\s6=.int .u64 (s:Int)/\s<=4/\Hid (s=asum (row.take y))/\w=wr)
    case atStart=>exact ⟨0,0,Nat.zero_le _,rfl,rfl,rfl,by omega,Lib.hid (by simp [asum]),rfl⟩
    case round =>
     obtain ⟨y,s,hy,rfl,rfl,rfl,hs4,HSS,rfl⟩:=hrel
     by_cases hyt:y<row.length
     · have z2:(y:Int)<(row.length:Int):=by omega
       obtain ⟨b2,o2,rfl,hbl,hcell⟩:=HI.out.at_ hyt
       have hab:=Nat.le_trans (asum_mem (List.getElem_mem hyt)) hsum
       have hs5:s+row[y].natAbs<=4:=by rw [HSS.out,<- asum_succ hyt];exact Nat.le_trans (asum_take_le _ _) hsum
       have HS2:=Lib.hid (show s+row[y].natAbs=asum (row.take (y+1)) by rw [asum_succ hyt,HSS.out])
       have HAB:=Lib.hid (fun W=>abs_any row[y] W (by omega) (by omega))
       generalize row[y].natAbs=ab at *
       generalize row[y]=e at *
       have z3:¬ ((1125899906842624:Int)<(ab:Int)):=by omega
       clear HSS
       go_wp2_with (go_at_call 50;(with_reducible refine (HAB.out _).mono ?_);rintro e w' ⟨rfl,rfl⟩)
       go_roundg (row.length-(y+1))
       case measure=>omega
       case rel=>exact ⟨y+1,s+ab,by omega,rfl,by go_num,by go_num,hs5,HS2,rfl⟩
     · have z2:¬ ((y:Int)<(row.length:Int)):=by omega
       obtain ⟨t,ht⟩:∃ t,t=max s 1:=⟨_,rfl⟩
       have ht1:1<=t:=by omega
       have ht4:t<=4:=by omega
       have e1:max (s:Int) 1=(t:Int):=by omega
       have HBB:=Lib.hid (four_pow HB.out ht4)
       have hb24:b<=4 ^ 23:=Nat.le_trans HB.out (Nat.pow_le_pow_right (by omega) (by omega))
       have hb46:b<=70368744177664:=hb24
       have hq:4<=1125899906842624/b:=by rw [Nat.le_div_iff_mul_le (by omega)];omega
       have e2:(1125899906842624:Int)/(b:Int)=((1125899906842624/b:Nat):Int):=by simp
       have e3:(b:Int)*(t:Int)=((b*t:Nat):Int):=by simp
       have hbt:b*t<=281474976710656:=by
        have:=Nat.mul_le_mul hb46 ht4;omega
       have hbt1:1<=b*t:=Nat.mul_pos (by omega) (by omega)
       generalize 1125899906842624/b=q at *
       generalize hbtt:b*t=bt at *
       have HBT:=Lib.hid hbtt
       have z3:¬ ((q:Int)<(t:Int)):=by omega
       have z4:((b:Int)==0)=false:=by simp;omega
       clear ht hb24 hbtt
       go_wp2_with fail
       go_roundg (n-(x+1))
       case measure=>omega
       case rel=>exact ⟨x+1,bt,by omega,rfl,by go_num,rfl,hbt1,HBB,rfl⟩
  · have z1:¬ ((x:Int)<(n:Int)):=by omega
    go_wp2_with fail
    go_ret
    exact ⟨rfl,rfl⟩
theorem p61_def:p61=2305843009213693951:=rfl
theorem elM_ne {mi v e:Nat} (h1:0<mi) (h2:mi<2305843009213693951) (h3:v≠0) (h4:v<2305843009213693951):elM mi v e≠0:=by
 have hq:mi*v%2305843009213693951≠0:=by
  have:=p61_mul (a:=mi) (b:=v) (by rw [p61_def,Nat.mod_eq_of_lt h2];omega) (by rw [p61_def,Nat.mod_eq_of_lt h4];exact h3)
  rwa [p61_def] at this
 have hl:mi*v%2305843009213693951<2305843009213693951:=Nat.mod_lt _ (by omega)
 unfold elM
 generalize mi*v%2305843009213693951=q at *
 split
 · rw [Nat.zero_add,Nat.mod_eq_of_lt (by omega)];omega
 · exact hq
theorem elF_ne {C:Nat}:∀ (f:Nat) (A:List (List Nat)) (k mi:Nat),Ltm 2305843009213693951 A->Cl C A->0<mi->mi<2305843009213693951->0<(elF C f A k mi).2/\(elF C f A k mi).2<2305843009213693951
 | 0,A,k,mi,_,_,h1,h2=>⟨h1,h2⟩
 | f+1,A,k,mi,hl,hc,h1,h2=>by
  cases h:findF A k C with
  | none=>rw [elF_none h];exact ⟨h1,h2⟩
  | some xy =>
   obtain ⟨x,y⟩:=xy
   rw [elF_some h]
   obtain ⟨q1,q2,q3,q4,_⟩:=findF_some h
   have hs:=hl.elS hc (by omega) (show k<A.length by omega) (show k<C by omega) q2 q4
   have hcs:=hc.elS (y:=y) (show k<A.length by omega) q2
   exact elF_ne f _ _ _ (hs.elN hcs) hcs.elN (Nat.pos_of_ne_zero (elM_ne h1 h2 (elS_pos hc h) (hs k k))) (elM_lt _ _ _)
theorem resF_ltm {m:Nat} (hm:0<m) (rows:List (List Int)):Ltm m (resF m rows):=by
 intro i j
 unfold ge gr resF
 rw [List.getElem?_map]
 cases hr:rows[i]? with
 | none=>simpa [gn] using hm
 | some r =>
  simp only [Option.map_some,Option.getD_some]
  unfold gn resR
  rw [List.getElem?_map]
  cases hx:r[j]? with
  | none=>simpa using hm
  | some x=>simp only [Option.map_some,Option.getD_some];exact rs_lt hm x
theorem resF_cl {m C:Nat} {rows:List (List Int)} (hc:∀ r∈rows,r.length=C):Cl C (resF m rows):=by
 intro i hi
 rw [resF_length] at hi
 unfold gr resF
 rw [List.getElem?_map,List.getElem?_eq_getElem hi]
 simp only [Option.map_some,Option.getD_some,resR,List.length_map]
 exact hc _ (List.getElem_mem hi)
def smD (C:Nat) (rows:List (List Int)):Nat:=2*(minS (elF C (rows.length+1) (resF 2305843009213693951 rows) 0 1).2).natAbs
theorem minS_bd {mi:Nat} (h1:0<mi) (h2:mi<2305843009213693951):0<(minS mi).natAbs/\(minS mi).natAbs<=1152921504606846975:=by unfold minS;split <;> omega
theorem smD_bd {C:Nat} {rows:List (List Int)} (hc:∀ r∈rows,r.length=C):0<smD C rows/\smD C rows<=2305843009213693950:=by
 obtain ⟨a,b⟩:=elF_ne (C:=C) (rows.length+1) (resF 2305843009213693951 rows) 0 1 (resF_ltm (by omega) rows) (resF_cl hc) (by omega) (by omega)
 obtain ⟨c,d⟩:=minS_bd a b
 unfold smD;omega
set_option maxHeartbeats 2000000 in
theorem Smith_any (v:Value) (rows:List (List Int)) (C:Nat) (w:World) (h:Mat w v rows) (hn:rows.length<=24) (hC:C<=64) (hCc:C=cols rows) (hc:∀ r∈rows,r.length=C) (hs:∀ r∈rows,asum r<=4) :
 Calls Try.prog 22 #[v] w fun e w'=>∃ g,e=.returned (.tuple #[.slice (some ⟨g,0,none⟩) (min rows.length C) (min rows.length C),.int .i64 0])/\w.heap.size<=g/\Arr w' g 3 (nc (facO (smD C rows) C rows (min rows.length C)))/\Below w.heap.size w w':=by
 have hbd:∀ r∈rows,∀ x∈r,-9223372036854775807<=x/\x<=9223372036854775807:=fun r hr x hx=>by
  have:=asum_mem hx;have:=hs r hr;omega
 have H1:=Lib.hid (isMatrix_any v rows C w h (by omega) hC hCc hc)
 have H2:=Lib.hid (isSmall_any v rows w h hn (fun r hr=>by rw [hc r hr];omega) hs)
 have H3:=Lib.hid (eliminate_any v rows C w h (by omega) (by omega) hc hbd)
 obtain ⟨d1,d2⟩:=smD_bd hc
 have H4:=Lib.hid (fun W (hb:Below w.heap.size w W)=>factors_any v rows C (smD C rows) W (h.below hb) (by omega) (by omega) hCc hc hbd d1 (by omega))
 have hS:smD C rows=2*(minS (elF C (rows.length+1) (resF 2305843009213693951 rows) 0 1).2).natAbs:=rfl
 obtain ⟨A0,c0,rfl⟩:=h.rowlen
 generalize (elF C (rows.length+1) (resF 2305843009213693951 rows) 0 1).1=rk at *
 generalize minS (elF C (rows.length+1) (resF 2305843009213693951 rows) 0 1).2=mi at *
 generalize smD C rows=D at *
 have H5:=Lib.hid (fun W=>abs_any mi W (by omega) (by omega))
 have e1:2*((mi.natAbs:Nat):Int)=(D:Int):=by omega
 generalize mi.natAbs=am at *
 clear h hc hs hbd hCc hS
 go_enter Try.func22,Try.ntmps22
 go_upto_region 6 with (first|(go_at_call 46;refine H1.out.mono ?_;rintro e w' ⟨rfl,rfl⟩)|(go_at_call 47;refine H2.out.mono ?_;rintro e w' ⟨rfl,rfl⟩)|(go_at_call 48;refine H3.out.mono ?_;rintro e w' ⟨rfl,hb⟩))
 have H6:=Lib.hid (H4.out w' hb)
 go_wp2_with (first|(go_at_call 50;(with_reducible refine (H5.out _).mono ?_);rintro e w' ⟨rfl,rfl⟩)|(go_at_call 49;refine H6.out.mono ?_;rintro e w' ⟨g,rfl,hg,ha,hb2⟩))
 go_ret2
 exact ⟨g,rfl,Nat.le_trans hb.size hg,ha,hb.trans (hb2.mono hb.size)⟩
end Go.Proofs.Ytfnmeigpfmeomaa
namespace Go.Proofs.Ytfnmeigpfmeomaa
set_option linter.unusedVariables false
def tr2 (a b i:Nat):Nat:=if i=b then a else if i=a then b else i
theorem tr2_tr2 (a b i:Nat):tr2 a b (tr2 a b i)=i:=by unfold tr2;split <;> split <;> (try split) <;> omega
theorem tr2_lt {a b i n:Nat} (ha:a<n) (hb:b<n) (hi:i<n):tr2 a b i<n:=by unfold tr2;split <;> (try split) <;> omega
theorem ge_swR {A:List (List Nat)} {a b:Nat} (ha:a<A.length) (hb:b<A.length) (i j:Nat):ge (swR A a b) i j=ge A (tr2 a b i) j:=by
 unfold ge tr2
 rw [gr_swR ha hb]
 split
 · rfl
 · split <;> rfl
theorem ge_swC {C:Nat} {A:List (List Nat)} (hc:Cl C A) {a b i j:Nat} (ha:a<C) (hb:b<C) (hi:i<A.length):ge (swC A a b) i j=ge A i (tr2 a b j):=by
 unfold ge tr2
 rw [gr_swC hi,gn_swp (by rw [hc i hi];exact ha) (by rw [hc i hi];exact hb)]
 split
 · rfl
 · split <;> rfl
theorem ge_elS {C k x y i j:Nat} {A:List (List Nat)} (hc:Cl C A) (hk:k<A.length) (hkC:k<C) (hx:x<A.length) (hy:y<C) (hi:i<A.length):ge (elS A k x y) i j=ge A (tr2 x k i) (tr2 y k j):=by
 unfold elS
 rw [ge_swC (hc.swR hx hk) hy hkC (by rw [swR_length];exact hi),ge_swR hx hk]
structure Bij (n:Nat) (ρ:Nat->Nat):Prop where
 lt:∀ i,i<n->ρ i<n
 inj:∀ i j,i<n->j<n->ρ i=ρ j->i=j
 sur:∀ i,i<n->∃ j,j<n/\ρ j=i
theorem Bij.id (n:Nat):Bij n (fun i=>i):=⟨fun _ h=>h,fun _ _ _ _ h=>h,fun i h=>⟨i,h,rfl⟩⟩
theorem Bij.tr {n:Nat} {ρ:Nat->Nat} (h:Bij n ρ) {a b:Nat} (ha:a<n) (hb:b<n):Bij n (fun i=>ρ (tr2 a b i)) :=
 ⟨fun i hi=>h.lt _ (tr2_lt ha hb hi),fun i j hi hj e=>by
  have:=h.inj _ _ (tr2_lt ha hb hi) (tr2_lt ha hb hj) e
  rw [<- tr2_tr2 a b i,<- tr2_tr2 a b j,this],
  fun i hi=>by
   obtain ⟨j,hj,e⟩:=h.sur i hi
   exact ⟨tr2 a b j,tr2_lt ha hb hj,by rw [tr2_tr2];exact e⟩⟩
structure EI (n C k:Nat) (M:Nat->Nat->Int) (A:List (List Nat)) (ρ κ:Nat->Nat):Prop where
 len:A.length=n
 det:∀ (J:List Nat) (R:Nat->Nat),k<=J.length->(∀ j∈J,j<C)->(∀ l,l<J.length->R l<n)->(∀ l,l<k->R l=l)->((2305843009213693951:Nat):Int) ∣ dt J (fun l j=>(ge A (R l) j:Int))-dt J (fun l j=>M (ρ (R l)) (κ j))
 tri:∀ i j,i<n->j<k->j<i->ge A i j=0
 row:Bij n ρ
 col:Bij C κ
theorem EI.start {n C:Nat} {M:Nat->Nat->Int} {A:List (List Nat)} (hl:A.length=n) (h:∀ i j,i<n->j<C->((2305843009213693951:Nat):Int) ∣ (ge A i j:Int)-M i j):EI n C 0 M A (fun i=>i) (fun j=>j) :=
 ⟨hl,fun J R _ hJ hR _=>dt_mod (fun l hl' j hj=>h _ _ (hR l hl') (hJ j hj)),fun i j _ hj=>by omega,Bij.id n,Bij.id C⟩
theorem EI.elS {n C k x y:Nat} {M:Nat->Nat->Int} {A:List (List Nat)} {ρ κ:Nat->Nat} (h:EI n C k M A ρ κ) (hc:Cl C A) (hk:k<n) (hkC:k<C) (hx:x<n) (hy:y<C) (hkx:k<=x) (hky:k<=y) :
 EI n C k M (elS A k x y) (fun i=>ρ (tr2 x k i)) (fun j=>κ (tr2 y k j)):=by
 have hl:=h.len
 have hg:∀ i j,i<n->ge (Go.Proofs.Ytfnmeigpfmeomaa.elS A k x y) i j=ge A (tr2 x k i) (tr2 y k j):=fun i j hi=>ge_elS hc (by omega) hkC (by omega) hy (by omega)
 refine ⟨by rw [elS_length];exact hl,fun J R hJl hJ hR hRk=>?_,fun i j hi hj hji=>?_,h.row.tr hx hk,h.col.tr hy hkC⟩
 · have h1:=h.det (J.map (tr2 y k)) (fun l=>tr2 x k (R l)) (by simpa using hJl) (fun j hj=>by
    obtain ⟨i,hi,rfl⟩:=List.mem_map.1 hj
    exact tr2_lt hy hkC (hJ i hi)) (fun l hl'=>tr2_lt hx hk (hR l (by simpa using hl'))) (fun l hl'=>by
    rw [hRk l hl'];unfold tr2;rw [if_neg (by omega),if_neg (by omega)])
   rw [dt_map,dt_map] at h1
   rw [dt_congr (J:=J) (f:=fun l j=>(ge (Go.Proofs.Ytfnmeigpfmeomaa.elS A k x y) (R l) j:Int)) (g:=fun l j=>(ge A (tr2 x k (R l)) (tr2 y k j):Int)) (fun l hl' j _=>by rw [hg _ _ (hR l hl')])]
   exact h1
 · rw [hg i j hi]
   refine h.tri _ _ (tr2_lt hx hk hi) ?_ ?_
   · unfold tr2;rw [if_neg (by omega),if_neg (by omega)];exact hj
   · unfold tr2;rw [if_neg (by omega),if_neg (by omega)];split <;> (try split) <;> omega
theorem ge_elN {C k i j:Nat} {A:List (List Nat)} (hc:Cl C A) (hi:i<A.length) (hj:j<C) :
 ge (elN A k) i j=if k<i/\ge A i k≠0/\k<=j then (ge A i j+(2305843009213693951-ge A i k*invF (ge A k k)%2305843009213693951*ge A k j%2305843009213693951))%2305843009213693951 else ge A i j:=by
 unfold elN
 show gn (gr _ i) j=_
 rw [gr_updR hi]
 by_cases q:k<i
 · rw [if_pos ⟨by omega,hi⟩]
   unfold elR
   by_cases z:gn (gr A i) k=0
   · rw [if_pos z,if_neg (fun w=>w.2.1 z)];rfl
   · rw [if_neg z,gn_cmb (by rw [hc i hi];exact hj),hc i hi]
     by_cases w:k<=j
     · rw [if_pos ⟨w,hj⟩,if_pos ⟨q,z,w⟩];rfl
     · rw [if_neg (fun v=>w v.1),if_neg (fun v=>w v.2.2)];rfl
 · rw [if_neg (by omega),if_neg (fun w=>q w.1)];rfl
theorem EI.elN {n C k:Nat} {M:Nat->Nat->Int} {A:List (List Nat)} {ρ κ:Nat->Nat} (h:EI n C k M A ρ κ) (hc:Cl C A) (hs:Ltm 2305843009213693951 A) (hk:k<n) (hkC:k<C) (hp:ge A k k≠0):EI n C (k+1) M (elN A k) ρ κ:=by
 have hl:=h.len
 have hg:∀ i j,i<n->j<C->ge (Go.Proofs.Ytfnmeigpfmeomaa.elN A k) i j=if k<i/\ge A i k≠0/\k<=j then (ge A i j+(2305843009213693951-ge A i k*invF (ge A k k)%2305843009213693951*ge A k j%2305843009213693951))%2305843009213693951 else ge A i j:=fun i j hi hj=>ge_elN hc (by omega) hj
 obtain ⟨c,hcd⟩:∃ c:Nat->Int,c=fun i=>if k<i/\ge A i k≠0 then -((ge A i k*invF (ge A k k)%2305843009213693951:Nat):Int) else 0:=⟨_,rfl⟩
 have hmod:∀ i j,i<n->j<C->((2305843009213693951:Nat):Int) ∣ (ge (Go.Proofs.Ytfnmeigpfmeomaa.elN A k) i j:Int)-((ge A i j:Int)+c i*(ge A k j:Int)):=by
  intro i j hi hj
  rw [hg i j hi hj,hcd]
  simp only
  by_cases q:k<i/\ge A i k≠0
  · rw [if_pos q]
    by_cases w:k<=j
    · rw [if_pos ⟨q.1,q.2,w⟩,Int.neg_mul,<- Int.natCast_mul,<- Int.sub_eq_add_neg]
      exact mod_sub_dvd 2305843009213693951 _ _ (by omega)
    · rw [if_neg (fun v=>w v.2.2),h.tri k j hk (by omega) (by omega)]
      simp
  · rw [if_neg q,if_neg (fun v=>q ⟨v.1,v.2.1⟩)]
    simp
 refine ⟨by rw [elN_length];exact hl,fun J R hJl hJ hR hRk=>?_,fun i j hi hj hji=>?_,h.row,h.col⟩
 · have h1:=h.det J R (by omega) hJ hR (fun l hl'=>hRk l (by omega))
   have h2:((2305843009213693951:Nat):Int) ∣ dt J (fun l j=>(ge (Go.Proofs.Ytfnmeigpfmeomaa.elN A k) (R l) j:Int))-dt J (fun l j=>(ge A (R l) j:Int)+c (R l)*(ge A (R k) j:Int)):=dt_mod (fun l hl' j hj=>by
    rw [hRk k (by omega)]
    exact hmod _ _ (hR l hl') (hJ j hj))
   have h3:=dt_many (J:=J) (f:=fun l j=>(ge A (R l) j:Int)) (a:=k) (by omega) (fun l=>c (R l)) (by
    show c (R k)=0
    rw [hRk k (by omega),hcd];simp)
   rw [h3] at h2
   have h4:=Int.dvd_add h2 h1
   rwa [show ∀ a b d:Int,a-b+(b-d)=a-d from fun a b d=>by omega] at h4
 · rw [hg i j hi (by omega)]
   by_cases e:j=k
   · subst e
     split
     · next q =>
       have hf:=invF_mul (a:=ge A j j) (by rw [p61_def,Nat.mod_eq_of_lt (hs j j)];exact hp)
       rw [p61_def] at hf
       have e1:ge A i j*invF (ge A j j)%2305843009213693951*ge A j j%2305843009213693951=ge A i j:=by
        rw [Nat.mul_mod,Nat.mod_mod,<- Nat.mul_mod,Nat.mul_assoc,Nat.mul_comm (invF _),Nat.mul_mod,hf,Nat.mul_one,Nat.mod_mod,Nat.mod_eq_of_lt (hs i j)]
       rw [e1,show ge A i j+(2305843009213693951-ge A i j)=2305843009213693951 by have:=hs i j;omega,Nat.mod_self]
     · next q =>
       by_cases z:ge A i j=0
       · exact z
       · exact absurd ⟨hji,z,Nat.le_refl j⟩ q
   · rw [if_neg (fun v=>by omega)]
     exact h.tri i j hi (by omega) hji
def Pm1 (a b:Int):Prop:=((2305843009213693951:Nat):Int) ∣ a-b\/((2305843009213693951:Nat):Int) ∣ a+b
theorem elM_pm {mi v e:Nat} {b:Int} (h:Pm1 (mi:Int) b):Pm1 (elM mi v e:Int) (b*(v:Int)):=by
 have h1:((2305843009213693951:Nat):Int) ∣ ((mi*v%2305843009213693951:Nat):Int)-(mi:Int)*(v:Int):=by
  have:=Nat.div_add_mod (mi*v) 2305843009213693951
  refine ⟨-((mi*v/2305843009213693951:Nat):Int),?_⟩
  rw [<- Int.natCast_mul]
  omega
 have h2:Pm1 ((mi:Int)*(v:Int)) (b*(v:Int)):=by
  rcases h with h|h
  · left;rw [<- Int.sub_mul];exact Int.dvd_trans h (Int.dvd_mul_right _ _)
  · right;rw [<- Int.add_mul];exact Int.dvd_trans h (Int.dvd_mul_right _ _)
 have hl:mi*v%2305843009213693951<2305843009213693951:=Nat.mod_lt _ (by omega)
 unfold elM
 generalize mi*v%2305843009213693951=q at *
 generalize (mi:Int)*(v:Int)=A at *
 generalize b*(v:Int)=B at *
 split
 · have h3:=mod_sub_dvd 2305843009213693951 0 q (by omega)
   rw [Nat.mod_eq_of_lt hl] at h3
   generalize (0+(2305843009213693951-q))%2305843009213693951=z at *
   rcases h2 with h2|h2
   · right
     have:=Int.dvd_sub h3 (Int.dvd_sub (Int.dvd_neg.2 h1) h2) 
     have e:(z:Int)+B=((z:Int)-(((0:Nat):Int)-(q:Int)))-((q:Int)-A)-(A-B):=by omega
     rw [e]
     exact Int.dvd_sub (Int.dvd_sub h3 h1) h2
   · left
     have e:(z:Int)-B=((z:Int)-(((0:Nat):Int)-(q:Int)))-((q:Int)-A)-(A+B):=by omega
     rw [e]
     exact Int.dvd_sub (Int.dvd_sub h3 h1) h2
 · rcases h2 with h2|h2
   · left
     have e:(q:Int)-B=((q:Int)-A)+(A-B):=by omega
     rw [e];exact Int.dvd_add h1 h2
   · right
     have e:(q:Int)+B=((q:Int)-A)+(A+B):=by omega
     rw [e];exact Int.dvd_add h1 h2
structure Fin2 (n C r:Nat) (M:Nat->Nat->Int) (mi:Nat) (A:List (List Nat)) (ρ κ:Nat->Nat):Prop where
 ei:EI n C r M A ρ κ
 rn:r<=n
 rC:r<=C
 zero:∀ i j,r<=i->i<n->j<C->ge A i j=0
 minor:Pm1 (mi:Int) (prodI r (fun l=>(ge A l l:Int)))
theorem prodI_congr {r:Nat} {f g:Nat->Int} (h:∀ l,l<r->f l=g l):prodI r f=prodI r g:=by
 induction r with
 | zero=>rfl
 | succ r ih=>rw [prodI,prodI,ih (fun l hl=>h l (by omega)),h r (by omega)]
theorem elF_fin {n C:Nat} {M:Nat->Nat->Int}:∀ (f:Nat) (A:List (List Nat)) (k mi:Nat) (ρ κ:Nat->Nat),EI n C k M A ρ κ->Cl C A->Ltm 2305843009213693951 A->k<=n->k<=C->n-k<f->Pm1 (mi:Int) (prodI k (fun l=>(ge A l l:Int))) ->
 ∃ r A' ρ' κ',Fin2 n C r M (elF C f A k mi).2 A' ρ' κ'
 | 0,A,k,mi,ρ,κ,h,hc,hs,hkn,hkC,hf,hm=>by omega
 | f+1,A,k,mi,ρ,κ,h,hc,hs,hkn,hkC,hf,hm=>by
  have hl:=h.len
  cases hF:findF A k C with
  | none =>
   rw [elF_none hF]
   refine ⟨k,A,ρ,κ,h,hkn,hkC,fun i j h1 h2 h3=>?_,hm⟩
   rcases Nat.lt_or_ge j k with q|q
   · exact h.tri i j h2 q (by omega)
   · exact findF_none hF i j h1 (by omega) q h3
  | some xy =>
   obtain ⟨x,y⟩:=xy
   rw [elF_some hF]
   obtain ⟨q1,q2,q3,q4,_⟩:=findF_some hF
   rw [hl] at q2
   have hk:k<n:=by omega
   have hkC':k<C:=by omega
   have h1:=h.elS hc hk hkC' q2 q4 q1 q3
   have hc1:Cl C (elS A k x y):=hc.elS (by omega) (by omega)
   have hs1:Ltm 2305843009213693951 (elS A k x y):=hs.elS hc (by omega) (by omega) hkC' (by omega) q4
   have h2:=h1.elN hc1 hs1 hk hkC' (elS_pos hc hF)
   refine elF_fin f _ _ _ _ _ h2 hc1.elN (hs1.elN hc1) (by omega) (by omega) (by omega) ?_
   have e1:prodI (k+1) (fun l=>(ge (elN (elS A k x y) k) l l:Int))=prodI k (fun l=>(ge A l l:Int))*(ge (elS A k x y) k k:Int):=by
    rw [prodI]
    have e2:∀ l,l<=k->ge (elN (elS A k x y) k) l l=ge (elS A k x y) l l:=fun l hlk=>by
     rw [ge_elN hc1 (by rw [elS_length];omega) (by omega),if_neg (by omega)]
    rw [e2 k (Nat.le_refl _),prodI_congr (g:=fun l=>(ge A l l:Int)) (fun l hlk=>by
     rw [e2 l (by omega),ge_elS hc (by omega) hkC' (by omega) q4 (by omega)]
     unfold tr2
     rw [if_neg (by omega),if_neg (by omega),if_neg (by omega),if_neg (by omega)])]
   rw [e1]
   exact elM_pm hm
theorem sum_perm {g:Nat->Nat} {l k:List Nat} (h:l.Perm k):(l.map g).sum=(k.map g).sum:=by
 induction h with
 | nil=>rfl
 | cons a _ ih=>simp [ih]
 | swap a b l=>simp only [List.map_cons,List.sum_cons];omega
 | trans _ _ h1 h2=>rw [h1,h2]
theorem sum_nodup (g:Nat->Nat):∀ (C:Nat) (l:List Nat),l.Nodup->(∀ x∈l,x<C)->(l.map g).sum<=sumN C g
 | 0,l,_,h=>by
  cases l with
  | nil=>simp [sumN]
  | cons a t=>exact absurd (h a (by simp)) (by omega)
 | C+1,l,hd,h=>by
  rw [sumN]
  by_cases hm:C∈l
  · rw [sum_perm (List.perm_cons_erase hm),List.map_cons,List.sum_cons]
    have:=sum_nodup g C (l.erase C) (hd.erase _) (fun x hx=>by
     have h2:=(List.Nodup.mem_erase_iff hd).1 hx
     have:=h x h2.2
     omega)
    omega
  · have:=sum_nodup g C l hd (fun x hx=>by
     have:=h x hx
     have:x≠C:=fun e=>hm (e ▸ hx)
     omega)
    omega
theorem asum_sumN (r:List Int):asum r=sumN r.length (fun j=>(gi r j).natAbs):=by
 have h:∀ x,x<=r.length->asum (r.take x)=sumN x (fun j=>(gi r j).natAbs):=by
  intro x
  induction x with
  | zero=>intro _;simp [asum,sumN]
  | succ x ih =>
   intro hx
   rw [asum_succ (by omega),ih (by omega),sumN]
   have:gi r x=r[x]:=by unfold gi;rw [List.getElem?_eq_getElem (by omega)];rfl
   rw [this]
 have:=h r.length (Nat.le_refl _)
 rwa [List.take_length] at this
def matZ (rows:List (List Int)) (i j:Nat):Int:=gi (rows[i]?.getD []) j
theorem matZ_get {rows:List (List Int)} {i:Nat} (h:i<rows.length) (j:Nat):matZ rows i j=gi rows[i] j:=by unfold matZ;rw [List.getElem?_eq_getElem h];rfl
theorem rsum_le {rows:List (List Int)} {C n r i:Nat} {κ:Nat->Nat} (hn:rows.length=n) (hc:∀ r∈rows,r.length=C) (hs:∀ r∈rows,asum r<=4) (hκ:Bij C κ) (hr:r<=C) (hi:i<n):rsum (List.range' 0 r) (fun j=>matZ rows i (κ j))<=4:=by
 have hi':i<rows.length:=by omega
 have h1:=sum_nodup (fun j=>(matZ rows i j).natAbs) C ((List.range' 0 r).map κ) (by
  rw [List.Nodup,List.pairwise_map]
  refine (List.nodup_range' (step:=1)).imp_of_mem (fun {a b} ha hb hne he=>hne ?_)
  have h1:=List.mem_range'_1.1 ha
  have h2:=List.mem_range'_1.1 hb
  exact hκ.inj a b (by omega) (by omega) he) (fun x hx=>by
   obtain ⟨y,hy,rfl⟩:=List.mem_map.1 hx
   have h1:=List.mem_range'_1.1 hy
   exact hκ.lt y (by omega))
 rw [List.map_map] at h1
 have h2:=hs _ (List.getElem_mem hi')
 rw [asum_sumN,hc _ (List.getElem_mem hi')] at h2
 have h3:sumN C (fun j=>(matZ rows i j).natAbs)=sumN C (fun j=>(gi rows[i] j).natAbs):=sumN_congr (fun j _=>by rw [matZ_get hi'])
 rw [h3] at h1
 exact Nat.le_trans h1 h2
theorem one_le4 {rows:List (List Int)} {n i:Nat} (hn:rows.length=n) (hs:∀ r∈rows,asum r<=4) (hi:i<n) (j:Nat):(matZ rows i j).natAbs<=4:=by
 have hi':i<rows.length:=by omega
 rw [matZ_get hi']
 rcases Nat.lt_or_ge j rows[i].length with q|q
 · have h1:gi rows[i] j=rows[i][j]:=by unfold gi;rw [List.getElem?_eq_getElem q];rfl
   rw [h1]
   exact Nat.le_trans (asum_mem (List.getElem_mem q)) (hs _ (List.getElem_mem hi'))
 · have h1:gi rows[i] j=0:=by unfold gi;rw [List.getElem?_eq_none q];rfl
   rw [h1];simp
structure Mnr (n C r:Nat) (M:Nat->Nat->Int) (ρ κ:Nat->Nat) (δ:Int):Prop where
 row:Bij n ρ
 col:Bij C κ
 rn:r<=n
 rC:r<=C
 det:dt (List.range' 0 r) (fun l j=>M (ρ l) (κ j))=δ
 ne:δ≠0
 brd:∀ i j,i<n->j<C->dt (j :: List.range' 0 r) (fun l c=>M (ρ (if l<r then l else i)) (κ c))=0
theorem mod_small {p:Nat} {a:Int} (h:(p:Int) ∣ a) (hb:a.natAbs<p):a=0:=by
 by_cases e:a=0
 · exact e
 · have h1:=Int.ofNat_dvd_left.1 h
   have:=Nat.le_of_dvd (by omega) h1
   omega
theorem minor_facts {rows:List (List Int)} {C:Nat} (hn:rows.length<=14) (hc:∀ r∈rows,r.length=C) (hs:∀ r∈rows,asum r<=4) :
 ∃ r ρ κ δ,Mnr rows.length C r (matZ rows) ρ κ δ/\smD C rows=2*δ.natAbs:=by
 obtain ⟨n,hnn⟩:∃ n,n=rows.length:=⟨_,rfl⟩
 have hlt:=resF_ltm (m:=2305843009213693951) (by omega) rows
 have hcl:=resF_cl (m:=2305843009213693951) hc
 have hst:EI n C 0 (matZ rows) (resF 2305843009213693951 rows) (fun i=>i) (fun j=>j):=EI.start (by rw [resF_length];exact hnn.symm) (fun i j hi hj=>by
  have hi':i<rows.length:=by omega
  have hge:ge (resF 2305843009213693951 rows) i j=rs 2305843009213693951 (gi rows[i] j):=by
   unfold ge gr resF
   rw [List.getElem?_map,List.getElem?_eq_getElem hi']
   simp only [Option.map_some,Option.getD_some]
   unfold gn resR gi
   rw [List.getElem?_map,List.getElem?_eq_getElem (by rw [hc _ (List.getElem_mem hi')];exact hj)];rfl
  rw [hge,matZ_get hi']
  unfold rs
  split
  · next h =>
    have:=mod_sub_dvd 2305843009213693951 0 (gi rows[i] j).natAbs (by omega)
    rwa [show ((0:Nat):Int)-((gi rows[i] j).natAbs:Int)=gi rows[i] j by omega] at this
  · next h =>
    have h1:=Nat.div_add_mod (gi rows[i] j).natAbs 2305843009213693951
    refine ⟨-(((gi rows[i] j).natAbs/2305843009213693951:Nat):Int),?_⟩
    omega)
 obtain ⟨r,A',ρ,κ,hf⟩:=elF_fin (n:=n) (C:=C) (M:=matZ rows) (rows.length+1) (resF 2305843009213693951 rows) 0 1 _ _ hst hcl hlt (Nat.zero_le _) (Nat.zero_le _) (by omega) (Or.inl (by simp [prodI]))
 obtain ⟨m1,m2⟩:=elF_ne (C:=C) (rows.length+1) (resF 2305843009213693951 rows) 0 1 hlt hcl (by omega) (by omega)
 have hsm:smD C rows=2*(minS (elF C (rows.length+1) (resF 2305843009213693951 rows) 0 1).2).natAbs:=rfl
 generalize (elF C (rows.length+1) (resF 2305843009213693951 rows) 0 1).2=mi at *
 obtain ⟨he,hrn,hrC,hz,hm⟩:=hf
 have hr14:r<=14:=by omega
 have hlen:(List.range' 0 r).length=r:=by simp
 obtain ⟨δ,hδ⟩:∃ δ,δ=dt (List.range' 0 r) (fun l j=>matZ rows (ρ l) (κ j)):=⟨_,rfl⟩
 have hb:δ.natAbs<=4 ^ 14:=by
  rw [hδ]
  refine Nat.le_trans (dt_bound _ _) ?_
  rw [hlen]
  refine Nat.le_trans (prodN_mono (g:=fun _=>4) (fun l hl=>rsum_le hnn.symm hc hs he.col hrC (he.row.lt l (by omega)))) ?_
  rw [prodN_const]
  exact Nat.pow_le_pow_right (by omega) hr14
 have h1:=he.det (List.range' 0 r) (fun l=>l) (by rw [hlen];exact Nat.le_refl _) (fun j hj=>by have:=List.mem_range'_1.1 hj;omega) (fun l hl=>by rw [hlen] at hl;omega) (fun l _=>rfl)
 rw [dt_tri r 0 (fun l j=>(ge A' l j:Int)) (fun l j hl hj hlt'=>by
  rw [Nat.zero_add]
  show ((ge A' l j:Nat):Int)=0
  rw [he.tri l j (by omega) hj hlt'];rfl),<- hδ] at h1
 have e0:prodI r (fun l=>((ge A' l (0+l):Nat):Int))=prodI r (fun l=>(ge A' l l:Int)):=prodI_congr (fun l _=>by rw [Nat.zero_add])
 rw [e0] at h1
 generalize prodI r (fun l=>(ge A' l l:Int))=P at *
 have hms:((2305843009213693951:Nat):Int) ∣ minS mi-(mi:Int):=by
  unfold minS
  split
  · exact ⟨-1,by omega⟩
  · exact ⟨0,by omega⟩
 obtain ⟨b1,b2⟩:=minS_bd m1 m2
 have hb':δ.natAbs<=268435456:=hb
 have hpm:(minS mi).natAbs=δ.natAbs:=by
  rcases hm with hm|hm
  · have h2:((2305843009213693951:Nat):Int) ∣ minS mi-δ:=by
     have e:minS mi-δ=(minS mi-(mi:Int))+((mi:Int)-P)+(P-δ):=by omega
     rw [e];exact Int.dvd_add (Int.dvd_add hms hm) h1
    have:=mod_small h2 (by omega)
    omega
  · have h2:((2305843009213693951:Nat):Int) ∣ minS mi+δ:=by
     have e:minS mi+δ=(minS mi-(mi:Int))+((mi:Int)+P)-(P-δ):=by omega
     rw [e];exact Int.dvd_sub (Int.dvd_add hms hm) h1
    have:=mod_small h2 (by omega)
    omega
 refine ⟨r,ρ,κ,δ,⟨by rw [<- hnn];exact he.row,he.col,by omega,hrC,hδ.symm,by omega,fun i j hi hj=>?_⟩,by rw [hsm,hpm]⟩
 rw [<- hnn] at hi
 have hJl:(j :: List.range' 0 r).length=r+1:=by simp
 rcases Nat.lt_or_ge i r with q|q
 · refine dt_alike (a:=i) (b:=r) (by rw [hJl];omega) (by rw [hJl];omega) (by omega) (fun c=>?_)
   show matZ rows (ρ (if i<r then i else i)) (κ c)=matZ rows (ρ (if r<r then r else i)) (κ c)
   rw [if_pos q,if_neg (by omega)]
 · have h2:=he.det (j :: List.range' 0 r) (fun l=>if l<r then l else i) (by rw [hJl];omega) (fun c hc'=>by
    rcases List.mem_cons.1 hc' with e|e
    · rw [e];exact hj
    · have:=List.mem_range'_1.1 e;omega) (fun l hl=>by
      show (if l<r then l else i)<n
      split <;> omega) (fun l hl=>if_pos hl)
   have hzero:dt (j :: List.range' 0 r) (fun l c=>(ge A' (if l<r then l else i) c:Int))=0:=by
    have e:dt (j :: List.range' 0 r) (fun l c=>(ge A' (if l<r then l else i) c:Int))=dt (j :: List.range' 0 r) (fup (fun l c=>(ge A' (if l<r then l else i) c:Int)) r (fun _=>0)):=dt_congr (fun l hl c hc'=>by
     unfold fup
     by_cases e:l=r
     · rw [if_pos e,e]
       simp only [if_neg (show ¬ r<r by omega)]
       rw [hz i c q hi (by
        rcases List.mem_cons.1 hc' with e|e
        · rw [e];exact hj
        · have:=List.mem_range'_1.1 e;omega)];rfl
     · rw [if_neg e])
    rw [e]
    exact dt_zero (by rw [hJl];omega)
   rw [hzero] at h2
   have hbd:(dt (j :: List.range' 0 r) (fun l c=>matZ rows (ρ (if l<r then l else i)) (κ c))).natAbs<=8 ^ 15:=by
    refine Nat.le_trans (dt_bound _ _) ?_
    rw [hJl]
    refine Nat.le_trans (prodN_mono (g:=fun _=>8) (fun l hl=>?_)) ?_
    · show rsum (j :: List.range' 0 r) (fun c=>matZ rows (ρ (if l<r then l else i)) (κ c))<=8
      have hρ:ρ (if l<r then l else i)<n:=he.row.lt _ (by split <;> omega)
      have a1:=rsum_le (rows:=rows) hnn.symm hc hs he.col hrC hρ
      have a2:=one_le4 (rows:=rows) hnn.symm hs hρ (κ j)
      have a3:rsum (j :: List.range' 0 r) (fun c=>matZ rows (ρ (if l<r then l else i)) (κ c))=(matZ rows (ρ (if l<r then l else i)) (κ j)).natAbs+rsum (List.range' 0 r) (fun c=>matZ rows (ρ (if l<r then l else i)) (κ c)):=by simp [rsum]
      omega
    · rw [prodN_const]
      exact Nat.pow_le_pow_right (by omega) (by omega)
   have hbd':(dt (j :: List.range' 0 r) (fun l c=>matZ rows (ρ (if l<r then l else i)) (κ c))).natAbs<=35184372088832:=hbd
   exact mod_small (p:=2305843009213693951) (by
    have:=Int.dvd_neg.2 h2
    rwa [Int.zero_sub,Int.neg_neg] at this) (by omega)
def Tk (n C:Nat) (δ:Int) (M:Nat->Nat->Int):Prop :=
 ∀ (v:Nat->Int) (t:Int) (z:Nat->Int),t≠0->(∀ j,j<C->t*v j=sumI n (fun i=>z i*M i j))->∃ z':Nat->Int,∀ j,j<C->δ*v j=sumI n (fun i=>z' i*M i j)
theorem sgn_sq (k:Nat):sgn k*sgn k=1:=by unfold sgn;split <;> rfl
theorem Mnr.rows {n C r:Nat} {M:Nat->Nat->Int} {ρ κ:Nat->Nat} {δ:Int} (h:Mnr n C r M ρ κ δ) (i:Nat) (hi:i<n):∃ c:Nat->Int,∀ j,j<C->δ*M i j=sumI r (fun k=>c k*M (ρ k) j):=by
 obtain ⟨i',hi',rfl⟩:=h.row.sur i hi
 refine ⟨fun k=>-(sgn r*(sgn k*dt (List.range' 0 r) (fun l c=>M (ρ (if skp k l<r then skp k l else i')) (κ c)))),fun j hj=>?_⟩
 obtain ⟨j',hj',rfl⟩:=h.col.sur j hj
 have hb:=h.brd i' j' hi' hj'
 rw [dt,List.length_range',sumI] at hb
 have e1:dt (List.range' 0 r) (fun l c=>M (ρ (if skp r l<r then skp r l else i')) (κ c))=δ:=by
  rw [<- h.det]
  refine dt_congr (fun l hl c _=>?_)
  rw [List.length_range'] at hl
  have:skp r l=l:=by unfold skp;rw [if_pos hl]
  rw [this,if_pos hl]
 rw [if_neg (show ¬ r<r by omega),e1] at hb
 have e2:sumI r (fun k=>sgn k*M (ρ (if k<r then k else i')) (κ j')*dt (List.range' 0 r) (fun l c=>M (ρ (if skp k l<r then skp k l else i')) (κ c)))=sumI r (fun k=>(sgn k*dt (List.range' 0 r) (fun l c=>M (ρ (if skp k l<r then skp k l else i')) (κ c)))*M (ρ k) (κ j')):=sumI_congr (fun k hk=>by
  rw [if_pos hk,Int.mul_assoc,Int.mul_comm (M (ρ k) (κ j')),<- Int.mul_assoc])
 rw [e2] at hb
 have e3:sumI r (fun k=>-(sgn r*(sgn k*dt (List.range' 0 r) (fun l c=>M (ρ (if skp k l<r then skp k l else i')) (κ c))))*M (ρ k) (κ j')) = -(sgn r)*sumI r (fun k=>(sgn k*dt (List.range' 0 r) (fun l c=>M (ρ (if skp k l<r then skp k l else i')) (κ c)))*M (ρ k) (κ j')):=by
  rw [<- sumI_mul]
  exact sumI_congr (fun k _=>by rw [Int.neg_mul,Int.neg_mul,Int.mul_assoc (sgn r)])
 rw [e3]
 generalize sumI r (fun k=>(sgn k*dt (List.range' 0 r) (fun l c=>M (ρ (if skp k l<r then skp k l else i')) (κ c)))*M (ρ k) (κ j'))=S at *
 generalize M (ρ i') (κ j')=x at *
 have e4:sgn r*S+sgn r*(sgn r*x*δ)=0:=by rw [<- Int.mul_add,hb,Int.mul_zero]
 have e5:sgn r*(sgn r*x*δ)=x*δ:=by rw [<- Int.mul_assoc,<- Int.mul_assoc,sgn_sq,Int.one_mul]
 rw [e5,Int.mul_comm x δ] at e4
 rw [Int.neg_mul]
 omega
theorem Mnr.tk {n C r:Nat} {M:Nat->Nat->Int} {ρ κ:Nat->Nat} {δ:Int} (h:Mnr n C r M ρ κ δ):Tk n C δ M:=by
 intro v t z ht hv
 have hrow:∀ i,∃ c:Nat->Int,i<n->∀ j,j<C->δ*M i j=sumI r (fun k=>c k*M (ρ k) j):=fun i=>by
  by_cases hi:i<n
  · obtain ⟨c,hc⟩:=h.rows i hi;exact ⟨c,fun _=>hc⟩
  · exact ⟨fun _=>0,fun q=>absurd q hi⟩
 obtain ⟨c,hc⟩:∃ c:Nat->Nat->Int,∀ i,i<n->∀ j,j<C->δ*M i j=sumI r (fun k=>c i k*M (ρ k) j):=⟨fun i=>(hrow i).choose,fun i=>(hrow i).choose_spec⟩
 obtain ⟨B,hB⟩:∃ B:Nat->Int,B=fun k=>sumI n (fun i=>z i*c i k):=⟨_,rfl⟩
 have h1:∀ j,j<C->δ*t*v j=sumI r (fun k=>B k*M (ρ k) j):=by
  intro j hj
  have e1:δ*t*v j=sumI n (fun i=>z i*(δ*M i j)):=by
   rw [Int.mul_assoc,hv j hj,<- sumI_mul]
   exact sumI_congr (fun i _=>by rw [Int.mul_left_comm])
  rw [e1]
  have e2:sumI n (fun i=>z i*(δ*M i j))=sumI n (fun i=>sumI r (fun k=>z i*c i k*M (ρ k) j)):=sumI_congr (fun i hi=>by
   rw [hc i hi j hj,<- sumI_mul]
   exact sumI_congr (fun k _=>by rw [Int.mul_assoc]))
  rw [e2,sumI_swap]
  exact sumI_congr (fun k _=>by rw [sumI_mulr,hB])
 have hlen:(List.range' 0 r).length=r:=by simp
 obtain ⟨β,hβ⟩:∃ β:Nat->Int,β=fun k=>dt (List.range' 0 r) (fup (fun l j=>M (ρ l) (κ j)) k (fun j=>v (κ j))):=⟨_,rfl⟩
 have h2:∀ k,k<r->B k=t*β k:=by
  intro k hk
  have e1:=dt_mul (J:=List.range' 0 r) (f:=fun l j=>M (ρ l) (κ j)) (k:=k) (fun j=>v (κ j)) (δ*t) (by rw [hlen];exact hk)
  have e2:=dt_comb (J:=List.range' 0 r) (f:=fun l j=>M (ρ l) (κ j)) (k:=k) (by rw [hlen];exact hk) B
  rw [hlen] at e2
  have e3:dt (List.range' 0 r) (fup (fun l j=>M (ρ l) (κ j)) k (fun j=>δ*t*v (κ j)))=dt (List.range' 0 r) (fup (fun l j=>M (ρ l) (κ j)) k (fun j=>sumI r (fun l=>B l*M (ρ l) (κ j)))):=dt_congr (fun l hl j hj=>by
   unfold fup
   split
   · have hj':=List.mem_range'_1.1 hj
     exact h1 (κ j) (h.col.lt j (by have:=h.rC;omega))
   · rfl)
  rw [e1,e2,h.det] at e3
  have e4:δ*(t*β k)=δ*B k:=by
   rw [hβ,<- Int.mul_assoc,e3,Int.mul_comm]
  exact (Int.eq_of_mul_eq_mul_left h.ne e4).symm
 have h3:∀ j,j<C->δ*v j=sumI r (fun k=>β k*M (ρ k) j):=by
  intro j hj
  have e1:t*(δ*v j)=t*sumI r (fun k=>β k*M (ρ k) j):=by
   rw [<- sumI_mul,<- Int.mul_assoc,Int.mul_comm t δ,h1 j hj]
   exact sumI_congr (fun k hk=>by rw [h2 k hk,Int.mul_assoc])
  exact Int.eq_of_mul_eq_mul_left ht e1
 refine ⟨fun i=>sumI r (fun k=>if ρ k=i then β k else 0),fun j hj=>?_⟩
 rw [h3 j hj]
 have e1:sumI n (fun i=>sumI r (fun k=>if ρ k=i then β k else 0)*M i j)=sumI n (fun i=>sumI r (fun k=>(if ρ k=i then β k else 0)*M i j)):=sumI_congr (fun i _=>by rw [sumI_mulr])
 rw [e1,sumI_swap]
 refine sumI_congr (fun k hk=>?_)
 have hk':ρ k<n:=h.row.lt k (by have:=h.rn;omega)
 rw [sumI_single (f:=fun i=>(if ρ k=i then β k else 0)*M i j) hk' (fun l _ hne=>by
  show (if ρ k=l then β k else 0)*M l j=0
  rw [if_neg (fun e=>hne e.symm),Int.zero_mul])]
 rw [if_pos rfl]
def rAdd (a b:Nat) (c:Int) (M:Nat->Nat->Int):Nat->Nat->Int:=fun i j=>if i=a then M a j+c*M b j else M i j
def cAdd (a b:Nat) (c:Int) (M:Nat->Nat->Int):Nat->Nat->Int:=fun i j=>if j=a then M i a+c*M i b else M i j
structure ClP (n C:Nat) (P:(Nat->Nat->Int)->Prop):Prop where
 r:∀ M a b c,a<n->b<n->a≠b->P M->P (rAdd a b c M)
 c:∀ M a b c,a<C->b<C->a≠b->P M->P (cAdd a b c M)
def blkZ (n C k:Nat) (M:Nat->Nat->Int):Prop:=∀ i j,i<n->j<C->(i<k\/j<k)->i≠j->M i j=0
section
variable {n C k:Nat} {P:(Nat->Nat->Int)->Prop} {M:Nat->Nat->Int}
theorem blkZ.r (h:blkZ n C k M) {a b:Nat} (c:Int) (ha:a<n) (hb:b<n) (hka:k<=a) (hkb:k<=b):blkZ n C k (rAdd a b c M):=by
 intro i j hi hj hor hne
 unfold rAdd
 split
 · next e =>
   rw [h a j ha hj (by omega) (by omega),h b j hb hj (by omega) (by omega)];simp
 · exact h i j hi hj hor hne
theorem blkZ.c (h:blkZ n C k M) {a b:Nat} (c:Int) (ha:a<C) (hb:b<C) (hka:k<=a) (hkb:k<=b):blkZ n C k (cAdd a b c M):=by
 intro i j hi hj hor hne
 unfold cAdd
 split
 · next e =>
   rw [h i a hi ha (by omega) (by omega),h i b hi hb (by omega) (by omega)];simp
 · exact h i j hi hj hor hne
theorem swapRZ (hP:ClP n C P) (h:P M) (hb:blkZ n C k M) {a:Nat} (hk:k<n) (ha:a<n) (hka:k<=a):∃ M',P M'/\blkZ n C k M'/\∀ j,M' k j=M a j:=by
 by_cases e:a=k
 · exact ⟨M,h,hb,fun j=>by rw [e]⟩
 · have e':k≠a:=fun q=>e q.symm
   refine ⟨rAdd k a 1 (rAdd a k (-1) (rAdd k a 1 M)),hP.r _ _ _ _ hk ha e' (hP.r _ _ _ _ ha hk e (hP.r _ _ _ _ hk ha e' h)),((hb.r 1 hk ha (Nat.le_refl _) hka).r (-1) ha hk hka (Nat.le_refl _)).r 1 hk ha (Nat.le_refl _) hka,fun j=>?_⟩
   simp only [rAdd,if_pos,if_neg e,if_neg e']
   omega
theorem swapCZ (hP:ClP n C P) (h:P M) (hb:blkZ n C k M) {a:Nat} (hk:k<C) (ha:a<C) (hka:k<=a):∃ M',P M'/\blkZ n C k M'/\∀ i,M' i k=M i a:=by
 by_cases e:a=k
 · exact ⟨M,h,hb,fun j=>by rw [e]⟩
 · have e':k≠a:=fun q=>e q.symm
   refine ⟨cAdd k a 1 (cAdd a k (-1) (cAdd k a 1 M)),hP.c _ _ _ _ hk ha e' (hP.c _ _ _ _ ha hk e (hP.c _ _ _ _ hk ha e' h)),((hb.c 1 hk ha (Nat.le_refl _) hka).c (-1) ha hk hka (Nat.le_refl _)).c 1 hk ha (Nat.le_refl _) hka,fun j=>?_⟩
   simp only [cAdd,if_pos,if_neg e,if_neg e']
   omega
theorem clearC (hP:ClP n C P) (h:P M) (hb:blkZ n C k M) (hk:k<n) (hd:∀ i,k<i->i<n->M k k ∣ M i k):∃ M',P M'/\blkZ n C k M'/\(∀ j,M' k j=M k j)/\∀ i,k<i->i<n->M' i k=0:=by
 have key:∀ x,∃ M',P M'/\blkZ n C k M'/\(∀ j,M' k j=M k j)/\(∀ i,k<i->i<n->i<x->M' i k=0)/\(∀ i,x<=i->∀ j,M' i j=M i j):=by
  intro x
  induction x with
  | zero=>exact ⟨M,h,hb,fun _=>rfl,fun i _ _ q=>by omega,fun _ _ _=>rfl⟩
  | succ x ih =>
   obtain ⟨M',h1,h2,h3,h4,h5⟩:=ih
   by_cases hx:k<x/\x<n
   · obtain ⟨q,hq⟩:=hd x hx.1 hx.2
     refine ⟨rAdd x k (-q) M',hP.r _ _ _ _ hx.2 hk (by omega) h1,h2.r (-q) hx.2 hk (by omega) (Nat.le_refl _),fun j=>?_,fun i i1 i2 i3=>?_,fun i hi j=>?_⟩
     · unfold rAdd;rw [if_neg (by omega)];exact h3 j
     · unfold rAdd
       split
       · rw [h5 x (Nat.le_refl _) k,h3 k,hq,Int.neg_mul,Int.mul_comm q];omega
       · exact h4 i i1 i2 (by omega)
     · unfold rAdd;rw [if_neg (by omega)];exact h5 i (by omega) j
   · exact ⟨M',h1,h2,h3,fun i i1 i2 i3=>h4 i i1 i2 (by omega),fun i hi j=>h5 i (by omega) j⟩
 obtain ⟨M',h1,h2,h3,h4,_⟩:=key n
 exact ⟨M',h1,h2,h3,fun i i1 i2=>h4 i i1 i2 i2⟩
theorem clearR (hP:ClP n C P) (h:P M) (hb:blkZ n C k M) (hk:k<C) (hd:∀ j,k<j->j<C->M k k ∣ M k j):∃ M',P M'/\blkZ n C k M'/\(∀ i,M' i k=M i k)/\∀ j,k<j->j<C->M' k j=0:=by
 have key:∀ x,∃ M',P M'/\blkZ n C k M'/\(∀ i,M' i k=M i k)/\(∀ j,k<j->j<C->j<x->M' k j=0)/\(∀ j,x<=j->∀ i,M' i j=M i j):=by
  intro x
  induction x with
  | zero=>exact ⟨M,h,hb,fun _=>rfl,fun i _ _ q=>by omega,fun _ _ _=>rfl⟩
  | succ x ih =>
   obtain ⟨M',h1,h2,h3,h4,h5⟩:=ih
   by_cases hx:k<x/\x<C
   · obtain ⟨q,hq⟩:=hd x hx.1 hx.2
     refine ⟨cAdd x k (-q) M',hP.c _ _ _ _ hx.2 hk (by omega) h1,h2.c (-q) hx.2 hk (by omega) (Nat.le_refl _),fun i=>?_,fun j i1 i2 i3=>?_,fun j hj i=>?_⟩
     · unfold cAdd;rw [if_neg (by omega)];exact h3 i
     · unfold cAdd
       split
       · rw [h5 x (Nat.le_refl _) k,h3 k,hq,Int.neg_mul,Int.mul_comm q];omega
       · exact h4 j i1 i2 (by omega)
     · unfold cAdd;rw [if_neg (by omega)];exact h5 j (by omega) i
   · exact ⟨M',h1,h2,h3,fun i i1 i2 i3=>h4 i i1 i2 (by omega),fun i hi j=>h5 i (by omega) j⟩
 obtain ⟨M',h1,h2,h3,h4,_⟩:=key C
 exact ⟨M',h1,h2,h3,fun i i1 i2=>h4 i i1 i2 i2⟩
end
theorem rem_small {a e:Int} (he:e≠0) (hd:¬ e ∣ a):a + -(a/e)*e≠0/\(a + -(a/e)*e).natAbs<e.natAbs:=by
 have h1:a + -(a/e)*e=a%e:=by rw [Int.emod_def,Int.neg_mul,Int.mul_comm (a/e)];omega
 rw [h1]
 have h2:=Int.emod_nonneg a he
 have h3:=Int.emod_lt a he
 refine ⟨fun q=>hd (Int.dvd_of_emod_eq_zero q),?_⟩
 omega
theorem stepZ {n C k:Nat} {P:(Nat->Nat->Int)->Prop} (hP:ClP n C P) (hk:k<n) (hkC:k<C):∀ (μ:Nat) (M:Nat->Nat->Int),P M->blkZ n C k M->(∃ a b,k<=a/\a<n/\k<=b/\b<C/\M a b≠0/\(M a b).natAbs<=μ)->∃ M',P M'/\blkZ n C (k+1) M'
 | 0,M,_,_,⟨a,b,_,_,_,_,h1,h2⟩=>by omega
 | μ+1,M,h,hb,⟨a,b,ha1,ha2,hb1,hb2,hne,hle⟩=>by
  obtain ⟨M1,p1,k1,e1⟩:=swapRZ hP h hb hk ha2 ha1
  obtain ⟨M2,p2,k2,e2⟩:=swapCZ hP p1 k1 hkC hb2 hb1
  have he:M2 k k=M a b:=by rw [e2,e1]
  rw [<- he] at hne hle
  by_cases q1:∀ i,k<i->i<n->M2 k k ∣ M2 i k
  · obtain ⟨M3,p3,k3,e3,z3⟩:=clearC hP p2 k2 hk q1
    by_cases q2:∀ j,k<j->j<C->M3 k k ∣ M3 k j
    · obtain ⟨M4,p4,k4,e4,z4⟩:=clearR hP p3 k3 hkC q2
      refine ⟨M4,p4,fun i j hi hj hor hij=>?_⟩
      by_cases w:i<k\/j<k
      · exact k4 i j hi hj w hij
      · by_cases w2:i=k
        · subst w2;exact z4 j (by omega) hj
        · have w3:j=k:=by omega
          subst w3
          rw [e4];exact z3 i (by omega) hi
    · have ⟨j,hj⟩:=Classical.not_forall.1 q2
      have ⟨j1,hj'⟩:=Classical.not_imp.1 hj
      have ⟨j2,hnd⟩:=Classical.not_imp.1 hj'
      rw [e3 k] at hnd
      obtain ⟨r1,r2⟩:=rem_small hne hnd
      refine stepZ hP hk hkC μ (cAdd j k (-(M3 k j/M2 k k)) M3) (hP.c _ _ _ _ j2 hkC (by omega) p3) (k3.c _ j2 hkC (by omega) (Nat.le_refl _)) ⟨k,j,Nat.le_refl _,hk,by omega,j2,?_,?_⟩
      · simp only [cAdd,if_pos];rw [e3 k];exact r1
      · simp only [cAdd,if_pos];rw [e3 k];omega
  · have ⟨i,hi⟩:=Classical.not_forall.1 q1
    have ⟨i1,hi'⟩:=Classical.not_imp.1 hi
    have ⟨i2,hnd⟩:=Classical.not_imp.1 hi'
    obtain ⟨r1,r2⟩:=rem_small hne hnd
    refine stepZ hP hk hkC μ (rAdd i k (-(M2 i k/M2 k k)) M2) (hP.r _ _ _ _ i2 hk (by omega) p2) (k2.r _ i2 hk (by omega) (Nat.le_refl _)) ⟨i,k,by omega,i2,Nat.le_refl _,hkC,?_,?_⟩
    · simp only [rAdd,if_pos];exact r1
    · simp only [rAdd,if_pos];omega
theorem diagZ {n C:Nat} {P:(Nat->Nat->Int)->Prop} {M:Nat->Nat->Int} (hP:ClP n C P) (h:P M):∃ M',P M'/\∀ i j,i<n->j<C->i≠j->M' i j=0:=by
 have key:∀ k,k<=n->k<=C->∃ M',P M'/\blkZ n C k M':=by
  intro k
  induction k with
  | zero=>intro _ _;exact ⟨M,h,fun i j _ _ q=>by omega⟩
  | succ k ih =>
   intro h1 h2
   obtain ⟨M',p,b⟩:=ih (by omega) (by omega)
   by_cases q:∃ a b,k<=a/\a<n/\k<=b/\b<C/\M' a b≠0
   · obtain ⟨a,b',a1,a2,b1,b2,hne⟩:=q
     exact stepZ hP (by omega) (by omega) (M' a b').natAbs M' p b ⟨a,b',a1,a2,b1,b2,hne,Nat.le_refl _⟩
   · refine ⟨M',p,fun i j hi hj hor hij=>?_⟩
     by_cases w:i<k\/j<k
     · exact b i j hi hj w hij
     · by_cases z:M' i j=0
       · exact z
       · exact absurd ⟨i,j,by omega,hi,by omega,hj,z⟩ q
 rcases Nat.le_total n C with w|w
 · obtain ⟨M',p,b⟩:=key n (Nat.le_refl _) w
   exact ⟨M',p,fun i j hi hj hij=>b i j hi hj (Or.inl hi) hij⟩
 · obtain ⟨M',p,b⟩:=key C w (Nat.le_refl _)
   exact ⟨M',p,fun i j hi hj hij=>b i j hi hj (Or.inr hj) hij⟩
def dg (e t j:Nat):Nat:=t/e ^ j%e
def enc (e:Nat) (x:Nat->Nat):Nat->Nat
 | 0=>0
 | c+1=>enc e x c+x c*e ^ c
theorem enc_lt {e:Nat} {x:Nat->Nat} (he:0<e):∀ {c:Nat},(∀ j,j<c->x j<e)->enc e x c<e ^ c
 | 0,_=>by simp [enc]
 | c+1,h=>by
  have h1:=enc_lt he (c:=c) (fun j hj=>h j (by omega))
  have h2:=h c (by omega)
  rw [enc,Nat.pow_succ]
  have h3:(x c+1)*e ^ c<=e*e ^ c:=Nat.mul_le_mul_right _ h2
  rw [Nat.add_mul,Nat.one_mul,Nat.mul_comm e] at h3
  omega
theorem dg_enc {e:Nat} {x:Nat->Nat} (he:0<e):∀ {c j:Nat},(∀ j,j<c->x j<e)->j<c->dg e (enc e x c) j=x j
 | 0,j,_,hj=>by omega
 | c+1,j,h,hj=>by
  have hl:=enc_lt he (c:=c) (fun j hj=>h j (by omega))
  have hp:0<e ^ j:=Nat.pow_pos he
  unfold dg
  rw [enc]
  by_cases q:j=c
  · subst q
    rw [Nat.add_mul_div_right _ _ hp,Nat.div_eq_of_lt hl,Nat.zero_add,Nat.mod_eq_of_lt (h j (by omega))]
  · have e1:x c*e ^ c=x c*e ^ (c-j-1)*e*e ^ j:=by
     rw [Nat.mul_assoc,Nat.mul_assoc,<- Nat.pow_succ',<- Nat.pow_add]
     congr 2;omega
    rw [e1,Nat.add_mul_div_right _ _ hp,Nat.add_mul_mod_self_right]
    exact dg_enc he (fun j hj=>h j (by omega)) (by omega)
theorem enc_dg (e t:Nat):∀ c,enc e (dg e t) c=t%e ^ c
 | 0=>by simp [enc,Nat.mod_one]
 | c+1=>by
  rw [enc,enc_dg e t c,Nat.mod_pow_succ,Nat.mul_comm (e ^ c)];rfl
theorem dg_lt {e:Nat} (he:0<e) (t j:Nat):dg e t j<e:=Nat.mod_lt _ he
def cntV (e C:Nat) (p:(Nat->Nat)->Bool):Nat:=((List.range (e ^ C)).filter (fun t=>p (dg e t))).length
theorem len_le_of_sub:∀ (l k:List Nat),l.Nodup->(∀ x∈l,x∈k)->l.length<=k.length
 | [],k,_,_=>by simp
 | a :: l,k,hd,h=>by
  have hd':=List.nodup_cons.1 hd
  have ha:=h a (by simp)
  have h1:=len_le_of_sub l (k.erase a) hd'.2 (fun x hx=>by
   have hne:x≠a:=fun e=>hd'.1 (e ▸ hx)
   exact (List.mem_erase_of_ne hne).2 (h x (by simp [hx])))
  rw [List.length_erase_of_mem ha] at h1
  have:0<k.length:=List.length_pos_of_mem ha
  simp only [List.length_cons]
  omega
def Loc (C:Nat) (p:(Nat->Nat)->Bool):Prop:=∀ x y:Nat->Nat,(∀ j,j<C->x j=y j)->p x=p y
theorem cntV_le {e C:Nat} {p q:(Nat->Nat)->Bool} (he:0<e) (hq:Loc C q) (φ:(Nat->Nat)->Nat->Nat) (h1:∀ x,(∀ j,j<C->x j<e)->p x=true->q (φ x)=true/\∀ j,j<C->φ x j<e)
 (h2:∀ x y,(∀ j,j<C->x j<e)->(∀ j,j<C->y j<e)->(∀ j,j<C->φ x j=φ y j)->∀ j,j<C->x j=y j):cntV e C p<=cntV e C q:=by
 unfold cntV
 have hsub:∀ z∈((List.range (e ^ C)).filter (fun t=>p (dg e t))).map (fun t=>enc e (φ (dg e t)) C),z∈(List.range (e ^ C)).filter (fun t=>q (dg e t)):=by
  intro z hz
  obtain ⟨t,ht,rfl⟩:=List.mem_map.1 hz
  obtain ⟨ht1,ht2⟩:=List.mem_filter.1 ht
  obtain ⟨a,b⟩:=h1 (dg e t) (fun j _=>dg_lt he t j) ht2
  refine List.mem_filter.2 ⟨List.mem_range.2 (enc_lt he b),?_⟩
  rw [hq (dg e (enc e (φ (dg e t)) C)) (φ (dg e t)) (fun j hj=>dg_enc he b hj)]
  exact a
 have hnd:(((List.range (e ^ C)).filter (fun t=>p (dg e t))).map (fun t=>enc e (φ (dg e t)) C)).Nodup:=by
  rw [List.Nodup,List.pairwise_map]
  refine ((List.nodup_range (n:=e ^ C)).filter _).imp_of_mem (fun {s t} hs ht hne he'=>hne ?_)
  obtain ⟨hs1,hs2⟩:=List.mem_filter.1 hs
  obtain ⟨ht1,ht2⟩:=List.mem_filter.1 ht
  have hs3:=(h1 (dg e s) (fun j _=>dg_lt he s j) hs2).2
  have ht3:=(h1 (dg e t) (fun j _=>dg_lt he t j) ht2).2
  have h3:=h2 (dg e s) (dg e t) (fun j _=>dg_lt he s j) (fun j _=>dg_lt he t j) (fun j hj=>by
   rw [<- dg_enc he hs3 hj,<- dg_enc he ht3 hj,he'])
  have h4:∀ c,c<=C->enc e (dg e s) c=enc e (dg e t) c:=by
   intro c
   induction c with
   | zero=>intro _;rfl
   | succ c ih=>intro hc;rw [enc,enc,ih (by omega),h3 c (by omega)]
  have h5:=h4 C (Nat.le_refl _)
  rw [enc_dg,enc_dg,Nat.mod_eq_of_lt (List.mem_range.1 hs1),Nat.mod_eq_of_lt (List.mem_range.1 ht1)] at h5
  exact h5
 have:=len_le_of_sub _ _ hnd hsub
 rwa [List.length_map] at this
theorem cntV_congr {e C:Nat} {p q:(Nat->Nat)->Bool} (h:∀ x,p x=q x):cntV e C p=cntV e C q:=by
 have:p=q:=funext h
 rw [this]
def solB (n C:Nat) (M:Nat->Nat->Int) (e:Nat) (x:Nat->Nat):Bool:=(List.range n).all fun i=>decide ((e:Int) ∣ sumI C (fun j=>M i j*(x j:Int)))
theorem solB_true {n C e:Nat} {M:Nat->Nat->Int} {x:Nat->Nat}:solB n C M e x=true ↔ ∀ i,i<n->(e:Int) ∣ sumI C (fun j=>M i j*(x j:Int)):=by
 unfold solB
 rw [List.all_eq_true]
 exact ⟨fun h i hi=>of_decide_eq_true (h i (List.mem_range.2 hi)),fun h i hi=>decide_eq_true (h i (List.mem_range.1 hi))⟩
theorem solB_loc (n C:Nat) (M:Nat->Nat->Int) (e:Nat):Loc C (solB n C M e):=by
 intro x y h
 unfold solB
 congr 1
 funext i
 rw [sumI_congr (f:=fun j=>M i j*(x j:Int)) (g:=fun j=>M i j*(y j:Int)) (fun j hj=>by rw [h j hj])]
def nSol (n C:Nat) (M:Nat->Nat->Int) (e:Nat):Nat:=cntV e C (solB n C M e)
theorem nSol_row {n C:Nat} {M:Nat->Nat->Int} {e a b:Nat} (c:Int) (ha:a<n) (hb:b<n) (hab:a≠b):nSol n C (rAdd a b c M) e=nSol n C M e:=by
 refine cntV_congr (fun x=>?_)
 rw [Bool.eq_iff_iff,solB_true,solB_true]
 have e1:∀ i,i≠a->sumI C (fun j=>rAdd a b c M i j*(x j:Int))=sumI C (fun j=>M i j*(x j:Int)):=fun i hi=>sumI_congr (fun j _=>by unfold rAdd;rw [if_neg hi])
 have e2:sumI C (fun j=>rAdd a b c M a j*(x j:Int))=sumI C (fun j=>M a j*(x j:Int))+c*sumI C (fun j=>M b j*(x j:Int)):=by
  rw [<- sumI_add]
  exact sumI_congr (fun j _=>by unfold rAdd;rw [if_pos rfl,Int.add_mul,Int.mul_assoc])
 constructor
 · intro h i hi
   by_cases q:i=a
   · subst q
     have h1:=h i hi
     have h2:=h b hb
     rw [e1 b (fun z=>hab z.symm)] at h2
     rw [e2] at h1
     have:=Int.dvd_sub h1 (Int.dvd_trans h2 (Int.dvd_mul_left c _))
     rwa [Int.add_sub_cancel] at this
   · rw [<- e1 i q];exact h i hi
 · intro h i hi
   by_cases q:i=a
   · subst q
     rw [e2]
     exact Int.dvd_add (h i hi) (Int.dvd_trans (h b hb) (Int.dvd_mul_left c _))
   · rw [e1 i q];exact h i hi
theorem nSol_col_le {n C:Nat} {M:Nat->Nat->Int} {e a b:Nat} (he:0<e) (c:Int) (ha:a<C) (hb:b<C) (hab:a≠b):nSol n C (cAdd a b c M) e<=nSol n C M e:=by
 have hmod:∀ x:Nat->Nat,(e:Int) ∣ ((((x b:Int)+c*(x a:Int))%(e:Int)).toNat:Int)-((x b:Int)+c*(x a:Int)):=by
  intro x
  have h0:=Int.emod_nonneg ((x b:Int)+c*(x a:Int)) (show (e:Int)≠0 by omega)
  rw [Int.toNat_of_nonneg h0,Int.emod_def]
  exact ⟨-(((x b:Int)+c*(x a:Int))/(e:Int)),by rw [Int.mul_neg];omega⟩
 refine cntV_le he (solB_loc n C M e) (fun x j=>if j=b then (((x b:Int)+c*(x a:Int))%(e:Int)).toNat else x j) (fun x hx hs=>⟨?_,fun j hj=>?_⟩) (fun x y hx hy h j hj=>?_)
 · rw [solB_true] at hs ⊢
   intro i hi
   have h1:=hs i hi
   have e1:=sumI_one (f:=fun j=>cAdd a b c M i j*(x j:Int)) (g:=fun j=>M i j*(x j:Int)) ha (fun l _ hne=>by
    show cAdd a b c M i l*(x l:Int)=M i l*(x l:Int)
    unfold cAdd;rw [if_neg hne])
   have e2:=sumI_one (f:=fun j=>M i j*((if j=b then (((x b:Int)+c*(x a:Int))%(e:Int)).toNat else x j:Nat):Int)) (g:=fun j=>M i j*(x j:Int)) hb (fun l _ hne=>by
    show M i l*((if l=b then (((x b:Int)+c*(x a:Int))%(e:Int)).toNat else x l:Nat):Int)=M i l*(x l:Int)
    rw [if_neg hne])
   simp only [cAdd,if_pos] at e1
   simp only [cAdd] at h1
   simp only [if_pos] at e2
   rw [e2]
   rw [e1] at h1
   obtain ⟨q,hq⟩:=hmod x
   generalize ((((x b:Int)+c*(x a:Int))%(e:Int)).toNat:Int)=X at *
   generalize sumI C (fun j=>M i j*(x j:Int))=S at *
   have e3:S+(M i b*X-M i b*(x b:Int))=(S+((M i a+c*M i b)*(x a:Int)-M i a*(x a:Int)))+(e:Int)*(M i b*q):=by
    have e4:X=(x b:Int)+c*(x a:Int)+(e:Int)*q:=by omega
    rw [e4,Int.mul_add,Int.mul_add,Int.add_mul,Int.mul_left_comm (M i b) (e:Int) q,<- Int.mul_assoc (M i b) c,Int.mul_comm (M i b) c]
    omega
   rw [e3]
   exact Int.dvd_add h1 (Int.dvd_mul_right _ _)
 · show (if j=b then _ else x j)<e
   split
   · have h0:=Int.emod_nonneg ((x b:Int)+c*(x a:Int)) (show (e:Int)≠0 by omega)
     have h1:=Int.emod_lt_of_pos ((x b:Int)+c*(x a:Int)) (show (0:Int)<(e:Int) by omega)
     omega
   · exact hx j hj
 · have hA:=h a ha
   rw [if_neg hab,if_neg hab] at hA
   by_cases q:j=b
   · subst q
     have hB:=h j hj
     rw [if_pos rfl,if_pos rfl] at hB
     obtain ⟨q1,hq1⟩:=hmod x
     obtain ⟨q2,hq2⟩:=hmod y
     rw [hB] at hq1
     rw [hA] at hq1
     have h5:(e:Int) ∣ (x j:Int)-(y j:Int):=⟨q2-q1,by rw [Int.mul_sub];omega⟩
     have:=hx j hj
     have:=hy j hj
     have:=mod_small h5 (by omega)
     omega
   · have:=h j hj
     rwa [if_neg q,if_neg q] at this
theorem cAdd_back {a b:Nat} (hab:a≠b) (c:Int) (M:Nat->Nat->Int):cAdd a b (-c) (cAdd a b c M)=M:=by
 funext i j
 unfold cAdd
 by_cases q:j=a
 · rw [if_pos q,if_pos rfl,if_neg (fun z=>hab z.symm),q,Int.neg_mul];omega
 · rw [if_neg q,if_neg q]
theorem nSol_col {n C:Nat} {M:Nat->Nat->Int} {e a b:Nat} (he:0<e) (c:Int) (ha:a<C) (hb:b<C) (hab:a≠b):nSol n C (cAdd a b c M) e=nSol n C M e:=by
 apply Nat.le_antisymm (nSol_col_le he c ha hb hab)
 have:=nSol_col_le (n:=n) (M:=cAdd a b c M) he (-c) ha hb hab
 rwa [cAdd_back hab] at this
theorem comb_row {n:Nat} {M:Nat->Nat->Int} {a b:Nat} (c:Int) (ha:a<n) (hb:b<n) (hab:a≠b) (z:Nat->Int) (j:Nat) :
 sumI n (fun i=>z i*rAdd a b c M i j)=sumI n (fun i=>(if i=b then z b+c*z a else z i)*M i j):=by
 have e:=sumI_two (f:=fun i=>z i*rAdd a b c M i j) (g:=fun i=>(if i=b then z b+c*z a else z i)*M i j) ha hb hab (fun l _ h1 h2=>by
  show z l*rAdd a b c M l j=(if l=b then z b+c*z a else z l)*M l j
  unfold rAdd;rw [if_neg h1,if_neg h2])
 simp only [rAdd,if_pos,if_neg hab,if_neg (fun q:b=a=>hab q.symm)] at e
 have e2:z a*(M a j+c*M b j)-z a*M a j+(z b*M b j-(z b+c*z a)*M b j)=0:=by
  rw [Int.mul_add,Int.add_mul,<- Int.mul_assoc,Int.mul_comm (z a) c];omega
 have e3:sumI n (fun i=>z i*rAdd a b c M i j)=sumI n (fun i=>z i*if i=a then M a j+c*M b j else M i j):=rfl
 rw [e3,e];omega
theorem Tk.r {n C:Nat} {δ:Int} {M:Nat->Nat->Int} (h:Tk n C δ M) {a b:Nat} (c:Int) (ha:a<n) (hb:b<n) (hab:a≠b):Tk n C δ (rAdd a b c M):=by
 intro v t z ht hv
 obtain ⟨w,hw⟩:=h v t (fun i=>if i=b then z b+c*z a else z i) ht (fun j hj=>by rw [hv j hj,comb_row c ha hb hab])
 refine ⟨fun i=>if i=b then w b-c*w a else w i,fun j hj=>?_⟩
 rw [hw j hj,comb_row c ha hb hab]
 refine sumI_congr (fun i _=>?_)
 by_cases q:i=b
 · subst q
   rw [if_pos rfl,if_pos rfl,if_neg hab]
   congr 1;omega
 · rw [if_neg q,if_neg q]
theorem comb_col {n:Nat} {M:Nat->Nat->Int} {a b:Nat} (c:Int) (z:Nat->Int) (j:Nat) :
 sumI n (fun i=>z i*cAdd a b c M i j)=if j=a then sumI n (fun i=>z i*M i a)+c*sumI n (fun i=>z i*M i b) else sumI n (fun i=>z i*M i j):=by
 unfold cAdd
 split
 · rw [<- sumI_add]
   exact sumI_congr (fun i _=>by rw [Int.mul_add,Int.mul_left_comm])
 · rfl
theorem Tk.c {n C:Nat} {δ:Int} {M:Nat->Nat->Int} (h:Tk n C δ M) {a b:Nat} (c:Int) (ha:a<C) (hb:b<C) (hab:a≠b):Tk n C δ (cAdd a b c M):=by
 intro v t z ht hv
 obtain ⟨w,hw⟩:=h (fun j=>if j=a then v a-c*v b else v j) t z ht (fun j hj=>by
  show t*(if j=a then v a-c*v b else v j)=_
  by_cases q:j=a
  · subst q
    have h1:=hv j hj
    have h2:=hv b hb
    rw [comb_col,if_pos rfl] at h1
    rw [comb_col,if_neg (fun z=>hab z.symm)] at h2
    rw [if_pos rfl,Int.mul_sub,h1,Int.mul_left_comm,h2];omega
  · have h1:=hv j hj
    rw [comb_col,if_neg q] at h1
    rw [if_neg q];exact h1)
 refine ⟨w,fun j hj=>?_⟩
 rw [comb_col]
 by_cases q:j=a
 · subst q
   have h1:=hw j hj
   have h2:=hw b hb
   rw [if_pos rfl] at h1
   rw [if_neg (fun z=>hab z.symm)] at h2
   rw [if_pos rfl,<- h1,<- h2,Int.mul_sub,Int.mul_left_comm];omega
 · have h1:=hw j hj
   rw [if_neg q] at h1
   rw [if_neg q];exact h1
theorem diag_ex {n C:Nat} {δ:Int} {M:Nat->Nat->Int} (h:Tk n C δ M):∃ M':Nat->Nat->Int,(∀ e,0<e->nSol n C M' e=nSol n C M e)/\(∀ i j,i<n->j<C->i≠j->M' i j=0)/\∀ i,i<n->i<C->M' i i=0\/M' i i ∣ δ:=by
 obtain ⟨M',⟨p1,p2⟩,hz⟩:=diagZ (n:=n) (C:=C) (P:=fun X=>(∀ e,0<e->nSol n C X e=nSol n C M e)/\Tk n C δ X) (M:=M)
  ⟨fun X a b c ha hb hab hX=>⟨fun e he=>by rw [nSol_row c ha hb hab];exact hX.1 e he,hX.2.r c ha hb hab⟩,
   fun X a b c ha hb hab hX=>⟨fun e he=>by rw [nSol_col he c ha hb hab];exact hX.1 e he,hX.2.c c ha hb hab⟩⟩ ⟨fun _ _=>rfl,h⟩
 refine ⟨M',p1,hz,fun i hi hiC=>?_⟩
 by_cases q:M' i i=0
 · exact Or.inl q
 · right
   obtain ⟨w,hw⟩:=p2 (fun j=>if j=i then 1 else 0) (M' i i) (fun l=>if l=i then 1 else 0) q (fun j hj=>by
    rw [sumI_single (f:=fun l=>(if l=i then (1:Int) else 0)*M' l j) hi (fun l _ hne=>by
     show (if l=i then (1:Int) else 0)*M' l j=0
     rw [if_neg hne,Int.zero_mul])]
    rw [if_pos rfl,Int.one_mul]
    by_cases e:j=i
    · rw [if_pos e,e,Int.mul_one]
    · rw [if_neg e,Int.mul_zero,hz i j hi hj (fun z=>e z.symm)])
   have h1:=hw i hiC
   rw [if_pos rfl,Int.mul_one,sumI_single (f:=fun l=>w l*M' l i) hi (fun l hl hne=>by
    show w l*M' l i=0
    rw [hz l i hl hiC hne,Int.mul_zero])] at h1
   exact ⟨w i,by rw [h1,Int.mul_comm]⟩
def cN:Nat->(Nat->Bool)->Nat
 | 0,_=>0
 | n+1,p=>cN n p+if p n=true then 1 else 0
theorem cN_filter (p:Nat->Bool):∀ n,((List.range n).filter p).length=cN n p
 | 0=>rfl
 | n+1=>by
  rw [List.range_succ,List.filter_append,List.length_append,cN_filter p n,cN]
  by_cases h:p n=true
  · simp [h]
  · simp [h]
theorem cN_congr {n:Nat} {p q:Nat->Bool} (h:∀ t,t<n->p t=q t):cN n p=cN n q:=by
 induction n with
 | zero=>rfl
 | succ n ih=>rw [cN,cN,ih (fun t ht=>h t (by omega)),h n (by omega)]
theorem cN_add (n a:Nat) (p:Nat->Bool):cN (n+a) p=cN n p+cN a (fun t=>p (n+t)):=by
 induction a with
 | zero=>simp [cN]
 | succ a ih=>rw [<- Nat.add_assoc,cN,ih,cN];omega
theorem cN_true (n:Nat):cN n (fun _=>true)=n:=by
 induction n with
 | zero=>rfl
 | succ n ih=>rw [cN,ih];rfl
theorem cN_false (n:Nat):cN n (fun _=>false)=0:=by
 induction n with
 | zero=>rfl
 | succ n ih=>rw [cN,ih];rfl
theorem cN_mul {a:Nat} (ha:0<a) (b:Nat) (p q:Nat->Bool):cN (a*b) (fun t=>p (t%a) && q (t/a))=cN a p*cN b q:=by
 induction b with
 | zero=>simp [cN]
 | succ b ih =>
  rw [Nat.mul_succ,cN_add,ih,cN,Nat.mul_add]
  congr 1
  have e:cN a (fun t=>p ((a*b+t)%a) && q ((a*b+t)/a))=cN a (fun t=>p t && q b):=cN_congr (fun t ht=>by
   rw [Nat.mul_add_mod,Nat.mod_eq_of_lt ht,Nat.mul_add_div ha,Nat.div_eq_of_lt ht,Nat.add_zero])
  rw [e]
  by_cases h:q b=true
  · rw [if_pos h,Nat.mul_one,h]
    exact cN_congr (fun t _=>by simp)
  · have h':q b=false:=by simpa using h
    rw [if_neg h,Nat.mul_zero,h',cN_congr (q:=fun _=>false) (fun t _=>by simp)]
    exact cN_false a
theorem cN_one {a:Nat} (ha:0<a):cN a (fun t=>decide (t=0))=1:=by
 obtain ⟨b,rfl⟩:∃ b,a=b+1:=⟨a-1,by omega⟩
 induction b with
 | zero=>rfl
 | succ b ih=>rw [cN,ih (by omega)];simp
theorem cN_gcd (s:Int) {e:Nat} (he:0<e):cN e (fun x=>decide ((e:Int) ∣ s*(x:Int)))=Nat.gcd s.natAbs e:=by
 obtain ⟨g,hg⟩:∃ g,g=Nat.gcd s.natAbs e:=⟨_,rfl⟩
 have hg0:0<g:=by rw [hg];exact Nat.gcd_pos_of_pos_right _ he
 obtain ⟨d,hd⟩:g ∣ e:=by rw [hg];exact Nat.gcd_dvd_right _ _
 obtain ⟨u,hu⟩:g ∣ s.natAbs:=by rw [hg];exact Nat.gcd_dvd_left _ _
 have hd0:0<d:=by
  rcases Nat.eq_zero_or_pos d with z|z
  · rw [z,Nat.mul_zero] at hd;omega
  · exact z
 have hco:Nat.gcd u d=1:=by
  have h1:Nat.gcd (g*u) (g*d)=g:=by rw [<- hu,<- hd];exact hg.symm
  rw [Nat.gcd_mul_left] at h1
  exact Nat.eq_of_mul_eq_mul_left hg0 (by rw [h1,Nat.mul_one])
 rw [<- hg]
 have e1:cN e (fun x=>decide ((e:Int) ∣ s*(x:Int)))=cN (d*g) (fun t=>(fun t=>decide (t=0)) (t%d) && (fun _=>true) (t/d)):=by
  rw [show d*g=e by rw [hd,Nat.mul_comm]]
  refine cN_congr (fun t _=>?_)
  simp only [Bool.and_true]
  rw [decide_eq_decide]
  rw [Int.ofNat_dvd_left,Int.natAbs_mul,Int.natAbs_natCast,hu]
  constructor
  · intro h
    rw [hd,Nat.mul_assoc] at h
    have h2:=Nat.dvd_of_mul_dvd_mul_left hg0 h
    exact Nat.mod_eq_zero_of_dvd (Nat.Coprime.dvd_of_dvd_mul_left (Nat.coprime_comm.1 hco) h2)
  · intro h
    obtain ⟨w,hw⟩:=Nat.dvd_of_mod_eq_zero h
    refine ⟨u*w,?_⟩
    rw [hd,hw,Nat.mul_assoc,Nat.mul_assoc]
    congr 1
    rw [Nat.mul_left_comm]
 rw [e1,cN_mul hd0 g (fun t=>decide (t=0)) (fun _=>true),cN_one hd0,cN_true,Nat.one_mul]
theorem dg_mod {e t:Nat} {j C:Nat} (h:j<C):dg e (t%e ^ C) j=dg e t j:=by
 unfold dg
 obtain ⟨k,rfl⟩:∃ k,C=j+1+k:=⟨C-(j+1),by omega⟩
 have e1:e ^ (j+1+k)=e ^ j*(e*e ^ k):=by rw [Nat.pow_add,Nat.pow_succ,Nat.mul_assoc]
 rw [e1,Nat.mod_mul_right_div_self,Nat.mod_mul_right_mod]
theorem cntV_prod {e:Nat} (he:0<e) (P:Nat->Nat->Bool):∀ C,cntV e C (fun x=>(List.range C).all fun j=>P j (x j))=prodN C (fun j=>cN e (P j))
 | 0=>by simp [cntV,prodN]
 | C+1=>by
  have ih:=cntV_prod he P C
  unfold cntV at ih ⊢
  rw [cN_filter] at ih ⊢
  rw [prodN,<- ih,Nat.pow_succ,<- cN_mul (Nat.pow_pos he) e (fun t=>(List.range C).all fun j=>P j (dg e t j)) (P C)]
  refine cN_congr (fun t ht=>?_)
  show ((List.range (C+1)).all fun j=>P j (dg e t j))=_
  rw [List.range_succ,List.all_append]
  have h1:(List.range C).all (fun j=>P j (dg e t j))=(List.range C).all (fun j=>P j (dg e (t%e ^ C) j)):=by
   rw [Bool.eq_iff_iff,List.all_eq_true,List.all_eq_true]
   constructor
   · intro h j hj;rw [dg_mod (List.mem_range.1 hj)];exact h j hj
   · intro h j hj;have:=h j hj;rwa [dg_mod (List.mem_range.1 hj)] at this
  have h2:dg e t C=t/e ^ C:=by
   unfold dg
   exact Nat.mod_eq_of_lt ((Nat.div_lt_iff_lt_mul (Nat.pow_pos he)).2 (by rw [Nat.mul_comm];exact ht))
  rw [h1]
  simp only [List.all_cons,List.all_nil,Bool.and_true,h2]
def fct (n:Nat) (M:Nat->Nat->Int) (e j:Nat):Nat:=if j<n then Nat.gcd (M j j).natAbs e else e
theorem nSol_diag {n C:Nat} {M:Nat->Nat->Int} {e:Nat} (he:0<e) (hz:∀ i j,i<n->j<C->i≠j->M i j=0):nSol n C M e=prodN C (fct n M e):=by
 have h1:nSol n C M e=cntV e C (fun x=>(List.range C).all fun j=>(fun (j y:Nat)=>if j<n then decide ((e:Int) ∣ M j j*(y:Int)) else true) j (x j)):=by
  refine cntV_congr (fun x=>?_)
  rw [Bool.eq_iff_iff,solB_true,List.all_eq_true]
  constructor
  · intro h j hj
    have hj':=List.mem_range.1 hj
    simp only
    split
    · next q =>
      have:=h j q
      rw [sumI_single (f:=fun l=>M j l*(x l:Int)) hj' (fun l hl hne=>by
       show M j l*(x l:Int)=0
       rw [hz j l q hl (fun w=>hne w.symm),Int.zero_mul])] at this
      exact decide_eq_true this
    · rfl
  · intro h i hi
    rcases Nat.lt_or_ge i C with q|q
    · have h2:=h i (List.mem_range.2 q)
      simp only [if_pos hi] at h2
      rw [sumI_single (f:=fun l=>M i l*(x l:Int)) q (fun l hl hne=>by
       show M i l*(x l:Int)=0
       rw [hz i l hi hl (fun w=>hne w.symm),Int.zero_mul])]
      exact of_decide_eq_true h2
    · rw [sumI_congr (g:=fun _=>0) (fun l hl=>by rw [hz i l hi hl (by omega),Int.zero_mul]),sumI_zero]
      exact Int.dvd_zero _
 rw [h1,cntV_prod he (fun (j y:Nat)=>if j<n then decide ((e:Int) ∣ M j j*(y:Int)) else true)]
 refine prodN_congr (fun j _=>?_)
 unfold fct
 split
 · next q =>
   rw [<- cN_gcd (M j j) he]
   first|done|exact cN_congr (fun t _=>by simp only [if_pos q])
 · next q =>
   rw [cN_congr (q:=fun _=>true) (fun t _=>by simp only),cN_true]
end Go.Proofs.Ytfnmeigpfmeomaa
