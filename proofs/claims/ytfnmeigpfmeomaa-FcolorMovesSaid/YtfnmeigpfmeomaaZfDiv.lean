/- math/bits.Div64, math/bits.Rem64: the walk. -/
import Derived.Test.YtfnmeigpfmeomaaZfTab
import Derived.Test.YtfnmeigpfmeomaaZfShelf
import Derived.Laws.Bits64b
import Derived.Outline
import Derived.Deep.CutBlock
import Derived.Deep.LoopGhost
namespace Go.Proofs.Ytfnmeigpfmeomaa
open Go.RowKit
set_option linter.unusedVariables false
set_option maxHeartbeats 1000000 in
theorem div64_zero (lo y:Nat) (w:World) (h1:lo<18446744073709551616) (hy:0<y) (hy2:y<18446744073709551616) :
 Calls Try.prog 82 #[.int .u64 (0:Nat),.int .u64 (lo:Nat),.int .u64 (y:Nat)] w fun e w'=>∃ q n,e=.returned (.tuple #[.int .u64 q,.int .u64 ((lo%y:Nat):Int)])/\w'=w.drewN n:=by
 have z1:((y:Int)==0)=false:=by simp;omega
 have z2:decide ((y:Int)<=0)=false:=by simp;omega
 have z3:((y:Int) != 0)=true:=by simp;omega
 go_enter Try.func82,Try.ntmps82
 go_upto_region 6 with fail
 go_quiet (fail)
 go_wp2_with fail
 go_ret2
 exact ⟨_,_,rfl,rfl⟩
theorem lz_aux:∀ (f y:Nat),0<y->y<2 ^ f->f<=64->∃ s:Nat,s+Lib.bitLen y=f/\y*2 ^ s<2 ^ f/\2 ^ f<=2*(y*2 ^ s)
 | 0,y,hy,h,_=>by omega
 | f+1,y,hy,h,hf=>by
  have h64:y<2 ^ 64:=Nat.lt_of_lt_of_le h (Nat.pow_le_pow_right (by omega) hf)
  by_cases h2:y<2 ^ f
  · obtain ⟨s,e,a,b⟩:=lz_aux f y hy h2 (by omega)
    have e2:y*2 ^ (s+1)=2*(y*2 ^ s):=by rw [Nat.pow_succ,Nat.mul_comm (2 ^ s) 2,Nat.mul_left_comm]
    have e3:2 ^ (f+1)=2*2 ^ f:=by rw [Nat.pow_succ,Nat.mul_comm]
    refine ⟨s+1,by omega,?_,?_⟩
    · rw [e2,e3];omega
    · rw [e2,e3];omega
  · refine ⟨0,?_,by simpa using h,by simp;rw [Nat.pow_succ];omega⟩
    have h1:Lib.bitLen y=f+Lib.bitLen (y/2 ^ f):=Lib.bitLen_shift f y (by omega) h64
    have h3:y/2 ^ f=1:=by
     rw [Nat.pow_succ] at h
     exact Nat.div_eq_of_lt_le (by omega) (by omega)
    rw [h3] at h1
    rw [h1,show Lib.bitLen 1=1 from rfl];omega
theorem lz_ex (y:Nat) (hy:0<y) (hy2:y<18446744073709551616):∃ s:Nat,s<=63/\64-(Lib.bitLen y:Int)=(s:Int)/\y*2 ^ s<18446744073709551616/\9223372036854775808<=y*2 ^ s:=by
 obtain ⟨s,e,a,b⟩:=lz_aux 64 y hy hy2 (by omega)
 refine ⟨s,?_,by omega,a,by omega⟩
 rcases Nat.lt_or_ge s 64 with h|h
 · omega
 · exfalso
   have h1:y*2 ^ 64<=y*2 ^ s:=Nat.mul_le_mul_left _ (Nat.pow_le_pow_right (by omega) h)
   have h2:1*2 ^ 64<=y*2 ^ 64:=Nat.mul_le_mul_right _ hy
   omega
theorem u64_in (n:Nat) (h:n<18446744073709551616):IntKind.u64.wrap (n:Int)=(n:Int):=by rw [IntKind.wrap_u64];omega
theorem shl_in (a s:Nat) (h:a*2 ^ s<18446744073709551616):IntKind.u64.wrap ((a:Int)*2 ^ s)=((a*2 ^ s:Nat):Int):=by
 rw [show ((a:Int)*2 ^ s)=((a*2 ^ s:Nat):Int) by simp];exact u64_in _ h
theorem shl_mod (a s:Nat):IntKind.u64.wrap ((a:Int)*2 ^ s)=((a*2 ^ s%18446744073709551616:Nat):Int):=by
 rw [show ((a:Int)*2 ^ s)=((a*2 ^ s:Nat):Int) by simp,IntKind.wrap_u64];omega
theorem shr_nat (a s:Nat):(a:Int)/2 ^ s=((a/2 ^ s:Nat):Int):=by simp
theorem low_half (a:Nat) (h:a<18446744073709551616):bits BinOp.and IntKind.u64 (a:Int) 4294967295=((a%4294967296:Nat):Int):=by
 have e:=bits_and_u64_nat a 4294967295 h (by omega)
 rw [show a &&& 4294967295=a%4294967296 from Nat.and_two_pow_sub_one_eq_mod a 32] at e
 exact e
theorem or_join (hi lo s:Nat) (hs:s<=63) (h1:lo<18446744073709551616) (h2:hi*2 ^ s<18446744073709551616) :
 bits BinOp.or IntKind.u64 ((hi*2 ^ s:Nat):Int) ((lo/2 ^ (64-s):Nat):Int)=(((hi*18446744073709551616+lo)*2 ^ s/18446744073709551616:Nat):Int):=by
 have e0:2 ^ (64-s)*2 ^ s=18446744073709551616:=by rw [<- Nat.pow_add,Nat.sub_add_cancel (by omega)]
 have hp:0<2 ^ s:=Nat.two_pow_pos s
 have hq:0<2 ^ (64-s):=Nat.two_pow_pos _
 have h3:lo/2 ^ (64-s)<2 ^ s:=by rw [Nat.div_lt_iff_lt_mul hq,Nat.mul_comm,e0];exact h1
 have h4:lo/2 ^ (64-s)<18446744073709551616:=Nat.lt_of_le_of_lt (Nat.div_le_self _ _) h1
 rw [bits_or_u64_nat _ _ h2 h4]
 congr 1
 rw [Nat.mul_comm hi,<- Nat.two_pow_add_eq_or_of_lt h3]
 have e1:lo*2 ^ s/18446744073709551616=lo/2 ^ (64-s):=by
  rw [<- e0];exact Nat.mul_div_mul_right _ _ hp
 rw [Nat.add_mul,show hi*18446744073709551616*2 ^ s=(2 ^ s*hi)*18446744073709551616 by rw [Nat.mul_right_comm,Nat.mul_comm hi]]
 rw [Nat.add_comm (2 ^ s*hi*18446744073709551616),Nat.add_mul_div_right _ _ (by omega),e1,Nat.add_comm]
theorem div32 (a:Nat):(a:Int)/4294967296=((a/4294967296:Nat):Int):=by omega
theorem halves (a:Nat):a/4294967296*4294967296+a%4294967296=a:=by omega
theorem quo_in (a b:Nat) (h:a<18446744073709551616):IntKind.u64.wrap ((a:Int)/(b:Int))=((a/b:Nat):Int):=by
 rw [<- Int.natCast_ediv]
 exact u64_in _ (Nat.lt_of_le_of_lt (Nat.div_le_self _ _) h)
theorem rest_in {u d y1 y0 q Y:Nat} (hy:0<y1) (hY:Y<18446744073709551616) (hYY:y1*4294967296+y0=Y) (h:(u*4294967296+d)/(y1*4294967296+y0)=q) :
 IntKind.u64.wrap (IntKind.u64.wrap (IntKind.u64.wrap ((u:Int)*4294967296)+(d:Int))-IntKind.u64.wrap ((q:Int)*(Y:Int)))=(((u*4294967296+d)%Y:Nat):Int):=by
 have k:=kn_rest hy (by omega) h
 rw [hYY] at k
 rw [<- k]
 simp only [IntKind.wrap_u64]
 rw [show ((q:Int)*(Y:Int))=((q*Y:Nat):Int) by simp]
 omega
theorem mul_in (a b:Nat) (ha:a<4294967296) (hb:b<4294967296):a*b<18446744073709551616:=by
 have:=Nat.mul_le_mul (show a<=4294967295 by omega) (show b<=4294967295 by omega);omega
set_option maxHeartbeats 2000000 in
set_option maxRecDepth 100000 in
theorem div64_pos (hi lo y:Nat) (w:World) (h1:lo<18446744073709551616) (h0:0<hi) (hy:hi<y) (hy2:y<18446744073709551616) :
 Calls Try.prog 82 #[.int .u64 (hi:Nat),.int .u64 (lo:Nat),.int .u64 (y:Nat)] w fun e w'=>∃ q,e=.returned (.tuple #[.int .u64 q,.int .u64 (((hi*18446744073709551616+lo)%y:Nat):Int)])/\w'=w:=by
 obtain ⟨s,hs,hb,hY,hY2⟩:=lz_ex y (by omega) hy2
 have HLZ:=Lib.hid (fun W=>(Try.bits_LeadingZeros64 (y:Int) W (by omega) (by omega)).mono fun e w' (h:e=.returned (.int .i64 (64-(Lib.bitLen (y:Int).toNat:Int)))/\w'=W)=>show e=.returned (.int .i64 (s:Int))/\w'=W by rw [Int.toNat_natCast,hb] at h;exact h)
 clear hb
 have z1:((y:Int)==0)=false:=by simp;omega
 have z2:decide ((y:Int)<=(hi:Int))=false:=by simp;omega
 have z2':decide (y<=hi)=false:=by simp;omega
 have z3:((hi:Int)==0)=false:=by simp;omega
 have hp:0<2 ^ s:=Nat.two_pow_pos s
 have hhi:hi*2 ^ s<y*2 ^ s:=Nat.mul_lt_mul_of_pos_right hy hp
 have e1:=shl_in y s hY
 have e2:=low_half (y*2 ^ s) hY
 have e3:=shl_in hi s (by omega)
 have e4:=shr_nat lo (64-s)
 have e5:=or_join hi lo s hs h1 (by omega)
 have e6:=shl_mod lo s
 have e7:=low_half (lo*2 ^ s%18446744073709551616) (Nat.mod_lt _ (by omega))
 have hU:(hi*18446744073709551616+lo)*2 ^ s/18446744073709551616<y*2 ^ s:=by
  rw [Nat.div_lt_iff_lt_mul (by omega),Nat.mul_right_comm]
  exact Nat.mul_lt_mul_of_pos_right (by omega) hp
 have hT:lo*2 ^ s%18446744073709551616<18446744073709551616:=Nat.mod_lt _ (by omega)
 have hN:(hi*18446744073709551616+lo)*2 ^ s/18446744073709551616*18446744073709551616+lo*2 ^ s%18446744073709551616=(hi*18446744073709551616+lo)*2 ^ s:=by
  have h5:(hi*18446744073709551616+lo)*2 ^ s%18446744073709551616=lo*2 ^ s%18446744073709551616:=by
   rw [Nat.add_mul,Nat.mul_right_comm,Nat.mul_comm _ 18446744073709551616,Nat.mul_add_mod]
  rw [<- h5,Nat.mul_comm]
  exact Nat.div_add_mod _ _
 have HR:=Lib.hid (kn_shift (hi*18446744073709551616+lo) y s)
 rw [<- hN] at HR
 obtain ⟨RR,hRR⟩:∃ k,k=(hi*18446744073709551616+lo)%y:=⟨_,rfl⟩
 rw [<- hRR] at HR ⊢
 clear hRR
 generalize y*2 ^ s=Y at *
 generalize (hi*18446744073709551616+lo)*2 ^ s/18446744073709551616=U at *
 generalize lo*2 ^ s%18446744073709551616=T at *
 have e8:=div32 Y
 have e9:=div32 T
 have hYY:Y/4294967296*4294967296+Y%4294967296=Y:=halves Y
 have hTT:T/4294967296*4294967296+T%4294967296=T:=halves T
 have hy1:2147483648<=Y/4294967296/\Y/4294967296<4294967296:=by omega
 have hy0:Y%4294967296<4294967296:=by omega
 have hu1:T/4294967296<4294967296:=by omega
 have hu0:T%4294967296<4294967296:=by omega
 generalize Y/4294967296=y1 at *
 generalize Y%4294967296=y0 at *
 generalize T/4294967296=u1 at *
 generalize T%4294967296=u0 at *
 have e10:=quo_in U y1 (by omega)
 have HK:=Lib.hid (kn_start (u:=U) (d:=u1) (y1:=y1) (y0:=y0) (by omega) hu1 hy1.1 hy0)
 have HQ0:=Lib.hid (show U/y1*y1<=U from Nat.div_mul_le_self _ _)
 have HM:=Lib.hid (Nat.mod_lt U (show 0<y1 by omega))
 generalize hq0:U/y1=q0 at *
 generalize hr0:U%y1=r0 at *
 clear hq0 hr0
 obtain ⟨ha,hbb,hc⟩:=HK.out
 obtain ⟨P0,hP0⟩:∃ p,p=q0*y1:=⟨_,rfl⟩
 have e11:(q0:Int)*(y1:Int)=(P0:Int):=by rw [hP0];simp
 have e12:(U:Int)-(P0:Int)=(r0:Int):=by omega
 have hP1:P0<=U:=by omega
 have hr1:r0<4294967296:=by have:=HM.out;omega
 have HA:=Lib.hid ha
 clear ha hP0 HQ0 HM HK
 generalize hQ:(U*4294967296+u1)/(y1*4294967296+y0)=Q at *
 have HQ:=Lib.hid hQ
 clear hQ
 generalize hi*2 ^ s=A at *
 generalize lo/2 ^ (64-s)=B at *
 have HU:=Lib.hid (show U<y1*4294967296+y0 by omega)
 have HYY:=Lib.hid hYY
 have HTT:=Lib.hid hTT
 have z4:((y1:Int)==0)=false:=by simp;omega
 have z5:((y1:Int) != 0)=true:=by simp;omega
 clear hN hYY hTT
 go_enter Try.func82,Try.ntmps82
 go_upto_block 0 with (go_at_call 83;refine (HLZ.out _).mono ?_;rintro e w' ⟨rfl,hw⟩;rw [hw])
 clear e1 e2 e3 e4 e5 e6 e7 e8 e9 e10 e11 e12
 go_cut [15] (fun s15 wx=>s15=.int .u64 (Q:Int)/\w=wx)
 case first =>
  go_wp2_with fail
  go_loopg [15,16] q0 (fun gk s15 s16 wr=>∃ q r:Nat,gk=q/\s15=.int .u64 (q:Int)/\s16=.int .u64 (r:Int)/\Hid (q*y1+r=U)/\Q<=q/\q<=4294967297/\r<4294967296/\wr=w)
  case atStart=>exact ⟨q0,r0,rfl,rfl,rfl,HA,hbb,hc,hr1,rfl⟩
  case round =>
   clear HA hbb hc hr1
   obtain ⟨q,r,rfl,rfl,rfl,hinv,hq,hq2,hr,rfl⟩:=hrel
   obtain ⟨q,rfl⟩:∃ k,k=gk:=⟨_,rfl⟩
   have HMO:=Lib.hid (fun ht=>kn_more (q:=q) (r:=r) hinv.out HU.out hu1 (show 0<y1 by omega) ht)
   rw [HQ.out] at HMO
   have HEX:=Lib.hid (fun ht=>kn_exit (q:=q) (r:=r) (u:=U) (d:=u1) (y1:=y1) (y0:=y0) hinv.out (by rw [HQ.out];exact hq) (by omega) ht)
   rw [HQ.out] at HEX
   have HDN:=Lib.hid (fun h0=>kn_down (q:=q) (r:=r) hinv.out h0)
   have HBK:=Lib.hid (fun (h:Q<q) (hb:4294967296<=r+y1)=>kn_break (q:=q-1) (r:=r+y1) (u:=U) (d:=u1) (y1:=y1) (y0:=y0) (HDN.out (by omega)) (by rw [HQ.out];omega) (by omega) (by omega) hy0 hb)
   rw [HQ.out] at HBK
   by_cases hA:4294967296<=q
   · have hA':(4294967296:Int)<=(q:Int):=by omega
     have hm:=HMO.out (Or.inl hA)
     have hm0:(1:Int)<=(q:Int):=by omega
     by_cases hB:4294967296<=r+y1
     · have hB':(4294967296:Int)<=(r:Int)+(y1:Int):=by omega
       go_wp2_with fail
       go_meet
       exact ⟨by rw [HBK.out hm hB];congr 1;omega,rfl⟩
     · have hB':¬ ((4294967296:Int)<=(r:Int)+(y1:Int)):=by omega
       go_wp2_with fail
       go_roundg (q-1)
       case measure=>omega
       case rel=>exact ⟨q-1,r+y1,rfl,by congr 1;omega,by congr 1,Lib.hid (HDN.out (by omega)),by omega,by omega,by omega,rfl⟩
   · have hA':¬ ((4294967296:Int)<=(q:Int)):=by omega
     have hPb:=mul_in q y0 (by omega) hy0
     obtain ⟨P,hP⟩:∃ p,p=q*y0:=⟨_,rfl⟩
     have e1:(q:Int)*(y0:Int)=(P:Int):=by rw [hP];simp
     have HP:=Lib.hid hP
     rw [<- hP] at hPb
     clear hP
     by_cases hC:4294967296*r+u1<P
     · have hC':(4294967296:Int)*(r:Int)+(u1:Int)<(P:Int):=by omega
       have hm:=HMO.out (Or.inr (by rw [<- HP.out];exact hC))
       have hm0:(1:Int)<=(q:Int):=by omega
       by_cases hB:4294967296<=r+y1
       · have hB':(4294967296:Int)<=(r:Int)+(y1:Int):=by omega
         go_wp2_with fail
         go_meet
         exact ⟨by rw [HBK.out hm hB];congr 1;omega,rfl⟩
       · have hB':¬ ((4294967296:Int)<=(r:Int)+(y1:Int)):=by omega
         go_wp2_with fail
         go_roundg (q-1)
         case measure=>omega
         case rel=>exact ⟨q-1,r+y1,rfl,by congr 1;omega,by congr 1,Lib.hid (HDN.out (by omega)),by omega,by omega,by omega,rfl⟩
     · have hC':¬ ((4294967296:Int)*(r:Int)+(u1:Int)<(P:Int)):=by omega
       have hx:=HEX.out (by rw [<- HP.out];omega)
       have HX:=Lib.hid hx
       clear hx
       go_wp2_with fail
       go_meet
       exact ⟨by rw [HX.out],rfl⟩
 case rest =>
  obtain ⟨rfl,rfl⟩:=hcut
  have e1:=rest_in (u:=U) (d:=u1) (show 0<y1 by omega) hY HYY.out HQ.out
  have HV:=Lib.hid (Nat.mod_lt (U*4294967296+u1) (show 0<Y by omega))
  have HTW:=Lib.hid (kn_two U u1 u0 Y)
  obtain ⟨V,hVe⟩:∃ V,V=(U*4294967296+u1)%Y:=⟨_,rfl⟩
  rw [<- hVe] at e1 HV HTW
  clear hVe
  have hV:=HV.out
  have HK:=Lib.hid (kn_start (u:=V) (d:=u0) (y1:=y1) (y0:=y0) (by have:=HYY.out;omega) hu0 hy1.1 hy0)
  have e10:=quo_in V y1 (by omega)
  have HQ0:=Lib.hid (show V/y1*y1<=V from Nat.div_mul_le_self _ _)
  have HM:=Lib.hid (Nat.mod_lt V (show 0<y1 by omega))
  obtain ⟨q1,hq1⟩:∃ k,k=V/y1:=⟨_,rfl⟩
  obtain ⟨r1,hr1⟩:∃ k,k=V%y1:=⟨_,rfl⟩
  rw [<- hq1] at HK HQ0 e10
  rw [<- hr1] at HK HM
  clear hq1 hr1
  obtain ⟨ha,hbb,hc⟩:=HK.out
  obtain ⟨P1,hP1⟩:∃ p,p=q1*y1:=⟨_,rfl⟩
  have e11:(q1:Int)*(y1:Int)=(P1:Int):=by rw [hP1];simp
  have e12:(V:Int)-(P1:Int)=(r1:Int):=by omega
  have hP2:P1<=V:=by omega
  have hr1:r1<4294967296:=by have:=HM.out;omega
  have HA:=Lib.hid ha
  clear ha hP1 HQ0 HM HK
  obtain ⟨Q2,hQ2⟩:∃ k,k=(V*4294967296+u0)/(y1*4294967296+y0):=⟨_,rfl⟩
  rw [<- hQ2] at hbb
  have HQ2:=Lib.hid hQ2.symm
  have HU2:=Lib.hid (show V<y1*4294967296+y0 by have:=HYY.out;omega)
  clear hQ2
  go_upto_block 2 with fail
  clear e1 e10 e11 e12
  go_cut [18] (fun s18 wx=>s18=.int .u64 (Q2:Int)/\w=wx)
  case first =>
   go_wp2_with fail
   go_loopg [18,16] q1 (fun gk s15 s16 wr=>∃ q r:Nat,gk=q/\s15=.int .u64 (q:Int)/\s16=.int .u64 (r:Int)/\Hid (q*y1+r=V)/\Q2<=q/\q<=4294967297/\r<4294967296/\wr=w)
   case atStart=>exact ⟨q1,r1,rfl,rfl,rfl,HA,hbb,hc,hr1,rfl⟩
   case round =>
    clear HA hbb hc hr1
    obtain ⟨q,r,rfl,rfl,rfl,hinv,hq,hq2,hr,rfl⟩:=hrel
    obtain ⟨q,rfl⟩:∃ k,k=gk:=⟨_,rfl⟩
    have HMO:=Lib.hid (fun ht=>kn_more (q:=q) (r:=r) hinv.out HU2.out hu0 (show 0<y1 by omega) ht)
    rw [HQ2.out] at HMO
    have HEX:=Lib.hid (fun ht=>kn_exit (q:=q) (r:=r) (u:=V) (d:=u0) (y1:=y1) (y0:=y0) hinv.out (by rw [HQ2.out];exact hq) (by omega) ht)
    rw [HQ2.out] at HEX
    have HDN:=Lib.hid (fun h0=>kn_down (q:=q) (r:=r) hinv.out h0)
    have HBK:=Lib.hid (fun (h:Q2<q) (hb:4294967296<=r+y1)=>kn_break (q:=q-1) (r:=r+y1) (u:=V) (d:=u0) (y1:=y1) (y0:=y0) (HDN.out (by omega)) (by rw [HQ2.out];omega) (by omega) (by omega) hy0 hb)
    rw [HQ2.out] at HBK
    by_cases hA:4294967296<=q
    · have hA':(4294967296:Int)<=(q:Int):=by omega
      have hm:=HMO.out (Or.inl hA)
      have hm0:(1:Int)<=(q:Int):=by omega
      by_cases hB:4294967296<=r+y1
      · have hB':(4294967296:Int)<=(r:Int)+(y1:Int):=by omega
        go_wp2_with fail
        go_meet
        exact ⟨by rw [HBK.out hm hB];congr 1;omega,rfl⟩
      · have hB':¬ ((4294967296:Int)<=(r:Int)+(y1:Int)):=by omega
        go_wp2_with fail
        go_roundg (q-1)
        case measure=>omega
        case rel=>exact ⟨q-1,r+y1,rfl,by congr 1;omega,by congr 1,Lib.hid (HDN.out (by omega)),by omega,by omega,by omega,rfl⟩
    · have hA':¬ ((4294967296:Int)<=(q:Int)):=by omega
      have hPb:=mul_in q y0 (by omega) hy0
      obtain ⟨P,hP⟩:∃ p,p=q*y0:=⟨_,rfl⟩
      have e1:(q:Int)*(y0:Int)=(P:Int):=by rw [hP];simp
      have HP:=Lib.hid hP
      rw [<- hP] at hPb
      clear hP
      by_cases hC:4294967296*r+u0<P
      · have hC':(4294967296:Int)*(r:Int)+(u0:Int)<(P:Int):=by omega
        have hm:=HMO.out (Or.inr (by rw [<- HP.out];exact hC))
        have hm0:(1:Int)<=(q:Int):=by omega
        by_cases hB:4294967296<=r+y1
        · have hB':(4294967296:Int)<=(r:Int)+(y1:Int):=by omega
          go_wp2_with fail
          go_meet
          exact ⟨by rw [HBK.out hm hB];congr 1;omega,rfl⟩
        · have hB':¬ ((4294967296:Int)<=(r:Int)+(y1:Int)):=by omega
          go_wp2_with fail
          go_roundg (q-1)
          case measure=>omega
          case rel=>exact ⟨q-1,r+y1,rfl,by congr 1;omega,by congr 1,Lib.hid (HDN.out (by omega)),by omega,by omega,by omega,rfl⟩
      · have hC':¬ ((4294967296:Int)*(r:Int)+(u0:Int)<(P:Int)):=by omega
        have hx:=HEX.out (by rw [<- HP.out];omega)
        have HX:=Lib.hid hx
        clear hx
        go_wp2_with fail
        go_meet
        exact ⟨by rw [HX.out],rfl⟩
  case rest =>
   obtain ⟨rfl,rfl⟩:=hcut
   have e1:=rest_in (u:=V) (d:=u0) (show 0<y1 by omega) hY HYY.out HQ2.out
   have HT2:=Lib.hid (show U*18446744073709551616+u1*4294967296+u0=U*18446744073709551616+T by rw [Nat.add_assoc,HTT.out])
   have HF:=Lib.hid (show (V*4294967296+u0)%Y/2 ^ s=RR by rw [HTW.out,HT2.out];exact HR.out)
   obtain ⟨Z,hZ⟩:∃ k,k=(V*4294967296+u0)%Y:=⟨_,rfl⟩
   rw [<- hZ] at e1 HF
   clear hZ
   have e2:=shr_nat Z s
   obtain ⟨F,hF⟩:∃ k,k=Z/2 ^ s:=⟨_,rfl⟩
   rw [<- hF] at e2 HF
   clear hF
   go_wp2_with fail
   go_ret2
   have hf:=HF.out
   clear e1 e2 HF
   subst hf
   exact ⟨_,rfl,rfl⟩
set_option maxHeartbeats 1000000 in
theorem div64_any (hi lo y:Nat) (w:World) (h1:lo<18446744073709551616) (hy:hi<y) (hy2:y<18446744073709551616) :
 Calls Try.prog 82 #[.int .u64 (hi:Nat),.int .u64 (lo:Nat),.int .u64 (y:Nat)] w fun e w'=>∃ q n,e=.returned (.tuple #[.int .u64 q,.int .u64 (((hi*18446744073709551616+lo)%y:Nat):Int)])/\w'=w.drewN n:=by
 rcases Nat.eq_zero_or_pos hi with rfl|h0
 · have h:=div64_zero lo y w h1 hy hy2
   rw [Nat.zero_mul,Nat.zero_add]
   exact h
 · exact (div64_pos hi lo y w h1 h0 hy hy2).mono fun e w' ⟨q,he,hw⟩=>⟨q,0,he,hw⟩
set_option maxHeartbeats 1000000 in
theorem rem64_any (hi lo y:Nat) (w:World) (h0:hi<18446744073709551616) (h1:lo<18446744073709551616) (hy:0<y) (hy2:y<18446744073709551616) :
 Calls Try.prog 79 #[.int .u64 (hi:Nat),.int .u64 (lo:Nat),.int .u64 (y:Nat)] w fun e w'=>∃ n,e=.returned (.int .u64 (((hi*18446744073709551616+lo)%y:Nat):Int))/\w'=w.drewN n:=by
 have HC:=Lib.hid (fun W=>div64_any (hi%y) lo y W h1 (Nat.mod_lt _ hy) hy2)
 have e0:(hi%y*18446744073709551616+lo)%y=(hi*18446744073709551616+lo)%y:=by
  rw [Nat.add_mod,Nat.mul_mod,Nat.mod_mod,<- Nat.mul_mod,<- Nat.add_mod]
 rw [e0] at HC
 clear e0
 have e1:(hi:Int)%(y:Int)=((hi%y:Nat):Int):=by simp
 have hm:hi%y<y:=Nat.mod_lt _ hy
 obtain ⟨m,hme⟩:∃ m,m=hi%y:=⟨_,rfl⟩
 obtain ⟨R,hR⟩:∃ m,m=(hi*18446744073709551616+lo)%y:=⟨_,rfl⟩
 rw [<- hme] at HC e1 hm
 rw [<- hR] at HC ⊢
 clear hme hR
 have z1:((y:Int)==0)=false:=by simp;omega
 have z3:((y:Int) != 0)=true:=by simp;omega
 go_enter Try.func79,Try.ntmps79
 go_wp2_with (go_at_call 82;refine (HC.out _).mono ?_;rintro e w' ⟨q,n,rfl,rfl⟩)
 go_ret
 exact ⟨_,rfl,rfl⟩
set_option maxHeartbeats 1000000 in
theorem mulMod_any (a b m:Nat) (w:World) (ha:a<18446744073709551616) (hb:b<18446744073709551616) (hm:0<m) (hm2:m<18446744073709551616) :
 Calls Try.prog 69 #[.int .u64 (a:Nat),.int .u64 (b:Nat),.int .u64 (m:Nat)] w fun e w'=>∃ n,e=.returned (.int .u64 ((a*b%m:Nat):Int))/\w'=w.drewN n:=by
 have HM:=Lib.hid (fun W=>Try.bits_Mul64 a b ha hb W)
 have hab:a*b<18446744073709551616*18446744073709551616:=Nat.mul_lt_mul'' ha hb
 have HC:=Lib.hid (fun W=>rem64_any (a*b/18446744073709551616) (a*b%18446744073709551616) m W ((Nat.div_lt_iff_lt_mul (by omega)).2 hab) (Nat.mod_lt _ (by omega)) hm hm2)
 have e0:a*b/18446744073709551616*18446744073709551616+a*b%18446744073709551616=a*b:=by rw [Nat.mul_comm];exact Nat.div_add_mod _ _
 rw [e0] at HC
 clear e0 hab
 obtain ⟨H,hH⟩:∃ m,m=a*b/18446744073709551616:=⟨_,rfl⟩
 obtain ⟨L,hL⟩:∃ m,m=a*b%18446744073709551616:=⟨_,rfl⟩
 obtain ⟨R,hR⟩:∃ k,k=a*b%m:=⟨_,rfl⟩
 rw [<- hH,<- hL] at HC HM
 rw [<- hR] at HC ⊢
 clear hH hL hR
 go_enter Try.func69,Try.ntmps69
 go_wp2_with (first|(go_at_call 78;refine (HM.out _).mono ?_;rintro e w' ⟨rfl,hw⟩;rw [hw])|(go_at_call 79;refine (HC.out _).mono ?_;rintro e w' ⟨n,rfl,rfl⟩))
 go_ret
 exact ⟨_,rfl,rfl⟩
theorem subMod_any (a b m:Nat) (w:World) (ha:a<m) (hb:b<m) (hm2:m<=4611686018427387904) :
 Calls Try.prog 70 #[.int .u64 (a:Nat),.int .u64 (b:Nat),.int .u64 (m:Nat)] w fun e w'=>e=.returned (.int .u64 (((a+(m-b))%m:Nat):Int))/\w=w':=by
 obtain ⟨R,hR⟩:∃ k,k=(a+(m-b))%m:=⟨_,rfl⟩
 rw [<- hR]
 rcases Nat.lt_or_ge a b with h|h
 · have HE:(a:Int)+(m:Int)-(b:Int)=(R:Int):=by rw [hR,Nat.mod_eq_of_lt (by omega)];omega
   have h':(a:Int)<(b:Int):=by omega
   clear hR
   go_enter Try.func70,Try.ntmps70
   go_wp2_with fail
   go_ret
   exact ⟨rfl,rfl⟩
 · have HE:(a:Int)-(b:Int)=(R:Int):=by rw [hR,show a+(m-b)=(a-b)+m by omega,Nat.add_mod_right,Nat.mod_eq_of_lt (by omega)];omega
   have h':¬ ((a:Int)<(b:Int)):=by omega
   clear hR
   go_enter Try.func70,Try.ntmps70
   go_wp2_with fail
   go_ret
   exact ⟨rfl,rfl⟩
end Go.Proofs.Ytfnmeigpfmeomaa
