/- Small functions of intmatrix and fcolor: gcd, inverse, abs, columns. -/
import Derived.Test.YtfnmeigpfmeomaaZfMup
import Derived.Test.YtfnmeigpfmeomaaZfLis
import Derived.Test.YtfnmeigpfmeomaaZfTab
import Derived.BigRegion
import Derived.Deep.RegionHeld3
import Derived.Deep.RegionWith
import Derived.Deep.DrawnRows
namespace Go.Proofs.Ytfnmeigpfmeomaa
open Go.RowKit
set_option linter.unusedVariables false
theorem rem_nat (a b:Nat):(a:Int)%(b:Int)=((a%b:Nat):Int):=by simp
set_option maxHeartbeats 1000000 in
theorem gcdU_any (a b:Nat) (w:World) (ha:a<18446744073709551616) (hb:b<18446744073709551616) :
 Calls Try.prog 74 #[.int .u64 (a:Nat),.int .u64 (b:Nat)] w fun e w'=>∃ n,e=.returned (.int .u64 (Nat.gcd a b:Nat))/\w'=w.drewN n:=by
 obtain ⟨G,hG⟩:∃ g,g=Nat.gcd a b:=⟨_,rfl⟩
 rw [<- hG]
 have HG:=Lib.hid hG
 clear hG
 go_enter Try.func74,Try.ntmps74
 go_wp2_with fail
 go_loopg [0,1] b (fun gk s0 s1 wr=>∃ x y n:Nat,gk=y/\s0=.int .u64 (x:Int)/\s1=.int .u64 (y:Int)/\x<18446744073709551616/\y<18446744073709551616/\Hid (G=Nat.gcd x y)/\wr=w.drewN n)
 case atStart=>exact ⟨a,b,0,rfl,rfl,rfl,ha,hb,HG,rfl⟩
 case round =>
  clear HG ha hb
  obtain ⟨x,y,n,rfl,rfl,rfl,hx,hy,HG,rfl⟩:=hrel
  obtain ⟨y,rfl⟩:∃ k,k=gk:=⟨_,rfl⟩
  rcases Nat.eq_zero_or_pos y with rfl|h0
  · go_wp2_with fail
    go_ret
    have:=HG.out
    rw [Nat.gcd_zero_right] at this
    clear HG
    subst this
    exact ⟨n,rfl,rfl⟩
  · have z1:((y:Int) != 0)=true:=by simp;omega
    have z2:((y:Int)==0)=false:=by simp;omega
    have e1:=rem_nat x y
    have HL:=Lib.hid (Nat.mod_lt x h0)
    have HG2:=Lib.hid (show G=Nat.gcd y (x%y) by rw [HG.out,Nat.gcd_comm x y,Nat.gcd_rec y x,Nat.gcd_comm])
    obtain ⟨r,hr⟩:∃ r,r=x%y:=⟨_,rfl⟩
    rw [<- hr] at e1 HL HG2
    have hl:=HL.out
    clear hr HG HL
    generalize hWW:w.drewN n=W at *
    have HW:=Lib.hid hWW
    clear hWW
    go_upto_region 2 with fail
    go_quiet (fail)
    have E1:=Lib.hid e1
    clear e1
    go_wp2_with fail
    go_roundg r
    case measure=>omega
    case rel=>exact ⟨y,r,_,rfl,rfl,by rw [<- E1.out],hy,by omega,HG2,by rw [<- HW.out];exact drewN_add w n _⟩
set_option maxHeartbeats 1000000 in
theorem gcdI_any (a b:Nat) (w:World) (ha:a<9223372036854775808) (hb:b<9223372036854775808) :
 Calls Try.prog 19 #[.int .i64 (a:Nat),.int .i64 (b:Nat)] w fun e w'=>∃ n,e=.returned (.int .i64 (Nat.gcd a b:Nat))/\w'=w.drewN n:=by
 obtain ⟨G,hG⟩:∃ g,g=Nat.gcd a b:=⟨_,rfl⟩
 rw [<- hG]
 have HG:=Lib.hid hG
 clear hG
 go_enter Try.func19,Try.ntmps19
 go_wp2_with fail
 go_loopg [0,1] b (fun gk s0 s1 wr=>∃ x y n:Nat,gk=y/\s0=.int .i64 (x:Int)/\s1=.int .i64 (y:Int)/\x<9223372036854775808/\y<9223372036854775808/\Hid (G=Nat.gcd x y)/\wr=w.drewN n)
 case atStart=>exact ⟨a,b,0,rfl,rfl,rfl,ha,hb,HG,rfl⟩
 case round =>
  clear HG ha hb
  obtain ⟨x,y,n,rfl,rfl,rfl,hx,hy,HG,rfl⟩:=hrel
  obtain ⟨y,rfl⟩:∃ k,k=gk:=⟨_,rfl⟩
  rcases Nat.eq_zero_or_pos y with rfl|h0
  · go_wp2_with fail
    go_ret
    have:=HG.out
    rw [Nat.gcd_zero_right] at this
    clear HG
    subst this
    exact ⟨n,rfl,rfl⟩
  · have z1:((y:Int) != 0)=true:=by simp;omega
    have z2:((y:Int)==0)=false:=by simp;omega
    have e1:=rem_nat x y
    have HL:=Lib.hid (Nat.mod_lt x h0)
    have HG2:=Lib.hid (show G=Nat.gcd y (x%y) by rw [HG.out,Nat.gcd_comm x y,Nat.gcd_rec y x,Nat.gcd_comm])
    obtain ⟨r,hr⟩:∃ r,r=x%y:=⟨_,rfl⟩
    rw [<- hr] at e1 HL HG2
    have hl:=HL.out
    clear hr HG HL
    generalize hWW:w.drewN n=W at *
    have HW:=Lib.hid hWW
    clear hWW
    go_upto_region 2 with fail
    go_quiet (fail)
    have E1:=Lib.hid e1
    clear e1
    go_wp2_with fail
    go_roundg r
    case measure=>omega
    case rel=>exact ⟨y,r,_,rfl,rfl,by rw [<- E1.out],hy,by omega,HG2,by rw [<- HW.out];exact drewN_add w n _⟩
theorem abs_any (x:Int) (w:World) (h0:-9223372036854775807<=x) (h1:x<=9223372036854775807) :
 Calls Try.prog 50 #[.int .i64 x] w fun e w'=>e=.returned (.int .u64 (x.natAbs:Nat))/\w=w':=by
 obtain ⟨R,hR⟩:∃ k,k=x.natAbs:=⟨_,rfl⟩
 rw [<- hR]
 by_cases h:x<0
 · have e1:(-x)=(R:Int):=by omega
   clear hR
   go_enter Try.func50,Try.ntmps50
   go_wp2_with fail
   go_ret
   exact ⟨rfl,rfl⟩
 · obtain ⟨y,rfl⟩:∃ y:Nat,x=(y:Int):=⟨x.toNat,by omega⟩
   obtain rfl:R=y:=by omega
   clear hR
   go_enter Try.func50,Try.ntmps50
   go_wp2_with fail
   go_ret
   exact ⟨rfl,rfl⟩
def cols (rows:List (List Int)):Nat:=(rows[0]?.getD []).length
theorem columns_any (v:Value) (rows:List (List Int)) (w:World) (h:Mat w v rows) (hl:rows.length<=1000) (hr:∀ r∈rows,r.length<=1000) :
 Calls Try.prog 66 #[v] w fun e w'=>e=.returned (.int .i64 (cols rows:Nat))/\w=w':=by
 have h0:=h
 obtain ⟨A,c,rfl,hc,hx⟩:=h
 clear hx
 cases rows with
 | nil =>
  have e1:cols []=0:=rfl
  rw [e1]
  clear e1 hr
  go_enter Try.func66,Try.ntmps66
  go_wp2_with fail
  go_ret
  exact ⟨rfl,rfl⟩
 | cons r rs =>
  obtain ⟨b,o,rfl,hb,u,hu,hI⟩:=h0.at_ (i:=0) (by simp)
  obtain ⟨A2,c2,rfl,hc2,hx2⟩:=hI
  have e1:cols (r :: rs)=r.length:=rfl
  have hrl:=hr r (by simp)
  rw [e1]
  clear e1 hx2 h0 hr
  have hu':w.cell? ⟨b,o,none⟩=some (Value.slice A2 r.length c2):=hu
  have hl':(rs.length:Int)+1<=1000:=by simp at hl;omega
  have z1:(((r :: rs).length:Int)==0)=false:=by simp;omega
  have z2:(0:Int)<((r :: rs).length:Int):=by rw [List.length_cons];omega
  generalize (r :: rs).length=N at *
  clear hu
  go_enter Try.func66,Try.ntmps66
  go_wp2_with fail
  go_ret
  exact ⟨rfl,rfl⟩
theorem p_cast:((2305843009213693951:Nat):Int)=2305843009213693951:=rfl
theorem mulP_any (a b:Nat) (w:World) (ha:a<18446744073709551616) (hb:b<18446744073709551616) :
 Calls Try.prog 69 #[.int .u64 (a:Nat),.int .u64 (b:Nat),.int .u64 2305843009213693951] w fun e w'=>∃ n,e=.returned (.int .u64 ((a*b%2305843009213693951:Nat):Int))/\w'=w.drewN n:=by
 have h:=mulMod_any a b 2305843009213693951 w ha hb (by omega) (by omega)
 rw [p_cast] at h
 exact h
theorem subP_any (a b:Nat) (w:World) (ha:a<2305843009213693951) (hb:b<2305843009213693951) :
 Calls Try.prog 70 #[.int .u64 (a:Nat),.int .u64 (b:Nat),.int .u64 2305843009213693951] w fun e w'=>e=.returned (.int .u64 (((a+(2305843009213693951-b))%2305843009213693951:Nat):Int))/\w=w':=by
 have h:=subMod_any a b 2305843009213693951 w ha hb (by omega)
 rw [p_cast] at h
 exact h
def invF (a:Nat):Nat:=pmod p61 a 61 (p61-2)
theorem invF_eq (a:Nat):invF a=a ^ (p61-2)%p61:=pmod_eq p61 61 a (p61-2) (by decide)
theorem pow_split {r x e R:Nat} (h:r*x ^ e%p61=R):(if e%2=1 then r*x%p61 else r)*(x*x%p61) ^ (e/2)%p61=R:=by
 have h2:(x*x%p61) ^ (e/2)%p61=x ^ (2*(e/2))%p61:=by rw [<- Nat.pow_mod,<- Nat.pow_two,<- Nat.pow_mul]
 rw [<- h]
 split
 · rename_i h1
   have:e=2*(e/2)+1:=by omega
   rw [Nat.mul_mod,h2,Nat.mod_mod,<- Nat.mul_mod]
   conv=>rhs;rw [this,Nat.pow_succ,Nat.mul_comm (x ^ _) x,<- Nat.mul_assoc]
 · have:e=2*(e/2):=by omega
   rw [Nat.mul_mod,h2,<- Nat.mul_mod]
   conv=>rhs;rw [this]
def PwR (r x e G:Nat):Prop:=r*x ^ e%p61=G
theorem PwR.start (a E:Nat) (h:E=p61-2):PwR 1 a E (invF a):=by unfold PwR;rw [invF_eq,h,Nat.one_mul]
set_option maxHeartbeats 1000000 in
theorem inverse_any (a:Nat) (w:World) (ha:a<2305843009213693951) :
 Calls Try.prog 71 #[.int .u64 (a:Nat)] w fun e w'=>∃ n,e=.returned (.int .u64 (invF a:Nat))/\w'=w.drewN n:=by
 have HG:=Lib.hid (PwR.start a 2305843009213693949 (by decide))
 generalize invF a=G at *
 go_enter Try.func71,Try.ntmps71
 go_wp2_with fail
 go_loopg [3,4,0] 2305843009213693949 (fun gk s3 s4 s0 wr=>∃ r e x n:Nat,gk=e/\s3=.int .u64 (r:Int)/\s4=.int .u64 (e:Int)/\s0=.int .u64 (x:Int)/\r<2305843009213693951/\e<2305843009213693951/\x<2305843009213693951/\Hid (PwR r x e G)/\wr=w.drewN n)
 case atStart=>exact ⟨1,2305843009213693949,a,0,rfl,rfl,rfl,rfl,by omega,by omega,ha,HG,rfl⟩
 case round =>
  clear HG ha
  obtain ⟨r,e,x,n,rfl,rfl,rfl,rfl,hr,he,hx,HG,rfl⟩:=hrel
  obtain ⟨e,rfl⟩:∃ k,k=gk:=⟨_,rfl⟩
  rcases Nat.eq_zero_or_pos e with rfl|h0
  · go_wp2_with fail
    go_ret
    have:r*x ^ 0%p61=G:=HG.out
    rw [Nat.pow_zero,Nat.mul_one,Nat.mod_eq_of_lt (show r<p61 from hr)] at this
    clear HG
    subst this
    exact ⟨n,rfl,rfl⟩
  · have z0:(0:Int)<(e:Int):=by omega
    have e1:bits BinOp.and IntKind.u64 (e:Int) 1=((e%2:Nat):Int):=by
     have q:=bits_and_u64_nat e 1 (by omega) (by omega)
     rw [Nat.and_one_is_mod] at q;exact q
    have e2:(e:Int)/2=((e/2:Nat):Int):=by omega
    have HS:=Lib.hid (pow_split HG.out)
    have HP:=Lib.hid (fun W=>mulP_any r x W (by omega) (by omega))
    have HX:=Lib.hid (fun W=>mulP_any x x W (by omega) (by omega))
    have hf:e/2<e:=by omega
    obtain ⟨f,hfe⟩:∃ f,f=e/2:=⟨_,rfl⟩
    rw [<- hfe] at e2 HS hf
    clear hfe HG
    have hq:r*x%2305843009213693951<2305843009213693951:=Nat.mod_lt _ (by omega)
    have hy:x*x%2305843009213693951<2305843009213693951:=Nat.mod_lt _ (by omega)
    have HS':=Lib.hid (show (if e%2=1 then r*x%2305843009213693951 else r)*(x*x%2305843009213693951) ^ f%p61=G from HS.out)
    clear HS
    generalize x*x%2305843009213693951=y at *
    generalize r*x%2305843009213693951=q at *
    by_cases h2:e%2=1
    · rw [if_pos h2] at HS'
      rw [h2] at e1
      clear h2
      go_wp2_with (first|(go_at_call 69;(with_reducible refine (HP.out _).mono ?_);rintro e w' ⟨m,rfl,rfl⟩)|(go_at_call 69;refine (HX.out _).mono ?_;rintro e w' ⟨m2,rfl,rfl⟩))
      go_roundg f
      case measure=>omega
      case rel=>exact ⟨q,f,y,_,rfl,rfl,by rw [<- e2],rfl,hq,by omega,hy,Lib.hid HS'.out,rfl⟩
    · rw [if_neg h2] at HS'
      have h3:e%2=0:=by omega
      rw [h3] at e1
      clear h2 h3
      go_wp2_with (go_at_call 69;refine (HX.out _).mono ?_;rintro e w' ⟨m2,rfl,rfl⟩)
      go_roundg f
      case measure=>omega
      case rel=>exact ⟨r,f,y,_,rfl,rfl,by rw [<- e2],rfl,hr,by omega,hy,Lib.hid HS'.out,rfl⟩
end Go.Proofs.Ytfnmeigpfmeomaa
namespace Go.Proofs.Ytfnmeigpfmeomaa
set_option linter.unusedVariables false
def prL2:List Nat->Nat
 | []=>1
 | a :: l=>a*prL2 l
theorem prL2_perm {l k:List Nat} (h:l.Perm k):prL2 l=prL2 k:=by
 induction h with
 | nil=>rfl
 | cons a _ ih=>rw [prL2,prL2,ih]
 | swap a b l=>rw [prL2,prL2,prL2,prL2,Nat.mul_left_comm]
 | trans _ _ h1 h2=>rw [h1,h2]
def fac:Nat->Nat
 | 0=>1
 | n+1=>(n+1)*fac n
theorem nodup_fac:∀ (n:Nat) (l:List Nat),l.Nodup->(∀ x∈l,1<=x/\x<=n)->l.length=n->prL2 l=fac n
 | 0,l,_,_,hl=>by rw [List.eq_nil_of_length_eq_zero hl];rfl
 | n+1,l,hd,hb,hl=>by
  have hm:n+1∈l:=by
   by_cases q:n+1∈l
   · exact q
   · exfalso
     have h1:=nodup_le n (l.map (fun x=>x-1)) (by
      rw [List.Nodup,List.pairwise_map]
      exact hd.imp_of_mem (fun {a b} ha hb' hne he=>hne (by have:=hb a ha;have:=hb b hb';omega)))
      (fun x hx=>by
       obtain ⟨y,hy,rfl⟩:=List.mem_map.1 hx
       have:=hb y hy
       have:y≠n+1:=fun e=>q (e ▸ hy)
       omega)
     rw [List.length_map] at h1
     omega
  rw [prL2_perm (List.perm_cons_erase hm),prL2,fac]
  rw [nodup_fac n (l.erase (n+1)) (hd.erase _) (fun x hx=>by
   have h2:=(List.Nodup.mem_erase_iff hd).1 hx
   have:=hb x h2.2
   omega) (by rw [List.length_erase_of_mem hm];omega)]
theorem fac_ne:∀ n,n<p61->fac n%p61≠0
 | 0,_=>by decide
 | n+1,h=>by
  rw [fac]
  exact p61_mul (by rw [Nat.mod_eq_of_lt h];omega) (fac_ne n (by omega))
theorem p61_cancel {a b c:Nat} (h:c%p61≠0) (hab:b<=a) (he:c*a%p61=c*b%p61):a%p61=b%p61:=by
 have h1:(c*(a-b))%p61=0:=by
  rw [Nat.mul_sub]
  have h2:c*b<=c*a:=Nat.mul_le_mul_left c hab
  have:=Nat.div_add_mod (c*a) p61
  have:=Nat.div_add_mod (c*b) p61
  rw [he] at *
  have e:c*a-c*b=p61*(c*a/p61-c*b/p61):=by rw [Nat.mul_sub];omega
  rw [e,Nat.mul_mod_right]
 have h3:(a-b)%p61=0:=by
  by_cases q:(a-b)%p61=0
  · exact q
  · exact absurd h1 (p61_mul h q)
 have:=Nat.div_add_mod (a-b) p61
 rw [h3] at this
 rw [show a=b+p61*((a-b)/p61) by omega,Nat.add_mul_mod_self_left]
theorem p61_cancel' {a b c:Nat} (h:c%p61≠0) (he:c*a%p61=c*b%p61):a%p61=b%p61:=by
 rcases Nat.le_total b a with q|q
 · exact p61_cancel h q he
 · exact (p61_cancel h q he.symm).symm
theorem prL2_mul {a:Nat}:∀ (l:List Nat),prL2 (l.map (fun x=>a*x%p61))%p61=a ^ l.length*prL2 l%p61
 | []=>by simp [prL2]
 | b :: l=>by
  rw [List.map_cons,prL2,prL2,List.length_cons,Nat.pow_succ,Nat.mul_mod,Nat.mod_mod,prL2_mul l,<- Nat.mul_mod]
  congr 1
  rw [Nat.mul_mul_mul_comm,Nat.mul_comm a (a ^ l.length),Nat.mul_comm b (prL2 l),Nat.mul_comm (prL2 l) b]
theorem fermat {a:Nat} (h:a%p61≠0):a ^ (p61-1)%p61=1:=by
 have hp:1<p61:=by decide
 obtain ⟨P,hP⟩:∃ P,P=p61-1:=⟨_,rfl⟩
 rw [<- hP]
 have hrange:prL2 ((List.range P).map (· + 1))=fac P:=nodup_fac P _ (by
  rw [List.Nodup,List.pairwise_map]
  exact List.pairwise_lt_range.imp (fun hlt he=>by omega)) (fun x hx=>by
   obtain ⟨y,hy,rfl⟩:=List.mem_map.1 hx
   have:=List.mem_range.1 hy
   omega) (by simp)
 have hmul:prL2 (((List.range P).map (· + 1)).map (fun x=>a*x%p61))=fac P:=nodup_fac P _ (by
  rw [List.Nodup,List.pairwise_map,List.pairwise_map]
  refine List.pairwise_lt_range.imp_of_mem (fun {i j} hi hj hlt he=>?_)
  have h1:=List.mem_range.1 hi
  have h2:=List.mem_range.1 hj
  have h3:=p61_cancel' h he
  rw [Nat.mod_eq_of_lt (by omega),Nat.mod_eq_of_lt (by omega)] at h3
  omega) (fun x hx=>by
   obtain ⟨y,hy,rfl⟩:=List.mem_map.1 hx
   obtain ⟨z,hz,rfl⟩:=List.mem_map.1 hy
   have h1:=List.mem_range.1 hz
   have h2:=p61_mul h (show (z+1)%p61≠0 by rw [Nat.mod_eq_of_lt (by omega)];omega)
   have h3:=Nat.mod_lt (a*(z+1)) (show 0<p61 by omega)
   omega) (by simp)
 have h4:=prL2_mul (a:=a) ((List.range P).map (· + 1))
 rw [hmul,hrange] at h4
 simp only [List.length_map,List.length_range] at h4
 have h5:fac P*1%p61=fac P*a ^ P%p61:=by rw [Nat.mul_one,h4,Nat.mul_comm]
 have h6:=p61_cancel' (fac_ne P (by omega)) h5
 rw [<- h6,Nat.mod_eq_of_lt hp]
theorem invF_mul {a:Nat} (h:a%p61≠0):a*invF a%p61=1:=by
 rw [invF_eq,Nat.mul_mod,Nat.mod_mod,<- Nat.mul_mod,Nat.mul_comm,<- Nat.pow_succ]
 have e:p61-2+1=p61-1:=by decide
 rw [Nat.succ_eq_add_one,e]
 exact fermat h
theorem gr_map_range (n:Nat) (f:Nat->List Nat) (i:Nat):gr ((List.range n).map f) i=if i<n then f i else []:=by
 unfold gr
 by_cases h:i<n
 · simp [h]
 · rw [if_neg h,List.getElem?_eq_none (by simp;omega)];rfl
theorem gr_out {A:List (List Nat)} {i:Nat} (h:A.length<=i):gr A i=[]:=by unfold gr;rw [List.getElem?_eq_none h];rfl
def updR (A:List (List Nat)) (lo hi:Nat) (f:List Nat->List Nat):List (List Nat):=(List.range A.length).map fun i=>if lo<=i/\i<hi then f (gr A i) else gr A i
theorem updR_length (A:List (List Nat)) (lo hi:Nat) (f:List Nat->List Nat):(updR A lo hi f).length=A.length:=by simp [updR]
theorem gr_updR {A:List (List Nat)} {lo hi:Nat} {f:List Nat->List Nat} {i:Nat} (h:i<A.length):gr (updR A lo hi f) i=if lo<=i/\i<hi then f (gr A i) else gr A i:=by
 unfold updR;rw [gr_map_range,if_pos h]
theorem updR_start (A:List (List Nat)) (lo:Nat) (f:List Nat->List Nat):updR A lo lo f=A:=by
 apply gr_ext (updR_length _ _ _ _)
 intro i hi
 rw [updR_length] at hi
 rw [gr_updR hi,if_neg (by omega)]
theorem updR_step {A:List (List Nat)} {lo x:Nat} {f:List Nat->List Nat} (h1:lo<=x) (h2:x<A.length):(updR A lo x f).set x (f (gr A x))=updR A lo (x+1) f:=by
 apply gr_ext (by simp [updR_length])
 intro i hi
 have hi':i<A.length:=by simpa [updR_length] using hi
 rw [gr_set _ _ _ _ (by rw [updR_length];exact h2),gr_updR hi',gr_updR hi']
 by_cases e:i=x
 · subst e;rw [if_pos rfl,if_pos (by omega)]
 · rw [if_neg e]
   by_cases q:lo<=i/\i<x
   · rw [if_pos q,if_pos (by omega)]
   · rw [if_neg q,if_neg (by omega)]
theorem gr_updR_at (A:List (List Nat)) (lo x:Nat) (f:List Nat->List Nat):gr (updR A lo x f) x=gr A x:=by
 by_cases h:x<A.length
 · rw [gr_updR h,if_neg (by omega)]
 · rw [gr_out (by rw [updR_length];omega),gr_out (by omega)]
def swp (j k:Nat) (r:List Nat):List Nat:=(r.set j (gn r k)).set k (gn r j)
theorem swp_length (j k:Nat) (r:List Nat):(swp j k r).length=r.length:=by simp [swp]
theorem gn_swp {j k:Nat} {r:List Nat} (hj:j<r.length) (hk:k<r.length) (c:Nat):gn (swp j k r) c=if c=k then gn r j else if c=j then gn r k else gn r c:=by
 unfold swp
 rw [gn_set _ _ _ _ (by simpa using hk),gn_set _ _ _ _ hj]
theorem swp_self (k:Nat) (r:List Nat):swp k k r=r:=by
 by_cases h:k<r.length
 · apply gn_ext (swp_length _ _ _)
   intro i _
   rw [gn_swp h h]
   split
   · next e=>rw [e]
   · rfl
 · unfold swp;rw [List.set_eq_of_length_le (by simp;omega),List.set_eq_of_length_le (by omega)]
theorem swR_self (A:List (List Nat)) (k:Nat):swR A k k=A:=by
 by_cases h:k<A.length
 · apply gr_ext (swR_length _ _ _)
   intro i _
   rw [gr_swR h h]
   split
   · next e=>rw [e]
   · rfl
 · unfold swR;rw [List.set_eq_of_length_le (by simp;omega),List.set_eq_of_length_le (by omega)]
def swC (A:List (List Nat)) (j k:Nat):List (List Nat):=updR A 0 A.length (swp j k)
theorem swC_length (A:List (List Nat)) (j k:Nat):(swC A j k).length=A.length:=updR_length _ _ _ _
theorem gr_swC {A:List (List Nat)} {j k i:Nat} (h:i<A.length):gr (swC A j k) i=swp j k (gr A i):=by
 unfold swC;rw [gr_updR h,if_pos (by omega)]
theorem swC_self (A:List (List Nat)) (k:Nat):swC A k k=A:=by
 apply gr_ext (swC_length _ _ _)
 intro i hi
 rw [swC_length] at hi
 rw [gr_swC hi,swp_self]
def fdC (r:List Nat):Nat->Nat->Option Nat
 | _,0=>none
 | j,f+1=>if gn r j≠0 then some j else fdC r (j+1) f
def fdR (A:List (List Nat)) (k C:Nat):Nat->Nat->Option (Nat × Nat)
 | _,0=>none
 | i,f+1=>match fdC (gr A i) k (C-k) with
  | some j=>some (i,j)
  | none=>fdR A k C (i+1) f
def findF (A:List (List Nat)) (k C:Nat):Option (Nat × Nat):=fdR A k C k (A.length-k)
theorem fdC_some {r:List Nat}:∀ {f j x:Nat},fdC r j f=some x->j<=x/\x<j+f/\gn r x≠0
 | 0,j,x,h=>by simp [fdC] at h
 | f+1,j,x,h=>by
  unfold fdC at h
  split at h
  · next q=>injection h with h;subst h;exact ⟨Nat.le_refl _,by omega,q⟩
  · obtain ⟨a,b,c⟩:=fdC_some h;exact ⟨by omega,by omega,c⟩
theorem fdC_none {r:List Nat}:∀ {f j:Nat},fdC r j f=none->∀ x,j<=x->x<j+f->gn r x=0
 | 0,j,_,x,h1,h2=>by omega
 | f+1,j,h,x,h1,h2=>by
  unfold fdC at h
  split at h
  · cases h
  · next q =>
    by_cases e:x=j
    · subst e;simpa using q
    · exact fdC_none h x (by omega) (by omega)
theorem fdR_some {A:List (List Nat)} {k C:Nat}:∀ {f i x y:Nat},fdR A k C i f=some (x,y)->i<=x/\x<i+f/\k<=y/\y<k+(C-k)/\ge A x y≠0
 | 0,i,x,y,h=>by simp [fdR] at h
 | f+1,i,x,y,h=>by
  unfold fdR at h
  split at h
  · next j hj =>
    injection h with h
    injection h with h1 h2
    subst h1 h2
    obtain ⟨a,b,c⟩:=fdC_some hj
    exact ⟨by omega,by omega,a,b,c⟩
  · obtain ⟨a,b,c⟩:=fdR_some h;exact ⟨by omega,by omega,c⟩
theorem fdR_none {A:List (List Nat)} {k C:Nat}:∀ {f i:Nat},fdR A k C i f=none->∀ x y,i<=x->x<i+f->k<=y->y<C->ge A x y=0
 | 0,i,_,x,y,h1,h2,_,_=>by omega
 | f+1,i,h,x,y,h1,h2,h3,h4=>by
  unfold fdR at h
  split at h
  · cases h
  · next hn =>
    by_cases e:x=i
    · subst e;exact fdC_none hn y h3 (by omega)
    · exact fdR_none h x y (by omega) (by omega) h3 h4
theorem findF_some {A:List (List Nat)} {k C i j:Nat} (h:findF A k C=some (i,j)):k<=i/\i<A.length/\k<=j/\j<C/\ge A i j≠0:=by
 obtain ⟨a,b,c,d,e⟩:=fdR_some h;exact ⟨a,by omega,c,by omega,e⟩
theorem findF_none {A:List (List Nat)} {k C:Nat} (h:findF A k C=none):∀ i j,k<=i->i<A.length->k<=j->j<C->ge A i j=0 :=
 fun i j h1 h2 h3 h4=>fdR_none h i j h1 (by omega) h3 h4
end Go.Proofs.Ytfnmeigpfmeomaa
namespace Go.Proofs.Ytfnmeigpfmeomaa
open Go.RowKit
set_option linter.unusedVariables false
set_option maxHeartbeats 2000000 in
set_option maxRecDepth 100000 in
theorem find_none (R:Nat) (bs:List Nat) (C:Nat) (A:List (List Nat)) (k:Nat) (w:World) (h:MU w R bs C A) (hA:A.length<=1000) (hC:C<=1000) (hk:k<=1000) (hF:findF A k C=none) :
 Calls Try.prog 68 #[.slice (some ⟨R,0,none⟩) A.length A.length,.int .i64 (k:Nat)] w fun e w'=>e=.returned (.tuple #[.int .i64 0,.bool false])/\w=w':=by
 have HF:=Lib.hid (findF_none hF)
 clear hF
 go_enter Try.func68,Try.ntmps68
 go_wp2_with fail
 go_loopg [6,7] (A.length+1000-k) (fun gk s6 s7 wr=>∃ i:Nat,k<=i/\gk=A.length+1000-i/\i<=1000/\s6=.int .i64 (i:Int)/\w=wr)
 case atStart=>exact ⟨k,Nat.le_refl _,rfl,hk,rfl,rfl⟩
 case round =>
  obtain ⟨i,hki,rfl,hi1,rfl,rfl⟩:=hrel
  by_cases hlt:i<A.length
  · have z1:(i:Int)<(A.length:Int):=by omega
    obtain ⟨b,hb,hbm⟩:=h.bl hlt
    have zc:=h.cellR hb
    have HB:=Lib.hid hb
    have HH:=Lib.hid h
    clear hb h
    go_wp2_with fail
    go_loopg [7] (C+1000-k) (fun gk s7 wr=>∃ j:Nat,k<=j/\gk=C+1000-j/\j<=1000/\s7=.int .i64 (j:Int)/\w=wr)
    case atStart=>exact ⟨k,Nat.le_refl _,rfl,hk,rfl,rfl⟩
    case round =>
     obtain ⟨j,hkj,rfl,hj1,rfl,rfl⟩:=hrel
     by_cases hjt:j<C
     · have z2:(j:Int)<(C:Int):=by omega
       have zd:=HH.out.cell HB.out hjt
       rw [HF.out i j hki hlt hkj hjt] at zd
       go_wp2_with fail
       go_roundg (C+1000-(j+1))
       case measure=>omega
       case rel=>exact ⟨j+1,by omega,rfl,by omega,by go_num,rfl⟩
     · have z2:¬ ((j:Int)<(C:Int)):=by omega
       go_wp2_with fail
       go_roundg (A.length+1000-(i+1))
       case measure=>omega
       case rel=>exact ⟨i+1,by omega,rfl,by omega,by go_num,rfl⟩
  · have z1:¬ ((i:Int)<(A.length:Int)):=by omega
    go_wp2_with fail
    go_ret2
    exact ⟨rfl,rfl⟩
theorem fdR_step {A:List (List Nat)} {k C i f x y:Nat} (h:fdR A k C i (f+1)=some (x,y)):(∃ j,fdC (gr A i) k (C-k)=some j/\x=i/\y=j)\/(fdC (gr A i) k (C-k)=none/\fdR A k C (i+1) f=some (x,y)):=by
 unfold fdR at h
 split at h
 · next j hj=>injection h with h;injection h with h1 h2;exact .inl ⟨j,hj,h1.symm,h2.symm⟩
 · next hn=>exact .inr ⟨hn,h⟩
theorem fdC_hit {r:List Nat} {j f:Nat} (h:gn r j≠0):fdC r j (f+1)=some j:=by unfold fdC;rw [if_pos h]
theorem fdC_miss {r:List Nat} {j f:Nat} (h:gn r j=0):fdC r j (f+1)=fdC r (j+1) f:=by
 rw [fdC,if_neg (by simpa using h)]
theorem swap_hd (C:Nat) (bs:List Nat) (i k b c:Nat):((bs.map (hd C)).set i (hd C c)).set k (hd C b)=((bs.set i c).set k b).map (hd C):=by
 rw [<- List.map_set,<- List.map_set]
theorem swap_all {w:World} {R C:Nat} {bs:List Nat} {A:List (List Nat)} (h:MU w R bs C A) {i k b c:Nat} (hi:bs[i]? = some b) (hk:bs[k]? = some c) :
 MU ((w.drew.setCell ⟨R,i,none⟩ (.slice (some ⟨c,0,none⟩) C C)).setCell ⟨R,k,none⟩ (.slice (some ⟨b,0,none⟩) C C)) R ((bs.set i c).set k b) C (swR A i k)/\(∀ x∈(bs.set i c).set k b,x∈bs) /\
  Wr (R :: bs) w ((w.drew.setCell ⟨R,i,none⟩ (.slice (some ⟨c,0,none⟩) C C)).setCell ⟨R,k,none⟩ (.slice (some ⟨b,0,none⟩) C C)):=by
 have o:Onl R w ((w.drew.setCell ⟨R,i,none⟩ (.slice (some ⟨c,0,none⟩) C C)).setCell ⟨R,k,none⟩ (.slice (some ⟨b,0,none⟩) C C)):=((Onl.refl R w).drew.setCell i _).setCell k _
 have ha:=((h.drew.outer.set i (hd C c)).set k (hd C b))
 rw [swap_hd] at ha
 have hs:=h.swap hi hk o ha
 exact ⟨hs.1,hs.2,Wr.of_onl o (by simp)⟩
theorem swap_row {w w0:World} {R C:Nat} {bs bs0:List Nat} {A:List (List Nat)} (h:MU w R bs C A) {r d j k:Nat} (hr:bs[r]? = some d) (hj:j<C) (hk:k<C) (hd:d∈bs0) (hw:Wr (R :: bs0) w0 w) :
 MU ((w.drew.setCell ⟨d,j,none⟩ (.int .u64 (ge A r k:Nat))).setCell ⟨d,k,none⟩ (.int .u64 (ge A r j:Nat))) R bs C (A.set r (swp j k (gr A r))) /\
  Wr (R :: bs0) w0 ((w.drew.setCell ⟨d,j,none⟩ (.int .u64 (ge A r k:Nat))).setCell ⟨d,k,none⟩ (.int .u64 (ge A r j:Nat))):=by
 have o:Onl d w ((w.drew.setCell ⟨d,j,none⟩ (.int .u64 (ge A r k:Nat))).setCell ⟨d,k,none⟩ (.int .u64 (ge A r j:Nat))):=((Onl.refl d w).drew.setCell j _).setCell k _
 have ha:=(((h.drew.row r d hr).set j (.int .u64 (ge A r k:Nat))).set k (.int .u64 (ge A r j:Nat)))
 rw [uc_set,uc_set] at ha
 exact ⟨h.setRow hr o (by rw [swp_length,h.cols r (h.ilt hr)]) ha,hw.trans (Wr.of_onl o (by simp [hd]))⟩
def Found (R:Nat) (bs:List Nat) (C:Nat) (A:List (List Nat)) (k x y:Nat) (w:World) (w':World):Prop :=
 ∃ bs',MU w' R bs' C (swC (swR A x k) y k)/\(∀ b∈bs',b∈bs)/\Wr (R :: bs) w w'
def exN (x y k:Nat):Nat:=(if x=k then 0 else 1)+(if y=k then 0 else 1)
set_option maxHeartbeats 2000000 in
set_option maxRecDepth 100000 in
theorem find_some (R:Nat) (bs:List Nat) (C:Nat) (A:List (List Nat)) (k x y:Nat) (w:World) (h:MU w R bs C A) (hA:A.length<=1000) (hC:C<=1000) (hk:k<=1000) (hF:findF A k C=some (x,y)) :
 Calls Try.prog 68 #[.slice (some ⟨R,0,none⟩) A.length A.length,.int .i64 (k:Nat)] w fun e w'=>e=.returned (.tuple #[.int .i64 (exN x y k:Nat),.bool true])/\Found R bs C A k x y w w':=by
 have HF:=Lib.hid (show fdR A k C k (A.length-k)=some (x,y) from hF)
 clear hF
 go_enter Try.func68,Try.ntmps68
 go_wp2_with fail
 go_loopg [6,7] (A.length+1000-k) (fun gk s6 s7 wr=>∃ i:Nat,k<=i/\gk=A.length+1000-i/\i<=1000/\s6=.int .i64 (i:Int)/\Hid (fdR A k C i (A.length-i)=some (x,y))/\w=wr)
 case atStart=>exact ⟨k,Nat.le_refl _,rfl,hk,rfl,HF,rfl⟩
 case round =>
  clear HF
  obtain ⟨i,hki,rfl,hi1,rfl,HF,rfl⟩:=hrel
  by_cases hlt:i<A.length
  · have z1:(i:Int)<(A.length:Int):=by omega
    obtain ⟨b,hb,hbm⟩:=h.bl hlt
    have zc:=h.cellR hb
    have HB:=Lib.hid hb
    have HH:=Lib.hid h
    have HS:=Lib.hid (fdR_step (f:=A.length-(i+1)) (show fdR A k C i (A.length-(i+1)+1)=some (x,y) by rw [show A.length-(i+1)+1=A.length-i by omega];exact HF.out))
    clear hb h HF
    go_wp2_with fail
    go_loopg [7] (C+1000-k) (fun gk s7 wr=>∃ j:Nat,k<=j/\gk=C+1000-j/\j<=1000/\s7=.int .i64 (j:Int)/\Hid (fdC (gr A i) j (C-j)=fdC (gr A i) k (C-k))/\w=wr)
    case atStart=>exact ⟨k,Nat.le_refl _,rfl,hk,rfl,Lib.hid rfl,rfl⟩
    case round =>
     obtain ⟨j,hkj,rfl,hj1,rfl,HJ,rfl⟩:=hrel
     by_cases hjt:j<C
     · have z2:(j:Int)<(C:Int):=by omega
       have zd:=HH.out.cell HB.out hjt
       by_cases h0:ge A i j=0
       · rw [h0] at zd
         have HJ2:=Lib.hid (show fdC (gr A i) (j+1) (C-(j+1))=fdC (gr A i) k (C-k) by rw [<- HJ.out,show C-j=C-(j+1)+1 by omega,fdC_miss h0])
         clear h0 HJ
         go_wp2_with fail
         go_roundg (C+1000-(j+1))
         case measure=>omega
         case rel=>exact ⟨j+1,by omega,rfl,by omega,by go_num,HJ2,rfl⟩
       · have HJ2:=Lib.hid (show fdC (gr A i) k (C-k)=some j by rw [<- HJ.out,show C-j=C-(j+1)+1 by omega,fdC_hit h0])
         have HXY:=Lib.hid (show x=i/\y=j by
          rcases HS.out with ⟨j',e1,e2,e3⟩|⟨e1,_⟩
          · rw [HJ2.out] at e1;injection e1 with e1;exact ⟨e2,e3.trans e1.symm⟩
          · rw [HJ2.out] at e1;cases e1)
         clear HJ HJ2 HS
         have z3:((ge A i j:Nat):Int)≠0:=by omega
         have z4:(((ge A i j:Nat):Int)==0)=false:=by simp;omega
         generalize ge A i j=v at *
         clear h0
         go_upto_if 38 with fail
         have HR:=Lib.hid (show (k<A.length) by omega)
         obtain ⟨c,hc',hcm⟩:=HH.out.bl HR.out
         have zk:=HH.out.cellR hc'
         have zf:=HH.out.outer.frozen
         have HC':=Lib.hid hc'
         clear hc'
         go_cut [8] (fun s8 wx=>s8=.int .i64 ((if i=k then 0 else 1:Nat):Int)/\∃ bs1,MU wx R bs1 C (swR A i k)/\(∀ x∈bs1,x∈bs)/\Wr (R :: bs) w wx)
         case first =>
          by_cases e:i=k
          · have z5:((i:Int) != (k:Int))=false:=by simp;omega
            have E:=Lib.hid e
            clear e
            go_wp2_with fail
            go_meet
            exact ⟨by rw [if_pos E.out];rfl,bs,by rw [E.out,swR_self];exact HH.out,fun _ h=>h,Wr.refl _ _⟩
          · have z5:((i:Int) != (k:Int))=true:=by simp;omega
            have z6:(k:Int)<(A.length:Int):=by omega
            have z7:=zf i
            have z8:=zf k
            go_upto_region 10 with fail
            go_region
            go_wp2_with fail
            go_meet
            have hS:=swap_all HH.out HB.out HC'.out
            exact ⟨by rw [if_neg e];rfl,_,hS.1,hS.2.1,hS.2.2⟩
         case rest =>
          clear zc zd zk zf
          obtain ⟨rfl,bs1,h1,hs1,hw1⟩:=hcut
          have hl1:(swR A i k).length=A.length:=swR_length _ _ _
          have HL:=Lib.hid hl1
          have HH1:=Lib.hid h1
          have HX:=Lib.hid hs1
          clear h1 hl1 hs1
          obtain ⟨ex1,hex1⟩:∃ n:Nat,n=(if i=k then 0 else 1):=⟨_,rfl⟩
          have hex:ex1<=1:=by rw [hex1];split <;> omega
          rw [<- hex1]
          have HE1:=Lib.hid hex1
          clear hex1
          by_cases e:j=k
          · have z5:((j:Int) != (k:Int))=false:=by simp;omega
            have E:=Lib.hid e
            clear e
            go_wp2_with fail
            go_ret2
            obtain ⟨rfl,rfl⟩:=HXY.out
            refine ⟨?_,bs1,?_,HX.out,hw1⟩
            · unfold exN;rw [if_pos E.out,<- HE1.out];rfl
            · rw [E.out,swC_self];exact HH1.out
          · have z5:((j:Int) != (k:Int))=true:=by simp;omega
            have E:=Lib.hid e
            clear e
            have hkc:(k:Int)<(C:Int):=by omega
            have hkC:k<C:=by omega
            have HXW:=Lib.hid hw1
            clear hw1
            go_wp2_with fail
            go_loopg [10,60] A.length (fun gk s10 s60 wr=>∃ r:Nat,r<=A.length/\gk=A.length-r/\s60=.int .i64 (r:Int)/\MU wr R bs1 C (updR (swR A i k) 0 r (swp j k))/\Wr (R :: bs) w wr)
            case atStart=>exact ⟨0,Nat.zero_le _,rfl,rfl,by rw [updR_start];exact HH1.out,HXW.out⟩
            case round =>
             clear HXW HH1 HH
             obtain ⟨r,hr,rfl,rfl,hm,hw⟩:=hrel
             obtain ⟨wo,rfl⟩:∃ wo:World,wo=wr:=⟨_,rfl⟩
             by_cases hrt:r<A.length
             · have z6:(r:Int)<(A.length:Int):=by omega
               obtain ⟨d,hd',hdm⟩:=hm.bl (i:=r) (by rw [updR_length,HL.out];exact hrt)
               have zr:=hm.cellR hd'
               have zj:=hm.cell hd' hjt
               have zk:=hm.cell hd' hkC
               have zf1:=(hm.row r d hd').frozen j
               have zf2:=(hm.row r d hd').frozen k
               have HM:=Lib.hid (swap_row hm hd' hjt hkC (HX.out d hdm) hw)
               rw [gr_updR_at,updR_step (Nat.zero_le _) (by rw [HL.out];exact hrt)] at HM
               unfold ge at zj zk HM
               rw [gr_updR_at] at zj zk HM
               generalize gn (gr (swR A i k) r) j=v1 at *
               generalize gn (gr (swR A i k) r) k=v2 at *
               clear hm hw hd'
               have z7:¬ (k=j):=fun q=>E.out q.symm
               go_upto_region 16 with fail
               go_region
               go_wp2_with fail
               go_roundg (A.length-(r+1))
               case measure=>omega
               case rel=>exact ⟨r+1,by omega,rfl,by go_num,HM.out.1,HM.out.2⟩
             · have z6:¬ ((r:Int)<(A.length:Int)):=by omega
               have hrn:r=A.length:=by omega
               subst hrn
               go_wp2_with fail
               go_ret2
               obtain ⟨rfl,rfl⟩:=HXY.out
               refine ⟨?_,bs1,?_,HX.out,hw⟩
               · unfold exN;rw [if_neg E.out,<- HE1.out];rfl
               · unfold swC;rw [HL.out];exact hm
     · have z2:¬ ((j:Int)<(C:Int)):=by omega
       have HF2:=Lib.hid (show fdR A k C (i+1) (A.length-(i+1))=some (x,y) by
        rcases HS.out with ⟨j',e1,_,_⟩|⟨_,e2⟩
        · rw [<- HJ.out,show C-j=0 by omega] at e1;cases e1
        · exact e2)
       go_wp2_with fail
       go_roundg (A.length+1000-(i+1))
       case measure=>omega
       case rel=>exact ⟨i+1,by omega,rfl,by omega,by go_num,HF2,rfl⟩
  · exfalso
    have e1:=HF.out
    rw [show A.length-i=0 by omega] at e1
    cases e1
def cmb (m by_ k x:Nat) (q r:List Nat):List Nat:=(List.range r.length).map fun j=>if k<=j/\j<x then (gn r j+(m-by_*gn q j%m))%m else gn r j
theorem cmb_length (m by_ k x:Nat) (q r:List Nat):(cmb m by_ k x q r).length=r.length:=by simp [cmb]
theorem gn_cmb {m by_ k x:Nat} {q r:List Nat} {j:Nat} (h:j<r.length):gn (cmb m by_ k x q r) j=if k<=j/\j<x then (gn r j+(m-by_*gn q j%m))%m else gn r j:=by
 unfold cmb;rw [gn_map_range,if_pos h]
theorem cmb_start (m by_ k:Nat) (q r:List Nat):cmb m by_ k k q r=r:=by
 apply gn_ext (cmb_length _ _ _ _ _ _)
 intro i hi
 rw [cmb_length] at hi
 rw [gn_cmb hi,if_neg (by omega)]
theorem cmb_step {m by_ k x:Nat} {q r:List Nat} (h1:k<=x) (h2:x<r.length):(cmb m by_ k x q r).set x ((gn r x+(m-by_*gn q x%m))%m)=cmb m by_ k (x+1) q r:=by
 apply gn_ext (by simp [cmb_length])
 intro i hi
 have hi':i<r.length:=by simpa [cmb_length] using hi
 rw [gn_set _ _ _ _ (by rw [cmb_length];exact h2),gn_cmb hi',gn_cmb hi']
 by_cases e:i=x
 · subst e;rw [if_pos rfl,if_pos (by omega)]
 · rw [if_neg e]
   by_cases c:k<=i/\i<x
   · rw [if_pos c,if_pos (by omega)]
   · rw [if_neg c,if_neg (by omega)]
theorem gn_cmb_at {m by_ k x:Nat} {q r:List Nat} (h:x<r.length):gn (cmb m by_ k x q r) x=gn r x:=by rw [gn_cmb h,if_neg (by omega)]
attribute [local go_sem ↓] Go.wp_at_zero Go.wp_at_succ
set_option maxHeartbeats 4000000 in
set_option maxRecDepth 100000 in
theorem combine_any (b c rk pv C:Nat) (r q:List Nat) (by_ k:Nat) (w:World) (hr:Arr w b 88 (uc r)) (hq:Arr w c 88 (uc q)) (hrk:Arr w rk 3 [.int .i64 (k:Int)]) (hpv:Arr w pv 103 [hd C c])
 (hbc:b≠c) (hb1:b≠rk) (hb2:b≠pv) (hrl:r.length=C) (hql:q.length=C) (hC:C<=1000) (hk:k<=C) (hby:by_<2305843009213693951)
 (hrs:∀ j,gn r j<2305843009213693951) (hqs:∀ j,gn q j<2305843009213693951) :
 Calls Try.prog 72 #[.slice (some ⟨b,0,none⟩) C C,.int .u64 (by_:Nat),.pointer (some ⟨rk,0,none⟩),.pointer (some ⟨pv,0,none⟩)] w fun e w'=>e=.returned (.tuple #[])/\Arr w' b 88 (uc (cmb 2305843009213693951 by_ k C q r))/\Onl b w w':=by
 have y0:=hrk.cell 0
 have y1:=hpv.cell 0
 have HRS:=Lib.hid hrs
 have HQS:=Lib.hid hqs
 have HRL:=Lib.hid hrl
 have HQL:=Lib.hid hql
 clear hrs hqs hrl hql
 go_enter Try.func72,Try.ntmps72
 go_wp2_with fail
 go_loopg [6] (C-k) (fun gk s6 wr=>∃ x:Nat,k<=x/\x<=C/\gk=C-x/\s6=.int .i64 (x:Int)/\Arr wr b 88 (uc (cmb 2305843009213693951 by_ k x q r))/\Onl b w wr)
 case atStart=>exact ⟨k,Nat.le_refl _,hk,rfl,rfl,by rw [cmb_start];exact hr,Onl.refl _ _⟩
 case round =>
  obtain ⟨x,hkx,hx,rfl,rfl,hb,ho⟩:=hrel
  by_cases hlt:x<C
  · have z1:(x:Int)<(C:Int):=by omega
    have hxr:x<r.length:=by rw [HRL.out];exact hlt
    have zr:=(hb.cell x).trans (uc_get (by rw [cmb_length];exact hxr))
    rw [gn_cmb_at hxr] at zr
    have zf:=hb.frozen x
    have zq:=((hq.onl ho hbc.symm).cell x).trans (uc_get (by rw [HQL.out];exact hlt))
    have zk:=(ho.cell (p:=⟨rk,0,none⟩) hb1.symm).trans y0
    have zp:wr.cell? ⟨pv,0,none⟩=some (.slice (some ⟨c,0,none⟩) C C):=(ho.cell (p:=⟨pv,0,none⟩) hb2.symm).trans y1
    have h1:=HRS.out x
    have h2:=HQS.out x
    have HM:=Lib.hid (fun W=>mulP_any by_ (gn q x) W (by omega) (by omega))
    have hml:by_*gn q x%2305843009213693951<2305843009213693951:=Nat.mod_lt _ (by omega)
    have HS:=Lib.hid (fun W=>subP_any (gn r x) (by_*gn q x%2305843009213693951) W h1 hml)
    have HN:=Lib.hid (fun (W:World) (hW:Onl b wr W) (ha:Arr W b 88 (uc (cmb 2305843009213693951 by_ k x q r)))=>(show Arr (W.setCell ⟨b,x,none⟩ (.int .u64 (((gn r x+(2305843009213693951-by_*gn q x%2305843009213693951))%2305843009213693951:Nat):Int))) b 88 (uc (cmb 2305843009213693951 by_ k (x+1) q r))/\Onl b w (W.setCell ⟨b,x,none⟩ (.int .u64 (((gn r x+(2305843009213693951-by_*gn q x%2305843009213693951))%2305843009213693951:Nat):Int))) from by
     rw [<- cmb_step hkx hxr,<- uc_set]
     exact ⟨ha.set x _,(ho.trans hW).setCell x _⟩))
    generalize by_*gn q x%2305843009213693951=p at *
    generalize gn q x=vq at *
    generalize (gn r x+(2305843009213693951-p))%2305843009213693951=vn at *
    generalize gn r x=vr at *
    have HB:=Lib.hid hb
    clear hb ho y0 y1
    go_upto_region 3 with fail
    go_region_with (first|(go_at_call 69;(with_reducible refine (HM.out _).mono ?_);rintro e w' ⟨n,rfl,rfl⟩)|(go_at_call 70;(with_reducible refine (HS.out _).mono ?_);rintro e w' ⟨rfl,rfl⟩))
    all_goals go_wp2_with fail
    all_goals
     go_roundg (C-(x+1))
     case measure=>omega
     case rel=>exact ⟨x+1,by omega,by omega,rfl,by go_num,HN.out _ ((Onl.refl _ _).drewN _) HB.out⟩
  · have z1:¬ ((x:Int)<(C:Int)):=by omega
    have hxn:x=C:=by omega
    have HX:=Lib.hid hxn
    clear hxn
    go_wp2_with fail
    go_end0
    exact ⟨rfl,by rw [<- HX.out];exact hb,ho⟩
end Go.Proofs.Ytfnmeigpfmeomaa
namespace Go.Proofs.Ytfnmeigpfmeomaa
open Go.RowKit
set_option linter.unusedVariables false
def rowPre (k i:Nat) (A:List (List Nat)):List (List Nat):=if ge A i k%ge A k k≠0 then swR A k i else A
def rowStep (m k i:Nat) (A:List (List Nat)):List (List Nat) :=
 (rowPre k i A).set i (cmb m (ge (rowPre k i A) i k/ge (rowPre k i A) k k) k (gr (rowPre k i A) i).length (gr (rowPre k i A) k) (gr (rowPre k i A) i))
def Ltm (m:Nat) (A:List (List Nat)):Prop:=∀ i j,ge A i j<m
theorem rowPre_length (k i:Nat) (A:List (List Nat)):(rowPre k i A).length=A.length:=by unfold rowPre;split <;> simp [swR_length]
theorem Ltm.swR {m:Nat} {A:List (List Nat)} (h:Ltm m A) {i k:Nat} (hi:i<A.length) (hk:k<A.length):Ltm m (swR A i k):=by
 intro x y
 unfold ge
 rw [gr_swR hi hk]
 split
 · exact h i y
 · split
   · exact h k y
   · exact h x y
theorem Ltm.rowPre {m:Nat} {A:List (List Nat)} (h:Ltm m A) {i k:Nat} (hi:i<A.length) (hk:k<A.length):Ltm m (rowPre k i A):=by
 unfold Go.Proofs.Ytfnmeigpfmeomaa.rowPre;split
 · exact h.swR hk hi
 · exact h
theorem rowPre_pos {A:List (List Nat)} {i k:Nat} (hi:i<A.length) (hk:k<A.length) (h0:ge A k k≠0):ge (rowPre k i A) k k≠0:=by
 unfold rowPre
 split
 · next h =>
   unfold ge
   rw [gr_swR hk hi]
   split
   · next e=>exact h0
   · rw [if_pos rfl]
     intro q
     apply h
     show gn (gr A i) k%_=0
     rw [q,Nat.zero_mod]
 · exact h0
structure Bx (w:World) (ab kb mb R n k m:Nat):Prop where
 a:Arr w ab 100 [.slice (some ⟨R,0,none⟩) n n]
 k:Arr w kb 3 [.int .i64 (k:Int)]
 m:Arr w mb 88 [.int .u64 (m:Int)]
theorem Bx.wr {L:List Nat} {w w':World} {ab kb mb R n k m:Nat} (h:Bx w ab kb mb R n k m) (o:Wr L w w') (ha:ab ∉ L) (hk:kb ∉ L) (hm:mb ∉ L):Bx w' ab kb mb R n k m:=⟨h.a.wr o ha,h.k.wr o hk,h.m.wr o hm⟩
theorem Bx.drewN {w:World} {ab kb mb R n k m:Nat} (h:Bx w ab kb mb R n k m) (q:Nat):Bx (w.drewN q) ab kb mb R n k m:=⟨h.a,h.k,h.m⟩
theorem quo_nat (a b:Nat):(a:Int)/(b:Int)=((a/b:Nat):Int):=by simp
attribute [local go_sem ↓] Go.wp_at_zero Go.wp_at_succ
set_option maxHeartbeats 4000000 in
set_option maxRecDepth 100000 in
theorem rowStep_any (ab kb mb R:Nat) (bs:List Nat) (C:Nat) (A:List (List Nat)) (k i m:Nat) (w:World) (h:MU w R bs C A) (hx:Bx w ab kb mb R A.length k m)
 (n1:ab ∉ R :: bs) (n2:kb ∉ R :: bs) (n3:mb ∉ R :: bs) (hA:A.length<=1000) (hC:C<=1000) (hi:i<A.length) (hk:k<A.length) (hkC:k<C) (hik:i≠k) (h0:ge A k k≠0) (hs:Ltm m A) (hm:m<=4611686018427387904) :
 Calls Try.prog 80 #[.int .i64 (i:Nat),.pointer (some ⟨ab,0,none⟩),.pointer (some ⟨kb,0,none⟩),.pointer (some ⟨mb,0,none⟩)] w fun e w'=>e=.returned (.tuple #[])/\∃ bs',MU w' R bs' C (rowStep m k i A)/\(∀ b∈bs',b∈bs)/\Wr (R :: bs) w w':=by
 have q1:ab≠R:=fun e=>n1 (by simp [e])
 have q2:kb≠R:=fun e=>n2 (by simp [e])
 have q1':R≠ab:=q1.symm
 have q2':R≠kb:=q2.symm
 have N1:=Lib.hid n1
 have N2:=Lib.hid n2
 have N3:=Lib.hid n3
 clear n1 n2 n3
 obtain ⟨bi,hbi,hbim⟩:=h.bl hi
 obtain ⟨bk,hbk,hbkm⟩:=h.bl hk
 have y0:=hx.a.cell 0
 have y1:=hx.k.cell 0
 have z1:(i:Int)<(A.length:Int):=by omega
 have z2:(k:Int)<(A.length:Int):=by omega
 have z3:(k:Int)<(C:Int):=by omega
 have c1:=h.cellR hbi
 have c2:=h.cellR hbk
 have c3:=h.cell hbi hkC
 have c4:=h.cell hbk hkC
 have zf1:=h.outer.frozen i
 have zf2:=h.outer.frozen k
 have HS:=Lib.hid hs
 have HH:=Lib.hid h
 have HX:=Lib.hid hx
 have HX0:=Lib.hid hx
 have HBI:=Lib.hid hbi
 have HBK:=Lib.hid hbk
 have e1:=rem_nat (ge A i k) (ge A k k)
 have z4:((ge A k k:Nat):Int)≠0:=by omega
 have z5:(((ge A k k:Nat):Int)==0)=false:=by simp;omega
 have HP:=Lib.hid (rowPre_pos hi hk h0)
 have HP1:=Lib.hid (fun q:ge A i k%ge A k k≠0=>show rowPre k i A=swR A k i from if_pos q)
 have HP2:=Lib.hid (fun q:¬ ge A i k%ge A k k≠0=>show rowPre k i A=A from if_neg q)
 have b1:=hs i k
 have b2:=hs k k
 generalize ge A i k%ge A k k=t at *
 generalize ge A i k=vi at *
 generalize ge A k k=vk at *
 clear h hx hbi hbk hs
 go_enter Try.func80,Try.ntmps80
 go_wp2_with fail
 go_quiet (fail)
 go_upto_region 1 with fail
 have HW0:=Lib.hid (fun q=>(⟨HH.out.drewN _,(Wr.refl (R :: bs) w).drewN _,HX.out.drewN _⟩:MU (w.drewN (nq+q)) R bs C A/\Wr (R :: bs) w (w.drewN (nq+q))/\Bx (w.drewN (nq+q)) ab kb mb R A.length k m))
 generalize nq=n0 at *
 go_quiet (fail)
 have h1:MU ((w.drewN n0).drewN nq) R bs C A/\Wr (R :: bs) w ((w.drewN n0).drewN nq)/\Bx ((w.drewN n0).drewN nq) ab kb mb R A.length k m:=by rw [drewN_add];exact HW0.out nq
 generalize (w.drewN n0).drewN nq=W at *
 obtain ⟨h1,h2,h3⟩:=h1
 clear HW0 HH HX c1 c2 c3 c4 zf1 zf2 y0 y1
 have y0:=h3.a.cell 0
 have y1:=h3.k.cell 0
 have c1:=h1.cellR HBI.out
 have c2:=h1.cellR HBK.out
 have zf1:=h1.outer.frozen i
 have zf2:=h1.outer.frozen k
 have HH:=Lib.hid h1
 have HWW:=Lib.hid h2
 have HX:=Lib.hid h3
 clear h1 h2 h3
 go_upto_if 32 with fail
 go_cut [5,6] (fun s5 s6 wx=>∃ bs1 p q,s5=.slice (some ⟨p,0,none⟩) C C/\s6=.slice (some ⟨q,0,none⟩) C C/\bs1[i]? = some p/\bs1[k]? = some q/\MU wx R bs1 C (rowPre k i A)/\(∀ b∈bs1,b∈bs)/\Wr (R :: bs) w wx)
 case first =>
  by_cases ht:t=0
  · have z6:((t:Int) != 0)=false:=by simp;omega
    have HT:=Lib.hid ht
    clear ht
    go_wp2_with fail
    go_meet
    exact ⟨bs,bi,bk,rfl,rfl,HBI.out,HBK.out,by rw [HP2.out (fun q=>q HT.out)];exact HH.out,fun _ h=>h,HWW.out⟩
  · have z6:((t:Int) != 0)=true:=by simp;omega
    have HS3:=Lib.hid (swap_all HH.out HBK.out HBI.out)
    have HL1:=Lib.hid (show i<bs.length/\k<bs.length from ⟨by rw [HH.out.len];exact hi,by rw [HH.out.len];exact hk⟩)
    go_upto_region 3 with fail
    go_region
    go_wp2_with fail
    go_meet
    have e2:=HS3.out
    refine ⟨_,bk,bi,rfl,rfl,?_,?_,by rw [HP1.out ht];exact e2.1,e2.2.1,HWW.out.trans e2.2.2⟩
    · rw [List.getElem?_set];simp [HL1.out.1]
    · rw [List.getElem?_set,if_neg hik,List.getElem?_set];simp [HL1.out.2]
 case rest =>
  clear y0 y1 c1 c2 zf1 zf2
  obtain ⟨bs1,p,q,rfl,rfl,hp,hq,h1,hs1,hw1⟩:=hcut
  obtain ⟨B,hB⟩:∃ B,B=rowPre k i A:=⟨_,rfl⟩
  have HST:=Lib.hid (show rowStep m k i A=B.set i (cmb m (ge B i k/ge B k k) k (gr B i).length (gr B k) (gr B i)) by rw [hB];rfl)
  have HLB:=Lib.hid (show B.length=A.length by rw [hB];exact rowPre_length _ _ _)
  have HSB:=Lib.hid (show Ltm m B by rw [hB];exact HS.out.rowPre hi hk)
  rw [<- hB] at h1 HP
  clear hB HP1 HP2 HS HBI HBK HH HX HWW
  have h3:=HX0.out.wr hw1 N1.out N2.out N3.out
  have y1:=h3.k.cell 0
  have c3:=h1.cell hp hkC
  have c4:=h1.cell hq hkC
  have e1:=quo_nat (ge B i k) (ge B k k)
  have HCB:=Lib.hid (show ge B i k<m/\ge B k k<m from ⟨HSB.out i k,HSB.out k k⟩)
  have hvl:ge B i k/ge B k k<m:=Nat.lt_of_le_of_lt (Nat.div_le_self _ _) HCB.out.1
  have hpq:p≠q:=h1.ne hp hq hik
  have HM:=Lib.hid h1
  have HWX:=Lib.hid hw1
  have HX:=Lib.hid h3
  have HPI:=Lib.hid hp
  have HQK:=Lib.hid hq
  have hp0:=HP.out
  have z6:((ge B k k:Nat):Int)≠0:=by omega
  have z7:(((ge B k k:Nat):Int)==0)=false:=by simp;omega
  have hkk:=HCB.out.1
  have hkk2:=HCB.out.2
  obtain ⟨v,hv⟩:∃ v,v=ge B i k/ge B k k:=⟨_,rfl⟩
  rw [<- hv] at HST e1 hvl
  clear hv
  generalize ge B i k=ui at *
  generalize ge B k k=uk at *
  clear h1 hw1 h3 hp hq
  go_upto_region 4 with fail
  go_quiet (fail)
  go_upto_region 6 with fail
  have h1:MU (wc.drewN nq) R bs1 C B/\Wr (R :: bs) w (wc.drewN nq)/\Bx (wc.drewN nq) ab kb mb R A.length k m:=⟨HM.out.drewN _,HWX.out.drewN _,HX.out.drewN _⟩
  generalize wc.drewN nq=W0 at *
  clear HM HWX HX e1 y1 c3 c4
  obtain ⟨h1,h2,h3⟩:=h1
  have HM:=Lib.hid h1
  have HWX:=Lib.hid h2
  have HX:=Lib.hid h3
  have hpb:p∈bs:=hs1 p (List.mem_of_getElem? HPI.out)
  have nm:mb≠p:=fun e=>N3.out (by rw [e];simp [hpb])
  have HCP:=Lib.hid (show (gr B i).length=C from h1.cols i (h1.ilt HPI.out))
  have HCQ:=Lib.hid (show (gr B k).length=C from h1.cols k (h1.ilt HQK.out))
  have HRP:=Lib.hid (h1.row i p HPI.out)
  have HRQ:=Lib.hid (h1.row k q HQK.out)
  clear h1 h2 h3
  go_wp2_with fail
  go_loopg [8] (C-k) (fun gk s8 wr=>∃ x:Nat,k<=x/\x<=C/\gk=C-x/\s8=.int .i64 (x:Int)/\Arr wr p 88 (uc (cmb m v k x (gr B k) (gr B i)))/\Onl p W0 wr)
  case atStart=>exact ⟨k,Nat.le_refl _,by omega,rfl,rfl,by rw [cmb_start];exact HRP.out,Onl.refl _ _⟩
  case round =>
   obtain ⟨x,hkx,hx,rfl,rfl,hb,ho⟩:=hrel
   by_cases hlt:x<C
   · have z1':(x:Int)<(C:Int):=by omega
     have hxr:x<(gr B i).length:=by rw [HCP.out];exact hlt
     have zr:=(hb.cell x).trans (uc_get (by rw [cmb_length];exact hxr))
     rw [gn_cmb_at hxr] at zr
     have zf:=hb.frozen x
     have zq:=((HRQ.out.onl ho hpq.symm).cell x).trans (uc_get (by rw [HCQ.out];exact hlt))
     have zm:wr.cell? ⟨mb,0,none⟩=some (.int .u64 (m:Int)):=(ho.cell (p:=⟨mb,0,none⟩) nm).trans (HX.out.m.cell 0)
     have d1:gn (gr B i) x<m:=HSB.out i x
     have d2:gn (gr B k) x<m:=HSB.out k x
     have HMM:=Lib.hid (fun W=>mulMod_any v (gn (gr B k) x) m W (by omega) (by omega) (by omega) (by omega))
     have hml:v*gn (gr B k) x%m<m:=Nat.mod_lt _ (by omega)
     have HSS:=Lib.hid (fun W=>subMod_any (gn (gr B i) x) (v*gn (gr B k) x%m) m W d1 hml hm)
     have HN:=Lib.hid (fun (W:World) (hW:Onl p wr W) (ha:Arr W p 88 (uc (cmb m v k x (gr B k) (gr B i))))=>(show Arr (W.setCell ⟨p,x,none⟩ (.int .u64 (((gn (gr B i) x+(m-v*gn (gr B k) x%m))%m:Nat):Int))) p 88 (uc (cmb m v k (x+1) (gr B k) (gr B i)))/\Onl p W0 (W.setCell ⟨p,x,none⟩ (.int .u64 (((gn (gr B i) x+(m-v*gn (gr B k) x%m))%m:Nat):Int))) from by
      rw [<- cmb_step hkx hxr,<- uc_set]
      exact ⟨ha.set x _,(ho.trans hW).setCell x _⟩))
     generalize v*gn (gr B k) x%m=pr at *
     generalize gn (gr B k) x=vq at *
     generalize (gn (gr B i) x+(m-pr))%m=vn at *
     generalize gn (gr B i) x=vr at *
     have HB:=Lib.hid hb
     clear hb ho
     go_upto_region 8 with fail
     have nm':p≠mb:=nm.symm
     have zpq:q≠p:=hpq.symm
     refine wp_region_table 16 (by kernel_rfl) (by kernel_rfl) (by kernel_rfl) (by kernel_rfl) (by kernel_rfl) rfl (by kernel_rfl) (fun i=>[Value.slice (some ⟨p,0,none⟩) C C,Value.int .i64 (x:Int),Value.slice (some ⟨p,0,none⟩) C C,Value.int .i64 (x:Int),Value.pointer (some ⟨p,x,none⟩),Value.int .u64 (vr:Int),Value.int .u64 (v:Int),Value.slice (some ⟨q,0,none⟩) C C,Value.int .i64 (x:Int),Value.pointer (some ⟨q,x,none⟩),Value.int .u64 (vq:Int),Value.int .u64 (m:Int),Value.int .u64 (pr:Int),Value.int .u64 (m:Int),Value.int .u64 (vn:Int),Value.pointer (some ⟨p,x,none⟩),undef].getD i undef) (fun W=>W.setCell ⟨p,x,none⟩ (.int .u64 (vn:Int))) ⟨?_,?_,?_,?_,?_,?_,?_,?_,?_,?_,?_,?_,?_,?_,?_,?_,?_,trivial⟩ ?_
     · intro m0 b hb
       have e5:b.tmps[5]?.getD undef=Value.slice (some ⟨p,0,none⟩) C C:=hb 5 rfl
       refine tab_run (by decide) (Value.slice (some ⟨p,0,none⟩) C C) rfl ?_
       clear hb
       go_simp
     · intro m0 b hb
       have e8:b.tmps[8]?.getD undef=Value.int .i64 (x:Int):=hb 8 rfl
       refine tab_run (by decide) (Value.int .i64 (x:Int)) rfl ?_
       clear hb
       go_simp
     · intro m0 b hb
       have e5:b.tmps[5]?.getD undef=Value.slice (some ⟨p,0,none⟩) C C:=hb 5 rfl
       refine tab_run (by decide) (Value.slice (some ⟨p,0,none⟩) C C) rfl ?_
       clear hb
       go_simp
     · intro m0 b hb
       have e8:b.tmps[8]?.getD undef=Value.int .i64 (x:Int):=hb 8 rfl
       refine tab_run (by decide) (Value.int .i64 (x:Int)) rfl ?_
       clear hb
       go_simp
     · intro m0 b hb
       have e61:b.tmps[61]?.getD undef=Value.slice (some ⟨p,0,none⟩) C C:=hb 61 rfl
       have e62:b.tmps[62]?.getD undef=Value.int .i64 (x:Int):=hb 62 rfl
       refine tab_run (by decide) (Value.pointer (some ⟨p,x,none⟩)) rfl ?_
       clear hb
       go_simp
     · intro m0 b hb
       have e63:b.tmps[63]?.getD undef=Value.pointer (some ⟨p,x,none⟩):=hb 63 rfl
       refine tab_run (by decide) (Value.int .u64 (vr:Int)) rfl ?_
       clear hb
       go_simp
     · intro m0 b hb
       have e7:b.tmps[7]?.getD undef=Value.int .u64 (v:Int):=hb 7 rfl
       refine tab_run (by decide) (Value.int .u64 (v:Int)) rfl ?_
       clear hb
       go_simp
     · intro m0 b hb
       have e6:b.tmps[6]?.getD undef=Value.slice (some ⟨q,0,none⟩) C C:=hb 6 rfl
       refine tab_run (by decide) (Value.slice (some ⟨q,0,none⟩) C C) rfl ?_
       clear hb
       go_simp
     · intro m0 b hb
       have e8:b.tmps[8]?.getD undef=Value.int .i64 (x:Int):=hb 8 rfl
       refine tab_run (by decide) (Value.int .i64 (x:Int)) rfl ?_
       clear hb
       go_simp
     · intro m0 b hb
       have e66:b.tmps[66]?.getD undef=Value.slice (some ⟨q,0,none⟩) C C:=hb 66 rfl
       have e67:b.tmps[67]?.getD undef=Value.int .i64 (x:Int):=hb 67 rfl
       refine tab_run (by decide) (Value.pointer (some ⟨q,x,none⟩)) rfl ?_
       clear hb
       go_simp
     · intro m0 b hb
       have e68:b.tmps[68]?.getD undef=Value.pointer (some ⟨q,x,none⟩):=hb 68 rfl
       refine tab_run (by decide) (Value.int .u64 (vq:Int)) rfl ?_
       clear hb
       go_simp
     · intro m0 b hb
       have e3:b.tmps[3]?.getD undef=Value.pointer (some ⟨mb,0,none⟩):=hb 3 rfl
       refine tab_run (by decide) (Value.int .u64 (m:Int)) rfl ?_
       clear hb
       go_simp
     · intro m0 b hb
       have e65:b.tmps[65]?.getD undef=Value.int .u64 (v:Int):=hb 65 rfl
       have e69:b.tmps[69]?.getD undef=Value.int .u64 (vq:Int):=hb 69 rfl
       have e70:b.tmps[70]?.getD undef=Value.int .u64 (m:Int):=hb 70 rfl
       refine tab_call (by decide) (Value.int .u64 (pr:Int)) rfl ?_ (HMM.out _)
       clear hb
       go_simp
     · intro m0 b hb
       have e3:b.tmps[3]?.getD undef=Value.pointer (some ⟨mb,0,none⟩):=hb 3 rfl
       refine tab_run (by decide) (Value.int .u64 (m:Int)) rfl ?_
       clear hb
       go_simp
     · intro m0 b hb
       have e64:b.tmps[64]?.getD undef=Value.int .u64 (vr:Int):=hb 64 rfl
       have e71:b.tmps[71]?.getD undef=Value.int .u64 (pr:Int):=hb 71 rfl
       have e72:b.tmps[72]?.getD undef=Value.int .u64 (m:Int):=hb 72 rfl
       refine tab_call (by decide) (Value.int .u64 (vn:Int)) rfl ?_ ((HSS.out _).mono fun e w' ⟨h,hw⟩=>⟨0,h,hw.symm⟩)
       clear hb
       go_simp
     · intro m0 b hb
       have e59:b.tmps[59]?.getD undef=Value.slice (some ⟨p,0,none⟩) C C:=hb 59 rfl
       have e60:b.tmps[60]?.getD undef=Value.int .i64 (x:Int):=hb 60 rfl
       refine tab_run (by decide) (Value.pointer (some ⟨p,x,none⟩)) rfl ?_
       clear hb
       go_simp
     · intro m0 b hb
       have e73:b.tmps[73]?.getD undef=Value.int .u64 (vn:Int):=hb 73 rfl
       have e74:b.tmps[74]?.getD undef=Value.pointer (some ⟨p,x,none⟩):=hb 74 rfl
       refine tab_store undef rfl _ rfl ?_ rfl
       clear hb
       go_simp
     intro m0
     simp only [putAll,dstOf,Act.put,List.map_cons,List.map_nil,List.setIfInBounds_toArray,List.set_cons_succ,List.set_cons_zero,Nat.reduceAdd,List.getD_cons_succ,List.getD_cons_zero]
     go_wp2_with fail
     all_goals
      go_roundg (C-(x+1))
      case measure=>omega
      case rel=>exact ⟨x+1,by omega,by omega,rfl,by go_num,HN.out _ ((Onl.refl _ _).drewN _) HB.out⟩
   · have z1':¬ ((x:Int)<(C:Int)):=by omega
     have hxn:x=C:=by omega
     have HXN:=Lib.hid hxn
     clear hxn
     go_wp2_with fail
     go_end0
     refine ⟨rfl,bs1,?_,hs1,HWX.out.trans (Wr.of_onl ho (by simp [hpb]))⟩
     rw [HST.out]
     refine HM.out.setRow HPI.out ho (by rw [cmb_length,HCP.out]) ?_
     rw [HCP.out,<- HXN.out];exact hb
end Go.Proofs.Ytfnmeigpfmeomaa
namespace Go.Proofs.Ytfnmeigpfmeomaa
open Go.RowKit
set_option linter.unusedVariables false
def colPre (k j:Nat) (A:List (List Nat)):List (List Nat):=if ge A k j%ge A k k≠0 then updR A k A.length (swp k j) else A
def colF (m k j by_:Nat) (r:List Nat):List Nat:=r.set j ((gn r j+(m-by_*gn r k%m))%m)
def colStep (m k j:Nat) (A:List (List Nat)):List (List Nat):=updR (colPre k j A) k (colPre k j A).length (colF m k j (ge (colPre k j A) k j/ge (colPre k j A) k k))
theorem colPre_length (k j:Nat) (A:List (List Nat)):(colPre k j A).length=A.length:=by unfold colPre;split <;> simp [updR_length]
def Cl (C:Nat) (A:List (List Nat)):Prop:=∀ i,i<A.length->(gr A i).length=C
theorem gn_out {r:List Nat} {j:Nat} (h:r.length<=j):gn r j=0:=by unfold gn;rw [List.getElem?_eq_none h];rfl
theorem Ltm.updR {m C:Nat} {A:List (List Nat)} (h:Ltm m A) (hc:Cl C A) (hm:0<m) {lo hi:Nat} {f:List Nat->List Nat} (hf:∀ r,r.length=C->(∀ j,gn r j<m)->∀ j,gn (f r) j<m):Ltm m (updR A lo hi f):=by
 intro x y
 unfold ge
 by_cases hx:x<A.length
 · rw [gr_updR hx]
   split
   · exact hf _ (hc x hx) (fun j=>h x j) y
   · exact h x y
 · rw [gr_out (by rw [updR_length];omega),gn_out (by simp)];exact hm
theorem Cl.updR {C:Nat} {A:List (List Nat)} (hc:Cl C A) {lo hi:Nat} {f:List Nat->List Nat} (hf:∀ r,r.length=C->(f r).length=C):Cl C (updR A lo hi f):=by
 intro i hi'
 rw [updR_length] at hi'
 rw [gr_updR hi']
 split
 · exact hf _ (hc i hi')
 · exact hc i hi'
theorem swp_small {m C j k:Nat} (hj:j<C) (hk:k<C):∀ r:List Nat,r.length=C->(∀ j,gn r j<m)->∀ y,gn (swp j k r) y<m:=by
 intro r hr h y
 rw [gn_swp (by omega) (by omega)]
 split
 · exact h j
 · split
   · exact h k
   · exact h y
theorem Ltm.colPre {m C:Nat} {A:List (List Nat)} (h:Ltm m A) (hc:Cl C A) (hm:0<m) {j k:Nat} (hj:j<C) (hk:k<C):Ltm m (colPre k j A):=by
 unfold Go.Proofs.Ytfnmeigpfmeomaa.colPre;split
 · exact h.updR hc hm (swp_small hk hj)
 · exact h
theorem colPre_pos {C:Nat} {A:List (List Nat)} (hc:Cl C A) {j k:Nat} (hk:k<A.length) (hj:j<C) (hkC:k<C) (h0:ge A k k≠0):ge (colPre k j A) k k≠0:=by
 unfold colPre
 split
 · next h =>
   unfold ge
   rw [gr_updR hk,if_pos (by omega),gn_swp (by rw [hc k hk];exact hkC) (by rw [hc k hk];exact hj)]
   split
   · next e=>exact h0
   · rw [if_pos rfl]
     intro q
     apply h
     show gn (gr A k) j%_=0
     rw [q,Nat.zero_mod]
 · exact h0
theorem write_row {w w0:World} {R C:Nat} {bs bs0:List Nat} {A:List (List Nat)} (h:MU w R bs C A) {r d j:Nat} (hr:bs[r]? = some d) (hj:j<C) (hd:d∈bs0) (hw:Wr (R :: bs0) w0 w) (x n:Nat) :
 MU ((w.drewN n).setCell ⟨d,j,none⟩ (.int .u64 (x:Nat))) R bs C (A.set r ((gr A r).set j x))/\Wr (R :: bs0) w0 ((w.drewN n).setCell ⟨d,j,none⟩ (.int .u64 (x:Nat))) :=
 ⟨(h.drewN n).setCell hr hj x,(hw.drewN n).setCell (by simp [hd]) j _⟩
attribute [local go_sem ↓] Go.wp_at_zero Go.wp_at_succ
set_option maxHeartbeats 4000000 in
set_option maxRecDepth 100000 in
theorem colStep_any (ab kb mb R:Nat) (bs:List Nat) (C:Nat) (A:List (List Nat)) (k j m:Nat) (w:World) (h:MU w R bs C A) (hx:Bx w ab kb mb R A.length k m)
 (n1:ab ∉ R :: bs) (n2:kb ∉ R :: bs) (n3:mb ∉ R :: bs) (hA:A.length<=1000) (hC:C<=1000) (hj:j<C) (hk:k<A.length) (hkC:k<C) (hjk:j≠k) (h0:ge A k k≠0) (hs:Ltm m A) (hm:m<=4611686018427387904) :
 Calls Try.prog 81 #[.int .i64 (j:Nat),.pointer (some ⟨ab,0,none⟩),.pointer (some ⟨kb,0,none⟩),.pointer (some ⟨mb,0,none⟩)] w fun e w'=>e=.returned (.tuple #[])/\MU w' R bs C (colStep m k j A)/\Wr (R :: bs) w w':=by
 have q1:ab≠R:=fun e=>n1 (by simp [e])
 have q2:kb≠R:=fun e=>n2 (by simp [e])
 have N1:=Lib.hid n1
 have N2:=Lib.hid n2
 have N3:=Lib.hid n3
 clear n1 n2 n3
 have hm0:0<m:=Nat.lt_of_le_of_lt (Nat.zero_le _) (hs 0 0)
 obtain ⟨bk,hbk,hbkm⟩:=h.bl hk
 have y0:=hx.a.cell 0
 have y1:=hx.k.cell 0
 have z2:(k:Int)<(A.length:Int):=by omega
 have z3:(k:Int)<(C:Int):=by omega
 have z3':(j:Int)<(C:Int):=by omega
 have c2:=h.cellR hbk
 have c3:=h.cell hbk hj
 have c4:=h.cell hbk hkC
 have HCL:=Lib.hid (show Cl C A from h.cols)
 have HS:=Lib.hid hs
 have HH:=Lib.hid h
 have HX0:=Lib.hid hx
 have HBK:=Lib.hid hbk
 have e1:=rem_nat (ge A k j) (ge A k k)
 have z4:((ge A k k:Nat):Int)≠0:=by omega
 have z5:(((ge A k k:Nat):Int)==0)=false:=by simp;omega
 have HP:=Lib.hid (colPre_pos (j:=j) HCL.out hk hj hkC h0)
 have HP1:=Lib.hid (fun q:ge A k j%ge A k k≠0=>show colPre k j A=updR A k A.length (swp k j) from if_pos q)
 have HP2:=Lib.hid (fun q:¬ ge A k j%ge A k k≠0=>show colPre k j A=A from if_neg q)
 have b1:=hs k j
 have b2:=hs k k
 generalize ge A k j%ge A k k=t at *
 generalize ge A k j=vi at *
 generalize ge A k k=vk at *
 clear h hx hbk hs
 go_enter Try.func81,Try.ntmps81
 go_wp2_with fail
 go_quiet (fail)
 have h1:MU (w.drewN nq) R bs C A/\Wr (R :: bs) w (w.drewN nq)/\Bx (w.drewN nq) ab kb mb R A.length k m:=⟨HH.out.drewN _,(Wr.refl _ _).drewN _,HX0.out.drewN _⟩
 generalize w.drewN nq=W at *
 obtain ⟨h1,h2,h3⟩:=h1
 clear HH c2 c3 c4 y0 y1
 have y0:=h3.a.cell 0
 have y1:=h3.k.cell 0
 have HH:=Lib.hid h1
 have HWW:=Lib.hid h2
 clear h1 h2 h3
 go_upto_if 25 with fail
 go_cut [] (fun wx=>MU wx R bs C (colPre k j A)/\Wr (R :: bs) w wx)
 case first =>
  by_cases ht:t=0
  · have z6:((t:Int) != 0)=false:=by simp;omega
    have HT:=Lib.hid ht
    clear ht
    go_wp2_with fail
    go_meet
    exact ⟨by rw [HP2.out (fun q=>q HT.out)];exact HH.out,HWW.out⟩
  · have z6:((t:Int) != 0)=true:=by simp;omega
    have HT:=Lib.hid ht
    clear ht
    go_wp2_with fail
    generalize hLL:A.length-k=L at *
    have HL:=Lib.hid (show k+L=A.length by omega)
    have hL2:L<=1000:=by omega
    clear hLL
    go_loopg [6,30] L (fun gk s6 s30 wr=>∃ x:Nat,x<=L/\gk=L-x/\s30=.int .i64 (x:Int)/\MU wr R bs C (updR A k (k+x) (swp k j))/\Wr (R :: bs) w wr)
    case atStart=>exact ⟨0,Nat.zero_le _,rfl,rfl,by rw [Nat.add_zero,updR_start];exact HH.out,HWW.out⟩
    case round =>
     clear HH HWW y0 y1
     obtain ⟨x,hx,rfl,rfl,hmu,hw⟩:=hrel
     by_cases hxt:x<L
     · have z7:(x:Int)<(L:Int):=by omega
       have hkx:k+x<A.length:=by have:=HL.out;omega
       obtain ⟨d,hd',hdm⟩:=hmu.bl (i:=k+x) (by rw [updR_length];exact hkx)
       have h3:=HX0.out.wr hw N1.out N2.out N3.out
       have y1:=h3.k.cell 0
       have zr:=hmu.cellR hd'
       have zj:=hmu.cell hd' hj
       have zk:=hmu.cell hd' hkC
       have zf1:=(hmu.row _ d hd').frozen j
       have zf2:=(hmu.row _ d hd').frozen k
       have HM:=Lib.hid (swap_row hmu hd' hkC hj hdm hw)
       rw [gr_updR_at,updR_step (Nat.le_add_right _ _) hkx] at HM
       unfold ge at zj zk HM
       rw [gr_updR_at] at zj zk HM
       generalize gn (gr A (k+x)) j=v1 at *
       generalize gn (gr A (k+x)) k=v2 at *
       have nk:kb≠d:=fun e=>N2.out (by rw [e];simp [hdm])
       have nk':d≠kb:=nk.symm
       clear hmu hw hd' h3
       have z8:¬ (k=j):=fun q=>hjk q.symm
       go_upto_region 4 with fail
       go_region
       go_wp2_with fail
       go_roundg (L-(x+1))
       case measure=>omega
       case rel=>exact ⟨x+1,by omega,rfl,by go_num,HM.out.1,HM.out.2⟩
     · have z7:¬ ((x:Int)<(L:Int)):=by omega
       have hxn:x=L:=by omega
       subst hxn
       go_wp2_with fail
       go_meet
       refine ⟨?_,hw⟩
       rw [HP1.out HT.out,<- HL.out];exact hmu
 case rest =>
  clear y0 y1 e1 z4 z5 HH HWW
  obtain ⟨h1,hw1⟩:=hcut
  obtain ⟨B,hB⟩:∃ B,B=colPre k j A:=⟨_,rfl⟩
  have HST:=Lib.hid (show colStep m k j A=updR B k B.length (colF m k j (ge B k j/ge B k k)) by rw [hB];rfl)
  have HLB:=Lib.hid (show B.length=A.length by rw [hB];exact colPre_length _ _ _)
  have HSB:=Lib.hid (show Ltm m B by rw [hB];exact HS.out.colPre HCL.out hm0 hj hkC)
  rw [<- hB] at h1 HP
  clear hB HP1 HP2 HS
  have h3:=HX0.out.wr hw1 N1.out N2.out N3.out
  have y0:=h3.a.cell 0
  have y1:=h3.k.cell 0
  have c2:=h1.cellR HBK.out
  have c3:=h1.cell HBK.out hj
  have c4:=h1.cell HBK.out hkC
  have e1:=quo_nat (ge B k j) (ge B k k)
  have hb1:=HSB.out k j
  have hb2:=HSB.out k k
  have hvl:ge B k j/ge B k k<m:=Nat.lt_of_le_of_lt (Nat.div_le_self _ _) hb1
  have hp0:=HP.out
  have z4:((ge B k k:Nat):Int)≠0:=by omega
  have z5:(((ge B k k:Nat):Int)==0)=false:=by simp;omega
  obtain ⟨v,hv⟩:∃ v,v=ge B k j/ge B k k:=⟨_,rfl⟩
  rw [<- hv] at HST e1 hvl
  clear hv
  generalize ge B k j=ui at *
  generalize ge B k k=uk at *
  have HM:=Lib.hid h1
  have HWX:=Lib.hid hw1
  clear h1 hw1 h3
  go_upto_region 6 with fail
  go_quiet (fail)
  have h1:MU (wc.drewN nq) R bs C B/\Wr (R :: bs) w (wc.drewN nq):=⟨HM.out.drewN _,HWX.out.drewN _⟩
  generalize wc.drewN nq=W0 at *
  clear HM HWX e1 y0 y1 c2 c3 c4
  obtain ⟨h1,h2⟩:=h1
  have h3:=HX0.out.wr h2 N1.out N2.out N3.out
  have y0:=h3.a.cell 0
  have y1:=h3.k.cell 0
  have HM:=Lib.hid h1
  have HWX:=Lib.hid h2
  clear h1 h2 h3
  go_wp2_with fail
  generalize hLL:A.length-k=L at *
  have HL:=Lib.hid (show k+L=A.length by omega)
  have hL2:L<=1000:=by omega
  clear hLL y0 y1
  go_loopg [9,68] L (fun gk s9 s68 wr=>∃ x:Nat,x<=L/\gk=L-x/\s68=.int .i64 (x:Int)/\MU wr R bs C (updR B k (k+x) (colF m k j v))/\Wr (R :: bs) w wr)
  case atStart=>exact ⟨0,Nat.zero_le _,rfl,rfl,by rw [Nat.add_zero,updR_start];exact HM.out,HWX.out⟩
  case round =>
   clear HM HWX
   obtain ⟨x,hx,rfl,rfl,hmu,hw⟩:=hrel
   by_cases hxt:x<L
   · have z7:(x:Int)<(L:Int):=by omega
     have hkx:k+x<B.length:=by have:=HL.out;have:=HLB.out;omega
     obtain ⟨d,hd',hdm⟩:=hmu.bl (i:=k+x) (by rw [updR_length];exact hkx)
     have h3:=HX0.out.wr hw N1.out N2.out N3.out
     have y1:=h3.k.cell 0
     have y2:=h3.m.cell 0
     have zr:=hmu.cellR hd'
     have zj:=hmu.cell hd' hj
     have zk:=hmu.cell hd' hkC
     have zf1:=(hmu.row _ d hd').frozen j
     have HM:=Lib.hid (fun n=>write_row hmu hd' hj hdm hw ((gn (gr B (k+x)) j+(m-v*gn (gr B (k+x)) k%m))%m) n)
     rw [gr_updR_at] at HM
     rw [show (gr B (k+x)).set j ((gn (gr B (k+x)) j+(m-v*gn (gr B (k+x)) k%m))%m)=colF m k j v (gr B (k+x)) from rfl,updR_step (Nat.le_add_right _ _) hkx] at HM
     unfold ge at zj zk
     rw [gr_updR_at] at zj zk
     have d1:gn (gr B (k+x)) j<m:=HSB.out _ j
     have d2:gn (gr B (k+x)) k<m:=HSB.out _ k
     have HMM:=Lib.hid (fun W=>mulMod_any v (gn (gr B (k+x)) k) m W (by omega) (by omega) (by omega) (by omega))
     have hml:v*gn (gr B (k+x)) k%m<m:=Nat.mod_lt _ (by omega)
     have HSS:=Lib.hid (fun W=>subMod_any (gn (gr B (k+x)) j) (v*gn (gr B (k+x)) k%m) m W d1 hml hm)
     generalize v*gn (gr B (k+x)) k%m=pr at *
     generalize gn (gr B (k+x)) k=v2 at *
     generalize (gn (gr B (k+x)) j+(m-pr))%m=vn at *
     generalize gn (gr B (k+x)) j=v1 at *
     have nk:kb≠d:=fun e=>N2.out (by rw [e];simp [hdm])
     have nm:mb≠d:=fun e=>N3.out (by rw [e];simp [hdm])
     clear hmu hw hd' h3
     have z8:¬ (k=j):=fun q=>hjk q.symm
     go_upto_region 10 with fail
     have nk':d≠kb:=nk.symm
     have nm':d≠mb:=nm.symm
     refine wp_region_table 16 (by kernel_rfl) (by kernel_rfl) (by kernel_rfl) (by kernel_rfl) (by kernel_rfl) rfl (by kernel_rfl) (fun i=>[Value.slice (some ⟨d,0,none⟩) C C,Value.int .i64 (j:Int),Value.slice (some ⟨d,0,none⟩) C C,Value.int .i64 (j:Int),Value.pointer (some ⟨d,j,none⟩),Value.int .u64 (v1:Int),Value.int .u64 (v:Int),Value.slice (some ⟨d,0,none⟩) C C,Value.int .i64 (k:Int),Value.pointer (some ⟨d,k,none⟩),Value.int .u64 (v2:Int),Value.int .u64 (m:Int),Value.int .u64 (pr:Int),Value.int .u64 (m:Int),Value.int .u64 (vn:Int),Value.pointer (some ⟨d,j,none⟩),undef].getD i undef) (fun W=>W.setCell ⟨d,j,none⟩ (.int .u64 (vn:Int))) ⟨?_,?_,?_,?_,?_,?_,?_,?_,?_,?_,?_,?_,?_,?_,?_,?_,?_,trivial⟩ ?_
     · intro m0 b hb
       have e9:b.tmps[9]?.getD undef=Value.slice (some ⟨d,0,none⟩) C C:=hb 9 rfl
       refine tab_run (by decide) (Value.slice (some ⟨d,0,none⟩) C C) rfl ?_
       clear hb
       go_simp
     · intro m0 b hb
       have e0:b.tmps[0]?.getD undef=Value.int .i64 (j:Int):=hb 0 rfl
       refine tab_run (by decide) (Value.int .i64 (j:Int)) rfl ?_
       clear hb
       go_simp
     · intro m0 b hb
       have e9:b.tmps[9]?.getD undef=Value.slice (some ⟨d,0,none⟩) C C:=hb 9 rfl
       refine tab_run (by decide) (Value.slice (some ⟨d,0,none⟩) C C) rfl ?_
       clear hb
       go_simp
     · intro m0 b hb
       have e0:b.tmps[0]?.getD undef=Value.int .i64 (j:Int):=hb 0 rfl
       refine tab_run (by decide) (Value.int .i64 (j:Int)) rfl ?_
       clear hb
       go_simp
     · intro m0 b hb
       have e74:b.tmps[74]?.getD undef=Value.slice (some ⟨d,0,none⟩) C C:=hb 74 rfl
       have e75:b.tmps[75]?.getD undef=Value.int .i64 (j:Int):=hb 75 rfl
       refine tab_run (by decide) (Value.pointer (some ⟨d,j,none⟩)) rfl ?_
       clear hb
       go_simp
     · intro m0 b hb
       have e76:b.tmps[76]?.getD undef=Value.pointer (some ⟨d,j,none⟩):=hb 76 rfl
       refine tab_run (by decide) (Value.int .u64 (v1:Int)) rfl ?_
       clear hb
       go_simp
     · intro m0 b hb
       have e7:b.tmps[7]?.getD undef=Value.int .u64 (v:Int):=hb 7 rfl
       refine tab_run (by decide) (Value.int .u64 (v:Int)) rfl ?_
       clear hb
       go_simp
     · intro m0 b hb
       have e9:b.tmps[9]?.getD undef=Value.slice (some ⟨d,0,none⟩) C C:=hb 9 rfl
       refine tab_run (by decide) (Value.slice (some ⟨d,0,none⟩) C C) rfl ?_
       clear hb
       go_simp
     · intro m0 b hb
       have e2:b.tmps[2]?.getD undef=Value.pointer (some ⟨kb,0,none⟩):=hb 2 rfl
       refine tab_run (by decide) (Value.int .i64 (k:Int)) rfl ?_
       clear hb
       go_simp
     · intro m0 b hb
       have e79:b.tmps[79]?.getD undef=Value.slice (some ⟨d,0,none⟩) C C:=hb 79 rfl
       have e80:b.tmps[80]?.getD undef=Value.int .i64 (k:Int):=hb 80 rfl
       refine tab_run (by decide) (Value.pointer (some ⟨d,k,none⟩)) rfl ?_
       clear hb
       go_simp
     · intro m0 b hb
       have e81:b.tmps[81]?.getD undef=Value.pointer (some ⟨d,k,none⟩):=hb 81 rfl
       refine tab_run (by decide) (Value.int .u64 (v2:Int)) rfl ?_
       clear hb
       go_simp
     · intro m0 b hb
       have e3:b.tmps[3]?.getD undef=Value.pointer (some ⟨mb,0,none⟩):=hb 3 rfl
       refine tab_run (by decide) (Value.int .u64 (m:Int)) rfl ?_
       clear hb
       go_simp
     · intro m0 b hb
       have e78:b.tmps[78]?.getD undef=Value.int .u64 (v:Int):=hb 78 rfl
       have e82:b.tmps[82]?.getD undef=Value.int .u64 (v2:Int):=hb 82 rfl
       have e83:b.tmps[83]?.getD undef=Value.int .u64 (m:Int):=hb 83 rfl
       refine tab_call (by decide) (Value.int .u64 (pr:Int)) rfl ?_ (HMM.out _)
       clear hb
       go_simp
     · intro m0 b hb
       have e3:b.tmps[3]?.getD undef=Value.pointer (some ⟨mb,0,none⟩):=hb 3 rfl
       refine tab_run (by decide) (Value.int .u64 (m:Int)) rfl ?_
       clear hb
       go_simp
     · intro m0 b hb
       have e77:b.tmps[77]?.getD undef=Value.int .u64 (v1:Int):=hb 77 rfl
       have e84:b.tmps[84]?.getD undef=Value.int .u64 (pr:Int):=hb 84 rfl
       have e85:b.tmps[85]?.getD undef=Value.int .u64 (m:Int):=hb 85 rfl
       refine tab_call (by decide) (Value.int .u64 (vn:Int)) rfl ?_ ((HSS.out _).mono fun e w' ⟨h,hw⟩=>⟨0,h,hw.symm⟩)
       clear hb
       go_simp
     · intro m0 b hb
       have e72:b.tmps[72]?.getD undef=Value.slice (some ⟨d,0,none⟩) C C:=hb 72 rfl
       have e73:b.tmps[73]?.getD undef=Value.int .i64 (j:Int):=hb 73 rfl
       refine tab_run (by decide) (Value.pointer (some ⟨d,j,none⟩)) rfl ?_
       clear hb
       go_simp
     · intro m0 b hb
       have e86:b.tmps[86]?.getD undef=Value.int .u64 (vn:Int):=hb 86 rfl
       have e87:b.tmps[87]?.getD undef=Value.pointer (some ⟨d,j,none⟩):=hb 87 rfl
       refine tab_store undef rfl _ rfl ?_ rfl
       clear hb
       go_simp
     intro m0
     simp only [putAll,dstOf,Act.put,List.map_cons,List.map_nil,List.setIfInBounds_toArray,List.set_cons_succ,List.set_cons_zero,Nat.reduceAdd,List.getD_cons_succ,List.getD_cons_zero]
     go_wp2_with fail
     all_goals
      go_roundg (L-(x+1))
      case measure=>omega
      case rel=>exact ⟨x+1,by omega,rfl,by go_num,(HM.out _).1,(HM.out _).2⟩
   · have z7:¬ ((x:Int)<(L:Int)):=by omega
     have hxn:x=L:=by omega
     subst hxn
     go_wp2_with fail
     go_end0
     refine ⟨rfl,?_,hw⟩
     rw [HST.out,HLB.out,<- HL.out];exact hmu
end Go.Proofs.Ytfnmeigpfmeomaa
namespace Go.Proofs.Ytfnmeigpfmeomaa
set_option linter.unusedVariables false
structure Wk (m k C:Nat) (A:List (List Nat)):Prop where
 lt:Ltm m A
 cl:Cl C A
 kn:k<A.length
 kC:k<C
 pos:ge A k k≠0
theorem Wk.m0 {m k C:Nat} {A:List (List Nat)} (h:Wk m k C A):0<m:=Nat.lt_of_le_of_lt (Nat.zero_le _) (h.lt 0 0)
theorem sub_mod {m a b:Nat} (ha:a<m) (hb:b≠0):(a+(m-a/b*b%m))%m=a%b:=by
 have h1:a/b*b<=a:=Nat.div_mul_le_self _ _
 have h2:=Nat.div_add_mod a b
 rw [Nat.mul_comm] at h2
 rw [Nat.mod_eq_of_lt (show a/b*b<m by omega),show a+(m-a/b*b)=(a-a/b*b)+m by omega,Nat.add_mod_right,Nat.mod_eq_of_lt (by omega)]
 omega
theorem gn_mod_lt {m by_ k x:Nat} {q r:List Nat} (hm:0<m) (hr:∀ j,gn r j<m) (j:Nat):gn (cmb m by_ k x q r) j<m:=by
 by_cases h:j<r.length
 · rw [gn_cmb h]
   split
   · exact Nat.mod_lt _ hm
   · exact hr j
 · rw [gn_out (by rw [cmb_length];omega)];exact hm
section
variable {m k C i:Nat} {A:List (List Nat)}
theorem Cl.swR {i k:Nat} (hc:Cl C A) (hi:i<A.length) (hk:k<A.length):Cl C (swR A i k):=by
 intro x hx
 rw [swR_length] at hx
 rw [gr_swR hi hk]
 split
 · exact hc i hi
 · split
   · exact hc k hk
   · exact hc x hx
theorem Cl.rowPre (hc:Cl C A) (hi:i<A.length) (hk:k<A.length):Cl C (rowPre k i A):=by
 unfold Go.Proofs.Ytfnmeigpfmeomaa.rowPre;split
 · exact hc.swR hk hi
 · exact hc
theorem rowStep_length:(rowStep m k i A).length=A.length:=by simp [rowStep,rowPre_length]
theorem gr_rowStep (hi:i<A.length) (c:Nat):gr (rowStep m k i A) c=if c=i then cmb m (ge (rowPre k i A) i k/ge (rowPre k i A) k k) k (gr (rowPre k i A) i).length (gr (rowPre k i A) k) (gr (rowPre k i A) i) else gr (rowPre k i A) c:=by
 unfold rowStep;rw [gr_set _ _ _ _ (by rw [rowPre_length];exact hi)]
theorem ge_rowStep_ik (h:Wk m k C A) (hi:i<A.length) (hik:i≠k):ge (rowStep m k i A) i k=ge (rowPre k i A) i k%ge (rowPre k i A) k k:=by
 have hc:=h.cl.rowPre hi h.kn (k:=k) (i:=i)
 have hl:(gr (rowPre k i A) i).length=C:=hc i (by rw [rowPre_length];exact hi)
 unfold ge
 rw [gr_rowStep hi,if_pos rfl,gn_cmb (by rw [hl];exact h.kC),if_pos ⟨Nat.le_refl _,by rw [hl];exact h.kC⟩]
 exact sub_mod (h.lt.rowPre hi h.kn i k) (rowPre_pos hi h.kn h.pos)
theorem gr_rowStep_k (hi:i<A.length) (hik:i≠k):gr (rowStep m k i A) k=gr (rowPre k i A) k:=by rw [gr_rowStep hi,if_neg hik.symm]
theorem Wk.rowStep (h:Wk m k C A) (hi:i<A.length) (hik:i≠k):Wk m k C (rowStep m k i A):=by
 have hc:=h.cl.rowPre hi h.kn (k:=k) (i:=i)
 have hs:=h.lt.rowPre hi h.kn (k:=k) (i:=i)
 refine ⟨fun x y=>?_,fun x hx=>?_,by rw [rowStep_length];exact h.kn,h.kC,?_⟩
 · unfold ge
   rw [gr_rowStep hi]
   split
   · exact gn_mod_lt h.m0 (fun j=>hs i j) y
   · exact hs x y
 · rw [rowStep_length] at hx
   rw [gr_rowStep hi]
   split
   · rw [cmb_length];exact hc i (by rw [rowPre_length];exact hi)
   · exact hc x (by rw [rowPre_length];exact hx)
 · unfold ge;rw [gr_rowStep_k hi hik];exact rowPre_pos hi h.kn h.pos
theorem ge_rowPre (h:Wk m k C A) (hi:i<A.length) (hik:i≠k):(ge A i k%ge A k k≠0/\ge (rowPre k i A) i k=ge A k k/\ge (rowPre k i A) k k=ge A i k)\/(ge A i k%ge A k k=0/\rowPre k i A=A):=by
 unfold rowPre
 by_cases q:ge A i k%ge A k k≠0
 · left
   rw [if_pos q]
   refine ⟨q,?_,?_⟩
   · show gn (gr (swR A k i) i) k=_
     rw [gr_swR h.kn hi,if_pos rfl];rfl
   · show gn (gr (swR A k i) k) k=_
     rw [gr_swR h.kn hi,if_neg hik.symm,if_pos rfl];rfl
 · right
   rw [if_neg q]
   exact ⟨by simpa using q,rfl⟩
theorem rowStep_less (h:Wk m k C A) (hi:i<A.length) (hik:i≠k) (h0:ge A i k≠0):ge (rowStep m k i A) i k<ge A i k:=by
 rw [ge_rowStep_ik h hi hik]
 rcases ge_rowPre h hi hik with ⟨_,e1,e2⟩|⟨e1,e2⟩
 · rw [e1,e2];exact Nat.mod_lt _ (by omega)
 · rw [e2,e1];omega
theorem rowStep_gcd (h:Wk m k C A) (hi:i<A.length) (hik:i≠k):Nat.gcd (ge (rowStep m k i A) k k) (ge (rowStep m k i A) i k)=Nat.gcd (ge A k k) (ge A i k):=by
 rw [ge_rowStep_ik h hi hik]
 have e:ge (rowStep m k i A) k k=ge (rowPre k i A) k k:=by unfold ge;rw [gr_rowStep_k hi hik]
 rw [e,Nat.gcd_comm,<- Nat.gcd_rec]
 rcases ge_rowPre h hi hik with ⟨_,e1,e2⟩|⟨_,e2⟩
 · rw [e1,e2,Nat.gcd_comm]
 · rw [e2]
theorem rowStep_keep (h:Wk m k C A) (hi:i<A.length) (hik:i≠k) (hd:ge A i k%ge A k k=0):gr (rowStep m k i A) k=gr A k:=by
 rw [gr_rowStep_k hi hik]
 rcases ge_rowPre h hi hik with ⟨e,_,_⟩|⟨_,e2⟩
 · exact absurd hd e
 · rw [e2]
end
def rowWhile (m k i:Nat):Nat->List (List Nat)->List (List Nat)
 | 0,A=>A
 | f+1,A=>if ge A i k=0 then A else rowWhile m k i f (rowStep m k i A)
theorem rowWhile_done {m k i f:Nat} {A:List (List Nat)} (h:ge A i k=0):rowWhile m k i f A=A:=by
 cases f with
 | zero=>rfl
 | succ f=>rw [rowWhile,if_pos h]
theorem rowWhile_length (m k i:Nat):∀ (f:Nat) (A:List (List Nat)),(rowWhile m k i f A).length=A.length
 | 0,A=>rfl
 | f+1,A=>by
  rw [rowWhile];split
  · rfl
  · rw [rowWhile_length m k i f,rowStep_length]
theorem rowWhile_all {m k C i:Nat} (hik:i≠k):∀ (f:Nat) (A:List (List Nat)),Wk m k C A->i<A.length->ge A i k<=f ->
 Wk m k C (rowWhile m k i f A)/\ge (rowWhile m k i f A) i k=0/\ge (rowWhile m k i f A) k k=Nat.gcd (ge A k k) (ge A i k)/\(ge A i k%ge A k k=0->gr (rowWhile m k i f A) k=gr A k)
 | 0,A,h,hi,hf=>by
  have e:ge A i k=0:=by omega
  refine ⟨h,e,?_,fun _=>rfl⟩
  rw [e,Nat.gcd_zero_right];rfl
 | f+1,A,h,hi,hf=>by
  by_cases e:ge A i k=0
  · rw [rowWhile_done e,e,Nat.gcd_zero_right]
    exact ⟨h,rfl,rfl,fun _=>rfl⟩
  · rw [rowWhile,if_neg e]
    have hl:=rowStep_less h hi hik e
    obtain ⟨a,b,c,d⟩:=rowWhile_all hik f (rowStep m k i A) (h.rowStep hi hik) (by rw [rowStep_length];exact hi) (by omega)
    refine ⟨a,b,by rw [c,rowStep_gcd h hi hik],fun q=>?_⟩
    have hk:=rowStep_keep h hi hik q
    rw [d ?_,hk]
    rw [ge_rowStep_ik h hi hik]
    rcases ge_rowPre h hi hik with ⟨e1,_,_⟩|⟨_,e2⟩
    · exact absurd q e1
    · rw [e2,q,Nat.zero_mod]
def rowsU (m k:Nat) (A:List (List Nat)):Nat->List (List Nat)
 | 0=>A
 | x+1=>rowWhile m k (k+1+x) (ge (rowsU m k A x) (k+1+x) k) (rowsU m k A x)
def rowsAll (m k:Nat) (A:List (List Nat)):List (List Nat):=rowsU m k A (A.length-(k+1))
theorem rowsU_length (m k:Nat) (A:List (List Nat)):∀ x,(rowsU m k A x).length=A.length
 | 0=>rfl
 | x+1=>by rw [rowsU,rowWhile_length,rowsU_length m k A x]
theorem rowsU_all {m k C:Nat} {A:List (List Nat)} (h:Wk m k C A):∀ x,k+1+x<=A.length->Wk m k C (rowsU m k A x)/\ge (rowsU m k A x) k k ∣ ge A k k/\(ge (rowsU m k A x) k k=ge A k k->gr (rowsU m k A x) k=gr A k)
 | 0,_=>⟨h,Nat.dvd_refl _,fun _=>rfl⟩
 | x+1,hx=>by
  obtain ⟨a,b,c⟩:=rowsU_all h x (by omega)
  obtain ⟨a',_,c',d'⟩:=rowWhile_all (i:=k+1+x) (by omega) _ (rowsU m k A x) a (by rw [rowsU_length];omega) (Nat.le_refl _)
  rw [rowsU]
  refine ⟨a',by rw [c'];exact Nat.dvd_trans (Nat.gcd_dvd_left _ _) b,fun e=>?_⟩
  have e1:ge (rowsU m k A x) k k=ge A k k:=by
   refine Nat.dvd_antisymm b ?_
   rw [<- e,c'];exact Nat.gcd_dvd_left _ _
  rw [d' ?_,c e1]
  rw [c',e1] at e
  rw [e1]
  exact Nat.mod_eq_zero_of_dvd (by rw [<- e];exact Nat.gcd_dvd_right _ _)
section
variable {m k C j:Nat} {A:List (List Nat)}
theorem colF_length (m k j v:Nat) (r:List Nat):(colF m k j v r).length=r.length:=by simp [colF]
theorem gn_colF {m k j v:Nat} {r:List Nat} (hj:j<r.length) (c:Nat):gn (colF m k j v r) c=if c=j then (gn r j+(m-v*gn r k%m))%m else gn r c:=by
 unfold colF;rw [gn_set _ _ _ _ hj]
theorem Cl.colPre (hc:Cl C A):Cl C (colPre k j A):=by
 unfold Go.Proofs.Ytfnmeigpfmeomaa.colPre;split
 · exact hc.updR (fun r hr=>by rw [swp_length];exact hr)
 · exact hc
theorem colStep_length:(colStep m k j A).length=A.length:=by unfold colStep;rw [updR_length,colPre_length]
theorem gr_colStep {i:Nat} (hi:i<A.length):gr (colStep m k j A) i=if k<=i then colF m k j (ge (colPre k j A) k j/ge (colPre k j A) k k) (gr (colPre k j A) i) else gr (colPre k j A) i:=by
 unfold colStep
 rw [gr_updR (by rw [colPre_length];exact hi)]
 by_cases q:k<=i
 · rw [if_pos q,if_pos ⟨q,by rw [colPre_length];exact hi⟩]
 · rw [if_neg q,if_neg (by omega)]
theorem Wk.colPre (h:Wk m k C A) (hj:j<C):Wk m k C (colPre k j A) :=
 ⟨h.lt.colPre h.cl h.m0 hj h.kC,h.cl.colPre,by rw [colPre_length];exact h.kn,h.kC,colPre_pos h.cl h.kn hj h.kC h.pos⟩
theorem gn_colStep_k (h:Wk m k C A) (hj:j<C) (c:Nat):ge (colStep m k j A) k c=if c=j then ge (colPre k j A) k j%ge (colPre k j A) k k else ge (colPre k j A) k c:=by
 have hp:=h.colPre hj
 have hl:(gr (Go.Proofs.Ytfnmeigpfmeomaa.colPre k j A) k).length=C:=hp.cl k hp.kn
 unfold ge
 rw [gr_colStep h.kn,if_pos (Nat.le_refl _),gn_colF (by rw [hl];exact hj)]
 split
 · exact sub_mod (hp.lt k j) hp.pos
 · rfl
theorem Wk.colStep (h:Wk m k C A) (hj:j<C) (hjk:j≠k):Wk m k C (colStep m k j A):=by
 have hp:=h.colPre hj
 refine ⟨fun x y=>?_,fun x hx=>?_,by rw [colStep_length];exact h.kn,h.kC,?_⟩
 · by_cases hx:x<A.length
   · unfold ge
     rw [gr_colStep hx]
     split
     · rw [gn_colF (by rw [hp.cl x (by rw [colPre_length];exact hx)];exact hj)]
       split
       · exact Nat.mod_lt _ h.m0
       · exact hp.lt x y
     · exact hp.lt x y
   · unfold ge;rw [gr_out (by rw [colStep_length];omega),gn_out (by simp)];exact h.m0
 · rw [colStep_length] at hx
   have hq:=hp.cl x (by rw [colPre_length];exact hx)
   rw [gr_colStep hx]
   split
   · rw [colF_length];exact hq
   · exact hq
 · rw [gn_colStep_k h hj,if_neg hjk.symm];exact hp.pos
theorem ge_colPre (h:Wk m k C A) (hj:j<C) (hjk:j≠k):(ge A k j%ge A k k≠0/\ge (colPre k j A) k j=ge A k k/\ge (colPre k j A) k k=ge A k j/\∀ c,c≠j->c≠k->ge (colPre k j A) k c=ge A k c)\/(ge A k j%ge A k k=0/\colPre k j A=A):=by
 have hl:=h.cl k h.kn
 unfold colPre
 by_cases q:ge A k j%ge A k k≠0
 · left
   rw [if_pos q]
   have hg:∀ c,ge (updR A k A.length (swp k j)) k c=if c=j then gn (gr A k) k else if c=k then gn (gr A k) j else gn (gr A k) c:=by
    intro c
    unfold ge
    rw [gr_updR h.kn,if_pos ⟨Nat.le_refl _,h.kn⟩,gn_swp (by rw [hl];exact h.kC) (by rw [hl];exact hj)]
   refine ⟨q,?_,?_,fun c h1 h2=>?_⟩
   · rw [hg,if_pos rfl];rfl
   · rw [hg,if_neg hjk.symm,if_pos rfl];rfl
   · rw [hg,if_neg h1,if_neg h2];rfl
 · right
   rw [if_neg q]
   exact ⟨by simpa using q,rfl⟩
theorem colStep_less (h:Wk m k C A) (hj:j<C) (hjk:j≠k) (h0:ge A k j≠0):ge (colStep m k j A) k j<ge A k j:=by
 rw [gn_colStep_k h hj,if_pos rfl]
 rcases ge_colPre h hj hjk with ⟨_,e1,e2,_⟩|⟨e1,e2⟩
 · rw [e1,e2];exact Nat.mod_lt _ (by omega)
 · rw [e2,e1];omega
theorem colStep_gcd (h:Wk m k C A) (hj:j<C) (hjk:j≠k):Nat.gcd (ge (colStep m k j A) k k) (ge (colStep m k j A) k j)=Nat.gcd (ge A k k) (ge A k j):=by
 rw [gn_colStep_k h hj j,if_pos rfl,gn_colStep_k h hj k,if_neg hjk.symm,Nat.gcd_comm,<- Nat.gcd_rec]
 rcases ge_colPre h hj hjk with ⟨_,e1,e2,_⟩|⟨_,e2⟩
 · rw [e1,e2,Nat.gcd_comm]
 · rw [e2]
theorem colStep_other (h:Wk m k C A) (hj:j<C) (hjk:j≠k) {c:Nat} (h1:c≠j) (h2:c≠k):ge (colStep m k j A) k c=ge A k c:=by
 rw [gn_colStep_k h hj,if_neg h1]
 rcases ge_colPre h hj hjk with ⟨_,_,_,e⟩|⟨_,e2⟩
 · exact e c h1 h2
 · rw [e2]
end
def colWhile (m k j:Nat):Nat->List (List Nat)->List (List Nat)
 | 0,A=>A
 | f+1,A=>if ge A k j=0 then A else colWhile m k j f (colStep m k j A)
theorem colWhile_done {m k j f:Nat} {A:List (List Nat)} (h:ge A k j=0):colWhile m k j f A=A:=by
 cases f with
 | zero=>rfl
 | succ f=>rw [colWhile,if_pos h]
theorem colWhile_length (m k j:Nat):∀ (f:Nat) (A:List (List Nat)),(colWhile m k j f A).length=A.length
 | 0,A=>rfl
 | f+1,A=>by
  rw [colWhile];split
  · rfl
  · rw [colWhile_length m k j f,colStep_length]
theorem colWhile_all {m k C j:Nat} (hj:j<C) (hjk:j≠k):∀ (f:Nat) (A:List (List Nat)),Wk m k C A->ge A k j<=f ->
 Wk m k C (colWhile m k j f A)/\ge (colWhile m k j f A) k j=0/\ge (colWhile m k j f A) k k=Nat.gcd (ge A k k) (ge A k j)/\∀ c,c≠j->c≠k->ge (colWhile m k j f A) k c=ge A k c
 | 0,A,h,hf=>by
  have e:ge A k j=0:=by omega
  refine ⟨h,e,?_,fun _ _ _=>rfl⟩
  rw [e,Nat.gcd_zero_right];rfl
 | f+1,A,h,hf=>by
  by_cases e:ge A k j=0
  · rw [colWhile_done e,e,Nat.gcd_zero_right]
    exact ⟨h,rfl,rfl,fun _ _ _=>rfl⟩
  · rw [colWhile,if_neg e]
    have hl:=colStep_less h hj hjk e
    obtain ⟨a,b,c,d⟩:=colWhile_all hj hjk f (colStep m k j A) (h.colStep hj hjk) (by omega)
    exact ⟨a,b,by rw [c,colStep_gcd h hj hjk],fun x h1 h2=>by rw [d x h1 h2,colStep_other h hj hjk h1 h2]⟩
def colsU (m k:Nat) (A:List (List Nat)):Nat->List (List Nat)
 | 0=>A
 | y+1=>colWhile m k (k+1+y) (ge (colsU m k A y) k (k+1+y)) (colsU m k A y)
def colsAll (m k C:Nat) (A:List (List Nat)):List (List Nat):=colsU m k A (C-(k+1))
theorem colsU_length (m k:Nat) (A:List (List Nat)):∀ y,(colsU m k A y).length=A.length
 | 0=>rfl
 | y+1=>by rw [colsU,colWhile_length,colsU_length m k A y]
theorem colsU_all {m k C:Nat} {A:List (List Nat)} (h:Wk m k C A):∀ y,k+1+y<=C->Wk m k C (colsU m k A y)/\ge (colsU m k A y) k k ∣ ge A k k/\(∀ c,k<c->c<k+1+y->ge (colsU m k A y) k c=0)/\∀ c,k+1+y<=c->ge (colsU m k A y) k c=ge A k c
 | 0,_=>⟨h,Nat.dvd_refl _,fun c h1 h2=>by omega,fun _ _=>rfl⟩
 | y+1,hy=>by
  obtain ⟨a,b,c,d⟩:=colsU_all h y (by omega)
  obtain ⟨a',b',c',d'⟩:=colWhile_all (j:=k+1+y) (by omega) (by omega) _ (colsU m k A y) a (Nat.le_refl _)
  rw [colsU]
  refine ⟨a',by rw [c'];exact Nat.dvd_trans (Nat.gcd_dvd_left _ _) b,fun q h1 h2=>?_,fun q h1=>?_⟩
  · by_cases e:q=k+1+y
    · rw [e];exact b'
    · rw [d' q e (by omega)];exact c q h1 (by omega)
  · rw [d' q (by omega) (by omega)];exact d q (by omega)
def chg (k c:Nat) (A:List (List Nat)):Bool:=(List.range c).any fun j=>decide (k<j) && decide (ge A k j≠0)
theorem chg_true {k c:Nat} {A:List (List Nat)}:chg k c A=true ↔ ∃ j,k<j/\j<c/\ge A k j≠0:=by
 unfold chg
 rw [List.any_eq_true]
 constructor
 · rintro ⟨j,hj,h⟩
   simp only [Bool.and_eq_true,decide_eq_true_eq] at h
   exact ⟨j,h.1,List.mem_range.1 hj,h.2⟩
 · rintro ⟨j,h1,h2,h3⟩
   exact ⟨j,List.mem_range.2 h2,by simp [h1,h3]⟩
theorem chg_congr {k c:Nat} {A B:List (List Nat)} (h:∀ j,k<j->j<c->ge A k j=ge B k j):chg k c A=chg k c B:=by
 rw [Bool.eq_iff_iff,chg_true,chg_true]
 constructor
 · rintro ⟨j,h1,h2,h3⟩;exact ⟨j,h1,h2,by rw [<- h j h1 h2];exact h3⟩
 · rintro ⟨j,h1,h2,h3⟩;exact ⟨j,h1,h2,by rw [h j h1 h2];exact h3⟩
def isoF (m k C:Nat):Nat->List (List Nat)->List (List Nat)
 | 0,A=>A
 | f+1,A=>if chg k C (rowsAll m k A)=true then isoF m k C f (colsAll m k C (rowsAll m k A)) else colsAll m k C (rowsAll m k A)
def isoM (k C:Nat) (A:List (List Nat)):Nat:=ge A k k+if chg k C A=true then 1 else 0
theorem isoM_less {m k C:Nat} {A:List (List Nat)} (h:Wk m k C A) (hc:chg k C (rowsAll m k A)=true):isoM k C (colsAll m k C (rowsAll m k A))<isoM k C A:=by
 have hkn:=h.kn
 have hkC:=h.kC
 obtain ⟨a,b,c⟩:=rowsU_all h (A.length-(k+1)) (by omega)
 obtain ⟨a',b',c',d'⟩:=colsU_all a (C-(k+1)) (by omega)
 have hz:chg k C (colsAll m k C (rowsAll m k A))=false:=by
  cases q:chg k C (colsAll m k C (rowsAll m k A)) with
  | false=>rfl
  | true =>
   obtain ⟨j,h1,h2,h3⟩:=chg_true.1 q
   exact absurd (c' j h1 (by omega)) h3
 have hB:ge (rowsAll m k A) k k<=ge A k k:=Nat.le_of_dvd (Nat.pos_of_ne_zero h.pos) b
 have hD:ge (colsAll m k C (rowsAll m k A)) k k<=ge (rowsAll m k A) k k:=Nat.le_of_dvd (Nat.pos_of_ne_zero a.pos) b'
 unfold isoM
 rw [hz]
 simp only [Bool.false_eq_true,if_false,Nat.add_zero]
 by_cases q:chg k C A=true
 · rw [if_pos q];omega
 · rw [if_neg q]
   have hne:ge (rowsAll m k A) k k≠ge A k k:=by
    intro e
    apply q
    rw [<- hc]
    exact chg_congr fun j _ _=>by
     have:=c e
     unfold ge
     rw [show gr (rowsAll m k A) k=gr A k from this]
   omega
theorem Wk.rowsAll {m k C:Nat} {A:List (List Nat)} (h:Wk m k C A):Wk m k C (rowsAll m k A):=(rowsU_all h _ (by have:=h.kn;omega)).1
theorem Wk.colsAll {m k C:Nat} {A:List (List Nat)} (h:Wk m k C A):Wk m k C (colsAll m k C A):=(colsU_all h _ (by have:=h.kC;omega)).1
theorem rowsAll_length (m k:Nat) (A:List (List Nat)):(rowsAll m k A).length=A.length:=rowsU_length _ _ _ _
theorem colsAll_length (m k C:Nat) (A:List (List Nat)):(colsAll m k C A).length=A.length:=colsU_length _ _ _ _
end Go.Proofs.Ytfnmeigpfmeomaa
