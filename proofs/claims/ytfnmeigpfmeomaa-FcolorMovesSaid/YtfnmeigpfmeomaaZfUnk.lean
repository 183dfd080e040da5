/- moves.shrunk. -/
import Derived.Test.YtfnmeigpfmeomaaZfPkb
import Derived.Test.YtfnmeigpfmeomaaZfTwo
namespace Go.Proofs.Ytfnmeigpfmeomaa
open Go.RowKit
set_option linter.unusedVariables false
def shS (G S:List Int):Nat->List Int
 | 0=>[]
 | c+1=>shS G S c ++ if G.contains (c:Int) then [] else [S[c]?.getD 0]
def shQ (G M:List Int) (c j:Nat):List Int:=(List.range j).map fun s=>shI G (M[4*c+s]?.getD 0)
def shM (G M:List Int):Nat->List Int
 | 0=>[]
 | c+1=>shM G M c ++ if G.contains (c:Int) then [] else shQ G M c 4
theorem shQ_succ (G M:List Int) (c j:Nat):shQ G M c (j+1)=shQ G M c j ++ [shI G (M[4*c+j]?.getD 0)]:=by unfold shQ;rw [List.range_succ,List.map_append];rfl
theorem shS_le (G S:List Int):∀ k,(shS G S k).length<=k
 | 0=>Nat.le_refl _
 | k+1=>by have:=shS_le G S k;rw [shS,List.length_append];split <;> simp <;> omega
theorem shM_le (G M:List Int):∀ k,(shM G M k).length<=4*k
 | 0=>Nat.le_refl _
 | k+1=>by have:=shM_le G M k;rw [shM,List.length_append];split <;> simp [shQ] <;> omega
theorem contains_any (vg:Value) (G:List Int) (x:Int) (w:World) (hG:Ints w vg G) (hl:G.length<=1000) :
 Calls Try.prog 56 #[vg,.int .i64 x] w fun e w'=>e=.returned (.bool (G.contains x))/\w=w':=by
 obtain ⟨A,c,rfl,hc,hx⟩:=hG
 cases G with
 | nil=>exact (Try.slices_Contains_int_empty A c x w).mono fun e w' h=>⟨by rw [h.1];rfl,h.2.symm⟩
 | cons g G =>
  obtain ⟨b,o,hA,_⟩:=hx 0 g rfl
  subst hA
  refine (Try.slices_Contains_int b o (g :: G).length c (g :: G) x w (Nat.le_refl _) (by omega) fun j hj=>?_).mono fun e w' h=>⟨by rw [h.1,List.take_length],h.2.symm⟩
  obtain ⟨b',o',hA,hcell⟩:=hx j (g :: G)[j] (List.getElem?_eq_getElem hj)
  injection hA with hA
  injection hA with h1 h2
  subst h1 h2
  rw [hcell,List.getD_eq_getElem?_getD,List.getElem?_eq_getElem hj];rfl
theorem pap_app4 {P:Program} {R1:(Nat->Value)->World->Prop} {x:Nat->Value} {m:Nat} {o:Oper} {b:Act} {w:World} {α:Type} {e:TypeId} {sz:Nat} {enc:α->List Value} {base:Nat} {v u:Value} {xs ys:List α} (E:ElA P e sz enc) (s q:Operand) (t t2:TypeId) (ho:o.op=.call { callee:=.builtin .append,args:=#[s,q],argTypes:=#[t,t2] })
 (ht:P.underlying t=some (.slice e)) (ht2:P.underlying t2=some (.slice e)) (hv:b.eval s=v) (h:OwnA e sz enc base w v xs) (hx:b.eval q=u) (hu:SlA enc w u ys) (hlen:xs.length+ys.length<=1000000000) (hbase:base<=w.heap.size)
 (hR:∀ v' w',OwnA e sz enc base w' v' (xs ++ ys)->Below base w w'->(∀ k,k<w.heap.size->v.ownBlock≠some k->w'.heap[k]? = w.heap[k]?)->(v'.ownBlock=v.ownBlock\/v'.ownBlock=some w.heap.size)->R1 (upd x m v') w') {ev:Option Value} (he:ev=none):o.wp P b w (fun a' w'=>∃ v,a'=b.put o.dst v/\R1 (upd x m v) w'/\∀ u,ev=some u->v=u) NoQ :=
 wp_appA E s q t t2 ho ht ht2 hv h hx hu hlen hbase fun v' w' h1 h2 h3 h4=>⟨v',rfl,hR v' w' h1 h2 h3 h4,fun u hu=>by rw [he] at hu;cases hu⟩
def ShkP (w:World) (v1 v2:Value) (S1 M1:List Int) (L:Int) (W:World):Prop:=ShS w.heap.size (w.heap.size+1) W v1 v2 S1 M1 L/\Arr W w.heap.size 24 [.slice none 0 0,.slice none 0 0,.int .i64 0]/\Below w.heap.size w W
theorem ShkP.below {w W W2:World} {v1 v2:Value} {S1 M1:List Int} {L:Int} (h:ShkP w v1 v2 S1 M1 L W) (hb:Below W.heap.size W W2):ShkP w v1 v2 S1 M1 L W2 :=
 ⟨h.1.below hb (Nat.le_refl _),h.2.1.below hb h.2.1.lt,h.2.2.trans (hb.mono h.2.2.size)⟩
theorem ShkP.app1 {w W W2:World} {v1 v2 v':Value} {S1 M1 S2:List Int} {L:Int} (h:ShkP w v1 v2 S1 M1 L W) (h1:OwnA 3 1 enI w.heap.size W2 v' S2) (h2:Below w.heap.size W W2) (h3:∀ k,k<W.heap.size->v1.ownBlock≠some k->W2.heap[k]? = W.heap[k]?) (h4:v'.ownBlock=v1.ownBlock\/v'.ownBlock=some W.heap.size):ShkP w v' v2 S2 M1 L (W2.setCell ⟨w.heap.size+1,0,none⟩ v') :=
 ⟨h.1.app1 h1 h3 h4,Arr.far (p:=⟨w.heap.size+1,0,none⟩) ((h3 _ h.2.1.lt (h.1.own1.apart h.2.1 (by decide))).trans h.2.1) (by simp) _,(h.2.2.trans h2).setCell (p:=⟨w.heap.size+1,0,none⟩) (by simp) _⟩
theorem ShkP.app2 {w W W2:World} {v1 v2 v':Value} {S1 M1 M2:List Int} {L:Int} (h:ShkP w v1 v2 S1 M1 L W) (h1:OwnA 3 1 enI w.heap.size W2 v' M2) (h2:Below w.heap.size W W2) (h3:∀ k,k<W.heap.size->v2.ownBlock≠some k->W2.heap[k]? = W.heap[k]?) (h4:v'.ownBlock=v2.ownBlock\/v'.ownBlock=some W.heap.size):ShkP w v1 v' S1 M2 L (W2.setCell ⟨w.heap.size+1,1,none⟩ v') :=
 ⟨h.1.app2 h1 h3 h4,Arr.far (p:=⟨w.heap.size+1,1,none⟩) ((h3 _ h.2.1.lt (h.1.own2.apart h.2.1 (by decide))).trans h.2.1) (by simp) _,(h.2.2.trans h2).setCell (p:=⟨w.heap.size+1,1,none⟩) (by simp) _⟩
set_option maxHeartbeats 8000000 in
set_option maxRecDepth 100000 in
theorem shrunk_any (vs vm vg:Value) (S M G:List Int) (L:Int) (w:World) (hS:Ints w vs S) (hM:Ints w vm M) (hG:Ints w vg G) (hm:M.length=4*S.length) (hn:S.length<=100) (hg:G.length<=10) (h0:∀ i (hi:i<M.length),0<=M[i]/\M[i]<1000) :
 Calls Try.prog 31 #[vs,vm,.int .i64 L,vg] w fun e w'=>∃ v1 v2,e=.returned (.agg #[v1,v2,.int .i64 L])/\OwnI 3 w.heap.size w' v1 (shS G S S.length)/\OwnI 3 w.heap.size w' v2 (shM G M S.length)/\Below w.heap.size w w':=by
 have HM4:=Lib.hid hm
 have H0:=Lib.hid h0
 clear hm h0
 have GS:=Lib.hid (fun W (hb:Below w.heap.size w W)=>hS.below hb)
 have GM:=Lib.hid (fun W (hb:Below w.heap.size w W)=>hM.below hb)
 have GG:=Lib.hid (fun W (hb:Below w.heap.size w W)=>hG.below hb)
 obtain ⟨A,c,rfl,hc,hx⟩:=hS
 obtain ⟨A2,c2,rfl,hc2,hx2⟩:=hM
 obtain ⟨AG,cG,rfl,hcG,hxG⟩:=hG
 clear hx hx2 hxG
 go_enter Try.func31,Try.ntmps31
 go_upto_region 2 with fail
 have HST:ShkP w (.slice none 0 0) (.slice none 0 0) [] [] L ((w.alloc (.cells #[.slice none 0 0,.slice none 0 0,.int .i64 0] 24)).alloc (.cells #[.slice none 0 0,.slice none 0 0,.int .i64 L] 24)) :=
  ⟨⟨OwnI.nil _ _ _,OwnI.nil _ _ _,fun k h=>(by simp [Value.ownBlock] at h),Arr.newAt (w.alloc _) _ [_,_,_] _ (by simp),by omega⟩,(Arr.new _ _ [_,_,_]).alloc _,((Below.refl _ _).alloc (Nat.le_refl _) _).alloc (by simp) _⟩
 generalize ((w.alloc (.cells #[.slice none 0 0,.slice none 0 0,.int .i64 0] 24)).alloc (.cells #[.slice none 0 0,.slice none 0 0,.int .i64 L] 24))=w3 at HST ⊢
 have HST0:=Lib.hid HST
 clear HST
 go_wp2_with fail
 go_loopg [10,11,18] S.length (fun gk s10 s11 s18 wr=>∃ k:Nat,k<=S.length/\gk=S.length-k/\s18=.int .i64 (k:Int)/\∃ v1 v2,ShkP w v1 v2 (shS G S k) (shM G M k) L wr)
 case atStart=>exact ⟨0,Nat.zero_le _,rfl,rfl,_,_,HST0.out⟩
 case round =>
  clear HST0
  obtain ⟨wo,rfl⟩:∃ wo,wo=wr:=⟨_,rfl⟩
  obtain ⟨k,hk,rfl,rfl,v1,v2,hst⟩:=hrel
  by_cases hlt:k<S.length
  · have z1:(k:Int)<(S.length:Int):=by omega
    obtain ⟨bs,os,hAs,hbs,yc⟩:=(GS.out wo hst.2.2).at_ hlt
    subst hAs
    have HSk:=Lib.hid (show shS G S (k+1)=shS G S k ++ if G.contains (k:Int) then [] else [S[k]] by rw [shS,List.getElem?_eq_getElem hlt];rfl)
    generalize S[k]=sk0 at *
    have HMk:=Lib.hid (show shM G M (k+1)=shM G M k ++ if G.contains (k:Int) then [] else shQ G M k 4 from rfl)
    have KC:=Lib.hid (contains_any (.slice AG G.length cG) G (k:Int) wo (GG.out wo hst.2.2) (by omega))
    have HST:=Lib.hid hst
    clear hst
    cases hcon:G.contains (k:Int) with
    | true =>
     rw [hcon] at KC HSk HMk
     go_wp2_with (go_at_call 56;refine KC.out.mono ?_;rintro e w5 ⟨rfl,rfl⟩)
     go_roundg (S.length-(k+1))
     case measure=>omega
     case rel=>exact ⟨k+1,by omega,rfl,by go_num,v1,v2,by rw [HSk.out,HMk.out];simpa using HST.out⟩
    | false =>
     rw [hcon] at KC HSk HMk
     have HSk2:=Lib.hid (show shS G S (k+1)=shS G S k ++ [sk0] by simpa using HSk.out)
     have HMk2:=Lib.hid (show shM G M (k+1)=shM G M k ++ shQ G M k 4 by simpa using HMk.out)
     clear HSk HMk hcon
     have HLS:=Lib.hid (shS_le G S k)
     have HLM:=Lib.hid (shM_le G M k)
     generalize shS G S k=S0 at *
     generalize shM G M k=M0 at *
     obtain ⟨A1,n1,hv1⟩:=HST.out.1.own1.form
     subst hv1
     obtain ⟨Ax,cx,hv2⟩:=HST.out.1.own2.form
     subst hv2
     go_upto_region 6 with (go_at_call 56;refine KC.out.mono ?_;rintro e w5 ⟨rfl,rfl⟩)
     have y0:=HST.out.1.box.cell 0
     have HAL:=Lib.hid (HST.out.below ((Below.refl _ _).alloc (Nat.le_refl _) (.cells #[.int .i64 sk0] 3)))
     have HLIT:=Lib.hid (show SlA enI (wo.alloc (.cells #[.int .i64 sk0] 3)) (.slice (some ⟨wo.heap.size,0,none⟩) 1 1) [sk0] from ⟨_,1,rfl,Nat.le_refl _,fun j q hq=>by
      cases j with
      | zero=>exact ⟨_,_,rfl,((Arr.new wo 3 [.int .i64 sk0]).cell 0).trans hq⟩
      | succ j=>simp [enI] at hq⟩)
     go_upto_region 7 with (at_builtin;refine wpList_appA rfl elI (.tmp 27) (.tmp 29) 22 22 rfl Try.underlying22 Try.underlying22 rfl HAL.out.1.own1.toA rfl HLIT.out (by have:=HLS.out;simp;omega) (by have:=HAL.out.2.2.size;exact this) ?_;intro v' w6 h1 h2 h3 h4;obtain ⟨A1',n1',hv'⟩:=h1.form;subst hv';have hbx:=(h3 _ HAL.out.1.box.lt (HAL.out.1.own1.apart HAL.out.1.box (by decide))).trans HAL.out.1.box;have c0:=Arr.cell hbx 0;have f0:=Arr.frozen hbx 0;have HS7:=Lib.hid (HAL.out.app1 h1 h2 h3 h4);clear h1 h2 h3 h4 hbx y0)
     have e1:(S0 ++ [sk0]).length=S0.length+1:=by simp
     rw [e1] at HS7
     clear e1 HAL HLIT HST KC c0 f0 yc
     obtain ⟨w7,hw7⟩:∃ W,W=w6.setCell ⟨w.heap.size+1,0,none⟩ (.slice A1' (S0.length+1) n1'):=⟨_,rfl⟩
     rw [<- hw7] at HS7 ⊢
     clear hw7
     have hMk:4*k<M.length:=by have:=HM4.out;omega
     obtain ⟨bm,om,hA2,hbm,ym⟩:=(GM.out w7 HS7.out.2.2).at_ hMk
     subst hA2
     have hc4:4*(k:Int)+4<=(c2:Int):=by have:=HM4.out;omega
     clear hbm ym hMk
     go_upto_region 8 with fail
     rw [show 4*k+4-4*k=4 from by omega]
     go_loopg [13,40] 4 (fun gj s13 s40 wi=>∃ j:Nat,j<=4/\gj=4-j/\s40=.int .i64 (j:Int)/\∃ v2,ShkP w (.slice A1' (S0.length+1) n1') v2 (S0 ++ [sk0]) (M0 ++ shQ G M k j) L wi)
     case atStart=>exact ⟨0,by omega,rfl,rfl,_,by simpa [shQ] using HS7.out⟩
     case round =>
      clear HS7
      obtain ⟨wx,rfl⟩:∃ wx,wx=wr:=⟨_,rfl⟩
      obtain ⟨j,hj,rfl,rfl,v2,hsp⟩:=hrel
      by_cases hj4:j<4
      · have HMQ:=Lib.hid (shQ_succ G M k j)
        have hMj:4*k+j<M.length:=by have:=HM4.out;omega
        obtain ⟨bm',om',hA2,hbm,ym⟩:=(GM.out wx hsp.2.2).at_ hMj
        injection hA2 with hA2
        injection hA2 with hA2 hA3
        subst hA2 hA3
        have h0j:=H0.out (4*k+j) hMj
        rw [List.getElem?_eq_getElem hMj,Option.getD_some] at HMQ
        rw [<- Nat.add_assoc] at ym
        obtain ⟨y,hy⟩:∃ y:Nat,(y:Int)=M[4*k+j]:=⟨(M[4*k+j]).toNat,by omega⟩
        rw [<- hy] at ym HMQ h0j
        clear hy hbm
        obtain ⟨Ax2,cx2,hv2⟩:=hsp.1.own2.form
        subst hv2
        have HLQ:=Lib.hid (show M0 ++ shQ G M k (j+1)=(M0 ++ shQ G M k j) ++ [shI G (y:Int)] by rw [HMQ.out,List.append_assoc])
        clear HMQ
        have HL2:=Lib.hid (show (M0 ++ shQ G M k j).length<=1000 by have:=HLM.out;simp [shQ];omega)
        generalize M0 ++ shQ G M k j=L2 at *
        have HSF:=Lib.hid (fun W (hb:Below wx.heap.size wx W)=>shifted_any (.slice AG G.length cG) G y W (GG.out W (hsp.2.2.trans (hb.mono hsp.2.2.size))) (by omega) hg)
        have HSP:=Lib.hid hsp
        clear hsp
        obtain ⟨SH,hSH⟩:∃ SH,SH=shI G (y:Int):=⟨_,rfl⟩
        rw [<- hSH] at HSF HLQ
        clear hSH
        have zj:(j:Int)<4:=by omega
        go_upto_region 10 with fail
        clear ym zj
        refine wp_region_pap 6 8 (fun i=>decide (i=7)) (by kernel_rfl) (by kernel_rfl) (by kernel_rfl) (by kernel_rfl) (by kernel_rfl) rfl rfl (by decide) (by simp) (by kernel_rfl) (by kernel_rfl) (fun i=>([some (.pointer (some ⟨w.heap.size+1,1,none⟩)),some (.slice Ax2 L2.length cx2),some (.int .i64 (y:Int)),some (.slice AG G.length cG),none,none,none,some (.pointer (some ⟨w.heap.size+1,1,none⟩)),none]:List (Option Value)).getD i none) (phiT (fun i=>([some (.pointer (some ⟨w.heap.size+1,1,none⟩)),some (.slice Ax2 L2.length cx2),some (.int .i64 (y:Int)),some (.slice AG G.length cG),none,none,none,some (.pointer (some ⟨w.heap.size+1,1,none⟩)),none]:List (Option Value)).getD i none) (fun i v w=>(if i=4 then (fun v w=>v=.int .i64 SH) v w else (if i=5 then (fun v w=>∃ b,v=.slice (some ⟨b,0,none⟩) 1 1/\Arr w b 3 [.int .i64 SH]) v w else True)))) (fun i v w w' h hb=>?_) (fun i u v w h he=>?_) (fun x W=>∃ (Ay:Option Addr) (ky cy:Nat),x 6=.slice Ay ky cy/\Arr W (w.heap.size+1) 24 [(.slice A1' (S0.length+1) n1'),.slice Ax2 L2.length cx2,.int .i64 L]/\ShkP w (.slice A1' (S0.length+1) n1') (.slice Ay ky cy) (S0 ++ [sk0]) (L2 ++ [SH]) L (W.setCell ⟨w.heap.size+1,1,none⟩ (.slice Ay ky cy))) (fun _ W=>∃ v2,ShkP w (.slice A1' (S0.length+1) n1') v2 (S0 ++ [sk0]) (L2 ++ [SH]) L W) (fun x w i v hl h=>?_) (fun x w i v hl h=>?_) ⟨?_,?_,?_,?_,?_,?_,?_,?_,?_,trivial⟩ ?_
        · unfold phiT at h ⊢
          split
          · next u hu=>rw [hu] at h;exact h
          · next hu =>
            rw [hu] at h
            simp only at h ⊢
            by_cases q4:i=4
            · rw [if_pos q4] at h ⊢;exact h
            · rw [if_neg q4] at h ⊢
              by_cases q5:i=5
              · rw [if_pos q5] at h ⊢;exact by obtain ⟨b,h1,h2⟩:=h;exact ⟨b,h1,h2.below hb h2.lt⟩
              · rw [if_neg q5] at h ⊢
                trivial
        · exact phiT_val h he
        · simp only [Bool.or_eq_true,decide_eq_true_eq,Bool.false_eq_true] at hl
          rcases hl with rfl
          · exact by simpa [upd] using h
        · simp only [Bool.or_eq_true,decide_eq_true_eq,Bool.false_eq_true] at hl
          rcases hl with rfl
          · exact by simpa [upd] using h
        · intro x w1 bA hold hb
          refine ⟨fun _ _ _ hbel hdep=>?_,fun h=>absurd h (by decide),fun h=>absurd h (by decide),fun h=>absurd h (by decide)⟩
          have e9:bA.tmps[9]?.getD undef=.pointer (some ⟨w.heap.size+1,0,none⟩):=hb 9
          refine phi_run (.pointer (some ⟨w.heap.size+1,1,none⟩)) ?_ rfl
          clear hb hdep hold
          go_simp
        · intro x w1 bA hold hb
          refine ⟨fun _ _ _ hbel hdep=>?_,fun h=>absurd h (by decide),fun h=>absurd h (by decide),fun h=>absurd h (by decide)⟩
          have e44:bA.tmps[44]?.getD undef=.pointer (some ⟨w.heap.size+1,1,none⟩):=(hb 44).trans (hdep 0 (by decide))
          have u0:=(HSP.out.below hbel).1.box.cell 1
          refine phi_run (.slice Ax2 L2.length cx2) ?_ rfl
          clear hb hdep hold
          go_simp
        · intro x w1 bA hold hb
          refine ⟨fun _ _ _ hbel hdep=>?_,fun h=>absurd h (by decide),fun h=>absurd h (by decide),fun h=>absurd h (by decide)⟩
          have e13:bA.tmps[13]?.getD undef=.int .i64 (y:Int):=hb 13
          refine phi_run (.int .i64 (y:Int)) ?_ rfl
          clear hb hdep hold
          go_simp
        · intro x w1 bA hold hb
          refine ⟨fun _ _ _ hbel hdep=>?_,fun h=>absurd h (by decide),fun h=>absurd h (by decide),fun h=>absurd h (by decide)⟩
          have e3:bA.tmps[3]?.getD undef=.slice AG G.length cG:=hb 3
          refine phi_run (.slice AG G.length cG) ?_ rfl
          clear hb hdep hold
          go_simp
        · intro x w1 bA hold hb
          refine ⟨fun _ _ _ hbel hdep=>?_,fun h=>absurd h (by decide),fun h=>absurd h (by decide),fun h=>absurd h (by decide)⟩
          have e46:bA.tmps[46]?.getD undef=.int .i64 (y:Int):=(hb 46).trans (hdep 2 (by decide))
          have e47:bA.tmps[47]?.getD undef=.slice AG G.length cG:=(hb 47).trans (hdep 3 (by decide))
          refine phi_call ?_ ((HSF.out w1 hbel).mono fun e w' h=>⟨_,h.1,h.2 ▸ Below.refl _ _,rfl⟩)
          clear hb hdep hold
          go_simp
        · intro x w1 bA hold hb
          refine ⟨fun _ _ _ hbel hdep=>?_,fun h=>absurd h (by decide),fun h=>absurd h (by decide),fun h=>absurd h (by decide)⟩
          have p48:=hdep 4 (by decide)
          have e48:bA.tmps[48]?.getD undef=x 4:=hb 48
          generalize x 4=x48 at p48 e48
          have P48:=Lib.hid (show (fun v w=>v=.int .i64 SH) x48 w1 from p48)
          clear p48
          obtain rfl:x48=.int .i64 SH:=P48.out
          refine phi_make (.slice (some ⟨w1.heap.size,0,none⟩) 1 1) (w1.alloc (.cells #[.int .i64 SH] 3)) ?_ ((Below.refl _ _).alloc (Nat.le_refl _) _) (⟨w1.heap.size,rfl,Arr.new w1 3 [_]⟩)
          clear hb hdep hold
          go_simp
        · intro x w1 bA hold hb
          refine ⟨fun _ _ h=>absurd rfl h,fun _ hbel hdep=>?_,fun h=>absurd h (by decide),fun h=>absurd h (by decide)⟩
          have e45:bA.tmps[45]?.getD undef=.slice Ax2 L2.length cx2:=(hb 45).trans (hdep 1 (by decide))
          have p49:=hdep 5 (by decide)
          have e49:bA.tmps[49]?.getD undef=x 5:=hb 49
          obtain ⟨x49,hx49⟩:∃ v,v=x 5:=⟨_,rfl⟩
          rw [<- hx49] at p49 e49
          clear hx49
          have P49:=Lib.hid (show (fun v w=>∃ b,v=.slice (some ⟨b,0,none⟩) 1 1/\Arr w b 3 [.int .i64 SH]) x49 w1 from p49)
          clear p49
          clear hb hdep hold
          obtain ⟨bl,e49b,ag⟩:=P49.out
          rw [e49b] at e49
          clear e49b P49
          refine pap_app4 (R1:=fun x W=>∃ (Ay:Option Addr) (ky cy:Nat),x 6=.slice Ay ky cy/\Arr W (w.heap.size+1) 24 [(.slice A1' (S0.length+1) n1'),.slice Ax2 L2.length cx2,.int .i64 L]/\ShkP w (.slice A1' (S0.length+1) n1') (.slice Ay ky cy) (S0 ++ [sk0]) (L2 ++ [SH]) L (W.setCell ⟨w.heap.size+1,1,none⟩ (.slice Ay ky cy))) (α:=Int) (enc:=enI) (base:=w.heap.size) (xs:=L2) (ys:=[SH]) elI (.tmp 45) (.tmp 49) 22 22 rfl Try.underlying22 Try.underlying22 (by simpa [Act.eval] using e45) (HSP.out.below hbel).1.own2.toA (by simpa [Act.eval] using e49) ⟨_,1,rfl,Nat.le_refl _,fun j q hq=>?_⟩ (by have:=HL2.out;simp;omega) (Nat.le_trans HSP.out.2.2.size hbel.size) (fun v' w' h1 h2 h3 h4=>?_) rfl
          · cases j with
            | zero=>exact ⟨_,_,rfl,(ag.cell 0).trans hq⟩
            | succ j=>simp [enI] at hq
          · obtain ⟨A2y,c2y,hv2⟩:=h1.form
            subst hv2
            have hs1:=HSP.out.below hbel
            exact ⟨A2y,_,c2y,(by rw [upd_same]),(h3 _ hs1.1.box.lt (hs1.1.own2.apart hs1.1.box (by decide))).trans hs1.1.box,hs1.app2 h1 h2 h3 h4⟩
        · intro x w1 bA hold hb
          refine ⟨fun h=>absurd h (by decide),fun h=>absurd h (by decide),fun h=>absurd h (by decide),fun _ hdep=>⟨.pointer (some ⟨w.heap.size+1,1,none⟩),rfl,?_,rfl⟩⟩
          have e9:bA.tmps[9]?.getD undef=.pointer (some ⟨w.heap.size+1,0,none⟩):=hb 9
          clear hb hdep hold
          go_simp
        · intro x w1 bA hold hb
          refine ⟨fun _ h=>absurd rfl h,fun h=>absurd h (by decide),fun _ h1 hdep=>?_,fun h=>absurd h (by decide)⟩
          have e50:bA.tmps[50]?.getD undef=x 6:=hb 50
          have e51:bA.tmps[51]?.getD undef=.pointer (some ⟨w.heap.size+1,1,none⟩):=(hb 51).trans (hdep 7 (by decide) _ rfl)
          clear hb hdep hold
          obtain ⟨Ay,ky,cy,e6,ag,hw⟩:=h1
          rw [e6] at e50
          have c1:=ag.cell 1
          have f1:=ag.frozen 1
          have HW2:=Lib.hid hw
          clear ag hw e6
          refine phl_st (n:=8) (x:=x) (R:=fun _ W=>∃ v2,ShkP w (.slice A1' (S0.length+1) n1') v2 (S0 ++ [sk0]) (L2 ++ [SH]) L W) (w1.setCell ⟨w.heap.size+1,1,none⟩ (.slice Ay ky cy)) ?_ rfl (fun v=>⟨_,HW2.out⟩) rfl
          go_simp
        intro x w1 hR hall
        have x0e:x 0=.pointer (some ⟨w.heap.size+1,1,none⟩):=hall 0 _ (by simp) rfl
        have x1e:x 1=.slice Ax2 L2.length cx2:=hall 1 _ (by simp) rfl
        have x2e:x 2=.int .i64 (y:Int):=hall 2 _ (by simp) rfl
        have x3e:x 3=.slice AG G.length cG:=hall 3 _ (by simp) rfl
        have x7e:x 7=.pointer (some ⟨w.heap.size+1,1,none⟩):=hall 7 _ (by simp) rfl
        simp only [putAll,dstOf,Act.put,List.map_cons,List.map_nil,List.setIfInBounds_toArray,List.set_cons_succ,List.set_cons_zero,Nat.reduceAdd,x0e,x1e,x2e,x3e,x7e]
        clear hall x0e x1e x2e x3e x7e
        obtain ⟨v2',hs2⟩:=hR
        have HS2:=Lib.hid hs2
        clear hs2 HSP
        go_wp2_with fail
        go_roundg (4-(j+1))
        case measure=>omega
        case rel=>exact ⟨j+1,by omega,rfl,by go_num,v2',by rw [HLQ.out];exact HS2.out⟩
      · obtain rfl:j=4:=by omega
        have HSP:=Lib.hid hsp
        clear hsp
        go_wp2_with fail
        go_roundg (S.length-(k+1))
        case measure=>omega
        case rel=>exact ⟨k+1,by omega,rfl,by go_num,_,v2,by rw [HSk2.out,HMk2.out];exact HSP.out⟩
  · obtain rfl:k=S.length:=by omega
    have z1:¬ ((S.length:Int)<(S.length:Int)):=by omega
    obtain ⟨S1,hS1⟩:∃ l,l=shS G S S.length:=⟨_,rfl⟩
    obtain ⟨M1,hM1⟩:∃ l,l=shM G M S.length:=⟨_,rfl⟩
    rw [<- hS1,<- hM1] at hst
    have HS1:=Lib.hid hS1
    have HM1:=Lib.hid hM1
    clear hS1 hM1
    obtain ⟨A1,n1,hv1⟩:=hst.1.own1.form
    subst hv1
    obtain ⟨Ax,cx,hv2⟩:=hst.1.own2.form
    subst hv2
    have y0:=hst.1.box.cell 0
    have y1:=hst.1.box.cell 1
    have y2:=hst.1.box.cell 2
    have x0:=hst.2.1.cell 0
    have x1:=hst.2.1.cell 1
    have x2:=hst.2.1.cell 2
    have f0:=hst.2.1.frozen 0
    have f1:=hst.2.1.frozen 1
    have f2:=hst.2.1.frozen 2
    have HST:=Lib.hid hst
    have n1':=hst.1.own1.apart hst.2.1 (by decide)
    have n2':=hst.1.own2.apart hst.2.1 (by decide)
    have hres:=Lib.hid (((hst.2.1.set 0 (.slice A1 S1.length n1)).set 1 (.slice Ax M1.length cx)).set 2 (.int .i64 L))
    clear hst hlt hk
    go_wp2_with fail
    refine bodyPost_ret (v:=.agg #[.slice A1 S1.length n1,.slice Ax M1.length cx,.int .i64 L]) (results_c Try.results31 _ _ w.heap.size 24 _ _ rfl hres.out Try.underlying24 rfl info_diag) rfl ?_
    exact ⟨_,_,rfl,by rw [<- HS1.out];exact ((HST.out.1.own1.far n1' _).far n1' _).far n1' _,by rw [<- HM1.out];exact ((HST.out.1.own2.far n2' _).far n2' _).far n2' _,((HST.out.2.2.setCell (p:=⟨w.heap.size,0,none⟩) (by simp) _).setCell (p:=⟨w.heap.size,1,none⟩) (by simp) _).setCell (p:=⟨w.heap.size,2,none⟩) (by simp) _⟩
def KinkR (M:List Int) (c:Nat) (e:Ending):Prop:=∃ (i0 o1:Int) (ok:Bool),e=.returned (.tuple #[.int .i64 i0,.int .i64 o1,.bool ok])/\(ok=true->∃ s:Nat,(s=1\/s=2\/s=3)/\mt M (4*c+s)/4=c/\i0=(opp (4*c+s):Nat)/\o1=(opp (mt M (4*c+s)):Nat))
set_option maxHeartbeats 8000000 in
set_option maxRecDepth 100000 in
theorem kink_any (vs vm:Value) (S M:List Int) (L:Int) (c:Nat) (w:World) (hS:Ints w vs S) (hM:Ints w vm M) (k:Ok S M L) (hc:c<S.length) (hn:S.length<=7) :
 Calls Try.prog 28 #[.agg #[vs,vm,.int .i64 L],.int .i64 (c:Nat)] w fun e w'=>KinkR M c e/\Below w.heap.size w w':=by
 have hW:Arr (w.alloc (.cells #[vs,vm,.int .i64 L] 24)) w.heap.size 24 [vs,vm,.int .i64 L]/\Below w.heap.size w (w.alloc (.cells #[vs,vm,.int .i64 L] 24)):=⟨Arr.new w _ _,(Below.refl _ _).alloc (Nat.le_refl _) _⟩
 have HO:=Lib.hid (fun (h:Nat) (hk:h<4*S.length) W (hb:Below w.heap.size w W)=>moutgoing_any vs vm S M L h W (hS.below hb) (hM.below hb) hk (by omega))
 have GM:=Lib.hid (fun W (hb:Below w.heap.size w W)=>hM.below hb)
 have HOK:=Lib.hid k
 clear k
 obtain ⟨A,cs,rfl,hcs,hx⟩:=hS
 obtain ⟨A2,c2,rfl,hc2,hx2⟩:=hM
 clear hx hx2
 have ix0:∀ w,(Instr.index 91 (.agg #[.int .i64 2,.int .i64 1,.int .i64 3]) (.int .i64 0)).run Try.prog w=.ok (.int .i64 2) w:=fun _=>by kernel_rfl
 have ix1:∀ w,(Instr.index 91 (.agg #[.int .i64 2,.int .i64 1,.int .i64 3]) (.int .i64 1)).run Try.prog w=.ok (.int .i64 1) w:=fun _=>by kernel_rfl
 have ix2:∀ w,(Instr.index 91 (.agg #[.int .i64 2,.int .i64 1,.int .i64 3]) (.int .i64 2)).run Try.prog w=.ok (.int .i64 3) w:=fun _=>by kernel_rfl
 go_enter Try.func28,Try.ntmps28
 go_upto_region 1 with fail
 generalize (w.alloc (.cells #[.slice A S.length cs,.slice A2 M.length c2,.int .i64 L] 24))=w3 at hW ⊢
 obtain ⟨qa,hb3⟩:=hW
 have QA:=Lib.hid qa
 have HB:=Lib.hid hb3
 clear qa hb3
 go_wp2_with fail
 go_loopg [8,9,11] 3 (fun gk s8 s9 s11 wr=>∃ j:Nat,j<=3/\gk=3-j/\s11=.int .i64 (j:Int)/\Arr wr w.heap.size 24 [.slice A S.length cs,.slice A2 M.length c2,.int .i64 L]/\Below w.heap.size w wr)
 case atStart=>exact ⟨0,Nat.zero_le _,rfl,rfl,QA.out,HB.out⟩
 case round =>
  clear QA HB
  obtain ⟨wo,rfl⟩:∃ wo,wo=wr:=⟨_,rfl⟩
  obtain ⟨j,hj,rfl,rfl,qa,hb⟩:=hrel
  by_cases hlt:j<3
  · have z1:(j:Int)<3:=by omega
    obtain ⟨s,hs,hsj⟩:∃ s:Nat,(s=1\/s=2\/s=3)/\((j=0/\s=2)\/(j=1/\s=1)\/(j=2/\s=3)):=by
     rcases (by omega:j=0\/j=1\/j=2) with e|e|e
     · exact ⟨2,by omega,by omega⟩
     · exact ⟨1,by omega,by omega⟩
     · exact ⟨3,by omega,by omega⟩
    have hh:4*c+s<M.length:=by have:=HOK.out.m;omega
    have hmt:=HOK.out.lt _ hh
    obtain ⟨bm,om,hA2,hbm,ym⟩:=ints_mt (GM.out wo hb) hh (HOK.out.pos _ hh)
    subst hA2
    obtain ⟨h,hh2⟩:∃ h,h=4*c+s:=⟨_,rfl⟩
    have HHS:=Lib.hid hh2
    rw [<- hh2] at ym hh hmt
    obtain ⟨q,hq⟩:∃ q,q=mt M h:=⟨_,rfl⟩
    have HQ:=Lib.hid hq
    rw [<- hq] at ym hmt
    have hm4:h<4*S.length:=by have:=HOK.out.m;omega
    have hq1:q<1000:=by have:=HOK.out.m;omega
    have hh1:h<1000:=by omega
    have HO1:=Lib.hid (HO.out h hm4 wo hb)
    have KO1:=Lib.hid (fun W=>opposite_any h W hh1)
    have KO2:=Lib.hid (fun W=>opposite_any q W hq1)
    have z2:(h:Int)<(M.length:Int):=by omega
    have HQA:=Lib.hid (show ∀ W,Below wo.heap.size wo W->Arr W w.heap.size 24 [.slice A S.length cs,.slice (some ⟨bm,om,none⟩) M.length c2,.int .i64 L]/\W.cell? ⟨bm,om+h,none⟩=some (.int .i64 (q:Nat))/\Below w.heap.size w W from fun W hw=>⟨qa.below hw qa.lt,(hw.cell (p:=⟨bm,om+h,none⟩) hbm).trans ym,hb.trans (hw.mono hb.size)⟩)
    have y0:=qa.cell 0
    have y1:=qa.cell 1
    have y2:=qa.cell 2
    clear qa hb ym HO hm4 hq hh2 hmt hh hbm
    rcases hsj with ⟨rfl,rfl⟩|⟨rfl,rfl⟩|⟨rfl,rfl⟩
    · have eh:4*(c:Int)+2=(h:Int):=by have:=HHS.out;omega
      have HHS2:=Lib.hid (show h=4*c+2 from HHS.out)
      go_wp2_with (go_at_call 53;refine HO1.out.mono ?_;rintro e w5 ⟨⟨o,rfl⟩,hb5⟩;obtain ⟨qa5,ym,hb⟩:=HQA.out w5 hb5;have y1:=qa5.cell 1;by_cases hqc:(q:Int)/4=(c:Int))
      all_goals first
       | (go_roundg (3-1);(case measure=>omega);(case rel=>exact ⟨1,by omega,rfl,rfl,qa5,hb⟩))
       | skip
      go_quiet ((first|(go_at_call_of 55 (Value.int .i64 (h:Int));exact quietL (KO1.out _))|(go_at_call_of 55 (Value.int .i64 (q:Int));exact quietL (KO2.out _))))
      go_wp2_with fail
      go_ret3
      exact ⟨⟨_,_,true,rfl,fun _=>⟨2,by omega,by rw [<- HHS2.out,<- HQ.out];omega,by rw [<- HHS2.out],by rw [<- HHS2.out,<- HQ.out]⟩⟩,bdrewN hb _⟩
    · have eh:4*(c:Int)+1=(h:Int):=by have:=HHS.out;omega
      have HHS2:=Lib.hid (show h=4*c+1 from HHS.out)
      go_wp2_with (go_at_call 53;refine HO1.out.mono ?_;rintro e w5 ⟨⟨o,rfl⟩,hb5⟩;obtain ⟨qa5,ym,hb⟩:=HQA.out w5 hb5;have y1:=qa5.cell 1;by_cases hqc:(q:Int)/4=(c:Int))
      all_goals first
       | (go_roundg (3-2);(case measure=>omega);(case rel=>exact ⟨2,by omega,rfl,rfl,qa5,hb⟩))
       | skip
      go_quiet ((first|(go_at_call_of 55 (Value.int .i64 (h:Int));exact quietL (KO1.out _))|(go_at_call_of 55 (Value.int .i64 (q:Int));exact quietL (KO2.out _))))
      go_wp2_with fail
      go_ret3
      exact ⟨⟨_,_,true,rfl,fun _=>⟨1,by omega,by rw [<- HHS2.out,<- HQ.out];omega,by rw [<- HHS2.out],by rw [<- HHS2.out,<- HQ.out]⟩⟩,bdrewN hb _⟩
    · have eh:4*(c:Int)+3=(h:Int):=by have:=HHS.out;omega
      have HHS2:=Lib.hid (show h=4*c+3 from HHS.out)
      go_wp2_with (go_at_call 53;refine HO1.out.mono ?_;rintro e w5 ⟨⟨o,rfl⟩,hb5⟩;obtain ⟨qa5,ym,hb⟩:=HQA.out w5 hb5;have y1:=qa5.cell 1;by_cases hqc:(q:Int)/4=(c:Int))
      all_goals first
       | (go_roundg (3-3);(case measure=>omega);(case rel=>exact ⟨3,by omega,rfl,rfl,qa5,hb⟩))
       | skip
      go_quiet ((first|(go_at_call_of 55 (Value.int .i64 (h:Int));exact quietL (KO1.out _))|(go_at_call_of 55 (Value.int .i64 (q:Int));exact quietL (KO2.out _))))
      go_wp2_with fail
      go_ret3
      exact ⟨⟨_,_,true,rfl,fun _=>⟨3,by omega,by rw [<- HHS2.out,<- HQ.out];omega,by rw [<- HHS2.out],by rw [<- HHS2.out,<- HQ.out]⟩⟩,bdrewN hb _⟩
  · obtain rfl:j=3:=by omega
    have HB:=Lib.hid hb
    clear hb qa
    go_wp2_with fail
    go_ret3
    exact ⟨⟨0,0,false,rfl,fun h=>by cases h⟩,HB.out⟩
def Bx4 (w W:World) (d m:List Value):Prop:=Arr W w.heap.size 24 d/\Arr W (w.heap.size+1) 26 m/\Arr W (w.heap.size+2) 24 [.slice none 0 0,.slice none 0 0,.int .i64 0]/\Arr W (w.heap.size+3) 26 [.int .i64 0,.int .i64 0,.int .i64 0,.int .i64 0,.bool false]/\Below w.heap.size w W
section
variable {w W W2:World} {d m:List Value}
theorem Bx4.start (W:World) (vs vm:Value) (L kd X Y sg:Int) (ov:Bool) (w:World) (hW:W=((((w.alloc (.cells #[vs,vm,.int .i64 L] 24)).alloc (.cells #[.int .i64 kd,.int .i64 X,.int .i64 Y,.int .i64 sg,.bool ov] 26)).alloc (.cells #[.slice none 0 0,.slice none 0 0,.int .i64 0] 24)).alloc (.cells #[.int .i64 0,.int .i64 0,.int .i64 0,.int .i64 0,.bool false] 26))) :
 Bx4 w W [vs,vm,.int .i64 L] [.int .i64 kd,.int .i64 X,.int .i64 Y,.int .i64 sg,.bool ov]:=by
 subst hW
 exact ⟨(((Arr.new _ _ [_,_,_]).alloc _).alloc _).alloc _,((Arr.newAt (w.alloc _) _ [_,_,_,_,_] _ (by simp)).alloc _).alloc _,(Arr.newAt ((w.alloc _).alloc _) _ [_,_,_] _ (by simp)).alloc _,Arr.newAt (((w.alloc _).alloc _).alloc _) _ [_,_,_,_,_] _ (by simp),((((Below.refl _ _).alloc (Nat.le_refl _) _).alloc (by simp) _).alloc (by simp <;> omega) _).alloc (by simp <;> omega) _⟩
theorem Bx4.lt (h:Bx4 w W d m):w.heap.size+4<=W.heap.size:=by
 have:=h.2.2.2.1.lt;omega
theorem Bx4.below {B:Nat} (h:Bx4 w W d m) (hb:Below B W W2) (hB:w.heap.size+4<=B):Bx4 w W2 d m :=
 ⟨h.1.below hb (by omega),h.2.1.below hb (by omega),h.2.2.1.below hb (by omega),h.2.2.2.1.below hb (by omega),h.2.2.2.2.trans (hb.mono (by omega))⟩
theorem Bx4.drew (h:Bx4 w W d m):Bx4 w W.drew d m:=⟨h.1,h.2.1,h.2.2.1,h.2.2.2.1,h.2.2.2.2.drew⟩
end
end Go.Proofs.Ytfnmeigpfmeomaa
namespace Go.Proofs.Ytfnmeigpfmeomaa
set_option linter.unusedVariables false
def nb (G:List Int):Nat->Nat
 | 0=>0
 | k+1=>nb G k+if G.contains (k:Int) then 0 else 1
theorem nb_mono (G:List Int):∀ {a b:Nat},a<=b->nb G a<=nb G b
 | a,0,h=>by have:a=0:=by omega
             subst this;exact Nat.le_refl _
 | a,b+1,h=>by
  by_cases e:a=b+1
  · subst e;exact Nat.le_refl _
  · have:=nb_mono G (show a<=b by omega)
    rw [nb];omega
theorem nb_lt {G:List Int} {a b:Nat} (h:a<b) (ha:G.contains (a:Int)=false):nb G a<nb G b:=by
 have h1:=nb_mono G (show a+1<=b by omega)
 rw [nb,ha] at h1
 simp at h1
 omega
theorem shS_length (G S:List Int):∀ k,(shS G S k).length=nb G k
 | 0=>rfl
 | k+1=>by rw [shS,nb,List.length_append,shS_length G S k];split <;> rfl
theorem shM_get (G M:List Int):∀ k,(shM G M k).length=4*nb G k/\∀ c,c<k->G.contains (c:Int)=false->∀ s,s<4->(shM G M k)[4*nb G c+s]? = some (shI G (M[4*c+s]?.getD 0))
 | 0=>⟨rfl,fun c hc=>by omega⟩
 | k+1=>by
  obtain ⟨h1,h2⟩:=shM_get G M k
  rw [shM,nb]
  cases hk:G.contains (k:Int) with
  | true =>
   simp only [if_true,List.append_nil,Nat.add_zero]
   refine ⟨h1,fun c hc hcG s hs=>?_⟩
   have:c≠k:=fun e=>by subst e;rw [hk] at hcG;cases hcG
   exact h2 c (by omega) hcG s hs
  | false =>
   simp only [Bool.false_eq_true,if_false]
   refine ⟨by rw [List.length_append,h1];simp [shQ];omega,fun c hc hcG s hs=>?_⟩
   by_cases e:c=k
   · subst e
     rw [List.getElem?_append_right (by omega),h1,Nat.add_sub_cancel_left]
     unfold shQ
     rw [List.getElem?_map,List.getElem?_range hs];rfl
   · have:=nb_lt (G:=G) (show c<k by omega) hcG
     rw [List.getElem?_append_left (by omega)]
     exact h2 c (by omega) hcG s hs
theorem con1 (c k:Nat):[(c:Int)].contains (k:Int)=decide (k=c):=by
 rw [Bool.eq_iff_iff];simp;omega
theorem con2 (a b k:Nat):[(a:Int),(b:Int)].contains (k:Int)=decide (k=a\/k=b):=by
 rw [Bool.eq_iff_iff];simp;omega
theorem nb_one (c:Nat):∀ k,nb [(c:Int)] k=if k<=c then k else k-1
 | 0=>by simp [nb]
 | k+1=>by
  rw [nb,nb_one c k,con1]
  by_cases h:k=c
  · subst h;simp
  · rw [show decide (k=c)=false by simpa using h]
    simp only [Bool.false_eq_true,if_false]
    by_cases h2:k<=c
    · rw [if_pos h2,if_pos (by omega)]
    · rw [if_neg h2,if_neg (by omega)];omega
theorem nb_two {a b:Nat} (hab:a<b):∀ k,nb [(a:Int),(b:Int)] k=if k<=a then k else if k<=b then k-1 else k-2
 | 0=>by simp [nb]
 | k+1=>by
  rw [nb,nb_two hab k,con2]
  by_cases h:k=a\/k=b
  · rw [show decide (k=a\/k=b)=true by simpa using h]
    simp only [if_true]
    rcases h with rfl|rfl
    · rw [if_pos (Nat.le_refl _),if_neg (by omega),if_pos (by omega)];omega
    · rw [if_neg (by omega),if_pos (Nat.le_refl _),if_neg (by omega),if_neg (by omega)];omega
  · rw [show decide (k=a\/k=b)=false by simpa using h]
    simp only [Bool.false_eq_true,if_false]
    by_cases h1:k<=a
    · rw [if_pos h1,if_pos (by omega)]
    · rw [if_neg h1]
      by_cases h2:k<=b
      · rw [if_pos h2,if_neg (by omega),if_pos (by omega)];omega
      · rw [if_neg h2,if_neg (by omega),if_neg (by omega)];omega
theorem shI_one {c v:Nat} (h:v/4≠c):shI [(c:Int)] (v:Int)=(us c v:Nat):=by
 unfold shI us ltC ltC
 by_cases w:v<4*c
 · rw [if_pos w,if_neg (by omega)];omega
 · rw [if_neg w,if_pos (by omega)];omega
theorem shI_two {a b v:Nat} (hab:a<b) (h:v/4≠a) (h2:v/4≠b):shI [(a:Int),(b:Int)] (v:Int)=(us2 a b v:Nat):=by
 unfold shI us2 ltC ltC ltC
 by_cases w:v<4*a
 · rw [if_pos w,if_neg (by omega),if_neg (by omega)];omega
 · rw [if_neg w,if_pos (by omega)]
   by_cases w2:v<4*b
   · rw [if_pos w2,if_neg (by omega)];omega
   · rw [if_neg w2,if_pos (by omega)];omega
theorem sk_us {c v:Nat} (h:v/4≠c):sk c (us c v)=v:=by
 unfold sk us
 by_cases w:v<4*c
 · rw [if_pos w,if_pos w]
 · rw [if_neg w,if_neg (by omega)];omega
theorem sk2_us2 {a b v:Nat} (hab:a<b) (h:v/4≠a) (h2:v/4≠b):sk2 a b (us2 a b v)=v:=by
 unfold sk2 us2
 by_cases w:v<4*a
 · rw [if_pos w,if_pos w]
 · rw [if_neg w]
   by_cases w2:v<4*b
   · rw [if_pos w2,if_neg (by omega),if_pos (by omega)];omega
   · rw [if_neg w2,if_neg (by omega),if_neg (by omega)];omega
theorem mt_clL {M:List Int} {a b:Nat} (ha:mt M a<M.length) (hb:mt M b<M.length):mt (clL M a b)=clsF (mt M) a b:=by
 unfold clL clsF
 by_cases h:mt M a=b
 · rw [if_pos h,if_pos h]
 · rw [if_neg h,if_neg h];exact mt_jnL ha hb
theorem cast_mt {M:List Int} {h:Nat} (hh:h<M.length) (h0:0<=M[h]):M[h]?.getD 0=((mt M h:Nat):Int):=by
 unfold mt
 rw [List.getElem?_eq_getElem hh]
 show M[h]=((M[h].toNat:Nat):Int)
 omega
theorem jnL_pos {M:List Int} {x y:Nat} (h:∀ i (hi:i<M.length),0<=M[i]):∀ i (hi:i<(jnL M x y).length),0<=(jnL M x y)[i]:=by
 intro i hi
 have hi':i<((M.set x ((y:Nat):Int)).set y ((x:Nat):Int)).length:=hi
 change 0<=((M.set x ((y:Nat):Int)).set y ((x:Nat):Int))[i]'hi'
 rw [List.getElem_set]
 split
 · omega
 · rw [List.getElem_set]
   split
   · omega
   · exact h i (by simpa [jnL] using hi)
theorem clL_pos {M:List Int} {x y:Nat} (h:∀ i (hi:i<M.length),0<=M[i]):∀ i (hi:i<(clL M x y).length),0<=(clL M x y)[i]:=by
 unfold clL
 split
 · exact h
 · exact jnL_pos h
theorem jnL_lt {M:List Int} {x y:Nat} {N:Int} (h:∀ i (hi:i<M.length),M[i]<N) (hx:(x:Int)<N) (hy:(y:Int)<N):∀ i (hi:i<(jnL M x y).length),(jnL M x y)[i]<N:=by
 intro i hi
 have hi':i<((M.set x ((y:Nat):Int)).set y ((x:Nat):Int)).length:=hi
 change ((M.set x ((y:Nat):Int)).set y ((x:Nat):Int))[i]'hi'<N
 rw [List.getElem_set]
 split
 · exact hx
 · rw [List.getElem_set]
   split
   · exact hy
   · exact h i (by simpa [jnL] using hi)
theorem clL_lt {M:List Int} {x y:Nat} {N:Int} (h:∀ i (hi:i<M.length),M[i]<N) (hx:(mt M x:Int)<N) (hy:(mt M y:Int)<N):∀ i (hi:i<(clL M x y).length),(clL M x y)[i]<N:=by
 unfold clL
 split
 · exact h
 · exact jnL_lt h hx hy
theorem Ok.lt1 {S M:List Int} {L:Int} (k:Ok S M L) (hn:S.length<=7):∀ i (hi:i<M.length),M[i]<1000:=by
 intro i hi
 have h1:=k.lt i hi
 have h2:=cast_mt hi (k.pos i hi)
 rw [List.getElem?_eq_getElem hi,Option.getD_some] at h2
 have:=k.m
 omega
theorem no_thread {n c:Nat} {α fc lab:Nat->Nat} (p:Plnr n α fc lab) (hc:c<n):α (4*c+2)≠4*c/\α (4*c+1)≠4*c+3:=by
 constructor
 · intro e
   have e2:α (4*c)=4*c+2:=by have:=p.k.inv (4*c+2) (by omega);rwa [e] at this
   have h:=p.cut (m:=3) (x:=fun h=>if h=4*c then 1 else if h=4*c+2 then 2 else 0) (a:=4*c) (by omega) (fun h hh h1 h2=>?_) (fun d hd=>?_) (fun h hh=>?_)
   · try simp only [e2] at h
     rw [if_neg (by omega)] at h
     simp at h
   · rw [e2] at h2
     have n1:α h≠4*c:=fun w=>h2 (by rw [<- p.k.inv h hh,w,e2])
     have n2:α h≠4*c+2:=fun w=>h1 (by rw [<- p.k.inv h hh,w,e])
     try simp only
     rw [if_neg n1,if_neg n2,if_neg h1,if_neg h2]
   · try simp only
     rw [if_neg (show ¬ 4*d+1=4*c by omega),if_neg (show ¬ 4*d+1=4*c+2 by omega),if_neg (show ¬ 4*d+3=4*c by omega),if_neg (show ¬ 4*d+3=4*c+2 by omega)]
     refine ⟨rfl,?_⟩
     by_cases w:d=c
     · subst w
       rw [if_pos rfl,if_neg (by omega),if_pos rfl];exact ⟨-1,by decide⟩
     · rw [if_neg (by omega),if_neg (by omega),if_neg (by omega),if_neg (by omega)];exact ⟨0,by decide⟩
   · try simp only
     split
     · omega
     · split <;> omega
 · intro e
   have e2:α (4*c+3)=4*c+1:=by have:=p.k.inv (4*c+1) (by omega);rwa [e] at this
   have h:=p.cut (m:=3) (x:=fun h=>if h=4*c+1 then 1 else if h=4*c+3 then 1 else if h=4*c+2 then 2 else 0) (a:=4*c+2) (by omega) (fun h hh h1 h2=>?_) (fun d hd=>?_) (fun h hh=>?_)
   · have n1:α (4*c+2)≠4*c+1:=fun w=>by have:=p.k.inv (4*c+2) (by omega);rw [w,e] at this;omega
     have n2:α (4*c+2)≠4*c+3:=fun w=>by have:=p.k.inv (4*c+2) (by omega);rw [w,e2] at this;omega
     have n3:α (4*c+2)≠4*c+2:=p.k.ne _ (by omega)
     try simp only at h
     rw [if_neg n1,if_neg n2,if_neg n3,if_neg (by omega),if_neg (by omega),if_pos trivial] at h
     omega
   · try simp only
     by_cases w1:h=4*c+1
     · rw [w1,e,if_neg (by omega),if_pos rfl,if_pos rfl]
     · by_cases w2:h=4*c+3
       · rw [w2,e2,if_pos rfl,if_neg (by omega),if_pos rfl]
       · have n1:α h≠4*c+1:=fun w=>w2 (by rw [<- p.k.inv h hh,w,e])
         have n2:α h≠4*c+3:=fun w=>w1 (by rw [<- p.k.inv h hh,w,e2])
         have n3:α h≠4*c+2:=fun w=>h2 (by rw [<- p.k.inv h hh,w])
         rw [if_neg n1,if_neg n2,if_neg n3,if_neg w1,if_neg w2,if_neg h1]
   · by_cases w:d=c
     · subst w
       simp
     · try simp only
       rw [if_neg (by omega),if_neg (by omega),if_neg (by omega),if_neg (by omega),if_neg (by omega),if_neg (by omega),if_neg (by omega),if_neg (by omega),if_neg (by omega),if_neg (by omega),if_neg (by omega),if_neg (by omega)]
       exact ⟨rfl,0,by decide⟩
   · try simp only
     split
     · omega
     · split
       · omega
       · split <;> omega
theorem opp_slots {c o:Nat} (h:o/4=c):opp o/4=c/\(o=4*c/\opp o=4*c+2\/o=4*c+1/\opp o=4*c+3\/o=4*c+2/\opp o=4*c\/o=4*c+3/\opp o=4*c+1):=by
 unfold opp
 omega
theorem slt_of {c p q:Nat} (hp:p/4=c) (hq:q/4=c) (h:p%2=1) (h2:q%2=0):Slt c p (opp p) q (opp q):=by
 obtain ⟨_,a⟩:=opp_slots hp
 obtain ⟨_,b⟩:=opp_slots hq
 unfold Slt
 omega
structure Lns (M:List Int) (x y h:Nat):Prop where
 at_:(h/4=x/\turnN (mt M h) 3/4=y)\/(h/4=y/\turnN (mt M h) 3/4=x)
 back:turnN (mt M (turnN (mt M h) 3)) 3=h
 par:h%2=mt M h%2
section
variable {S M:List Int} {L:Int}
set_option maxHeartbeats 1000000 in
theorem uncurl_mv {c s:Nat} (hc:c<S.length) (hs:s=1\/s=2\/s=3) (hk:mt M (4*c+s)/4=c) :
 MvQ S M L (shS [(c:Int)] S S.length) (shM [(c:Int)] (clL M (opp (4*c+s)) (opp (mt M (4*c+s)))) S.length) (L+(lp (mt M) (opp (4*c+s)) (opp (mt M (4*c+s))):Nat)):=by
 intro hv hv' m hm
 have k:=valB_ok hv
 have k':=valB_ok hv'
 obtain ⟨fc,lab,pl⟩:=planar hv
 obtain ⟨t1,t2⟩:=no_thread pl hc
 have i2:=ok_inv2 k
 have hml:=k.m
 have hl0:=k.l0
 obtain ⟨n',hn'⟩:∃ n',S.length=n'+1:=⟨S.length-1,by omega⟩
 obtain ⟨o,ho⟩:∃ o,o=4*c+s:=⟨_,rfl⟩
 rw [<- ho] at hk k' ⊢
 have ho4:o/4=c:=by omega
 have hol:o<4*S.length:=by omega
 obtain ⟨q,hq⟩:∃ q,q=mt M o:=⟨_,rfl⟩
 rw [<- hq] at hk k' ⊢
 have hql:q<4*S.length:=by rw [hq];exact i2.lt o hol
 have hqo:mt M q=o:=by rw [hq];exact i2.inv o hol
 have hne:q≠o:=by rw [hq];exact i2.ne o hol
 have hpar:o%2≠q%2:=by
  intro e
  have:q=opp o:=by unfold opp;omega
  rcases hs with rfl|rfl|rfl
  · exact t2 (by rw [<- ho,<- hq,this,ho];unfold opp;omega)
  · exact t1 (by rw [<- ho,<- hq,this,ho];unfold opp;omega)
  · exact t2 (by
     have e3:q=4*c+1:=by rw [this,ho];unfold opp;omega
     rw [<- e3,hqo,ho])
 obtain ⟨a,ha⟩:∃ a,a=opp o:=⟨_,rfl⟩
 obtain ⟨b,hb⟩:∃ b,b=opp q:=⟨_,rfl⟩
 have ha4:a/4=c:=by rw [ha];exact (opp_slots ho4).1
 have hb4:b/4=c:=by rw [hb];exact (opp_slots hk).1
 have hal:a<4*S.length:=by omega
 have hbl:b<4*S.length:=by omega
 have hab:a≠b/\a≠o/\a≠q/\b≠o/\b≠q:=by
  rw [ha,hb]
  have h1:=(opp_slots ho4).2
  have h2:=(opp_slots hk).2
  omega
 rw [<- ha,<- hb] at k' ⊢
 have hcl:mt (clL M a b)=clsF (mt M) a b:=mt_clL (by rw [hml];exact i2.lt a hal) (by rw [hml];exact i2.lt b hbl)
 have hcll:(clL M a b).length=4*S.length:=by rw [clL_length,hml]
 obtain ⟨g1,g2⟩:=shM_get [(c:Int)] (clL M a b) S.length
 have hnb:nb [(c:Int)] S.length=n':=by rw [nb_one,if_neg (by omega)];omega
 have hSl:(shS [(c:Int)] S S.length).length=n':=by rw [shS_length,hnb]
 rw [hnb] at g1
 have live:Mtc S.length (clsF (mt M) a b) [a,b,o,q]:=((Mtc.of i2).die hol (by simp) hq.symm).close hal hbl (by simp;exact ⟨hab.2.1,hab.2.2.1⟩) (by simp;exact ⟨hab.2.2.2.1,hab.2.2.2.2⟩) hab.1
 have hall:∀ h,h/4≠c->h ∉ [a,b,o,q]:=fun h hh w=>by
  simp only [List.mem_cons,List.not_mem_nil,or_false] at w
  rcases w with e|e|e|e <;> exact hh (by rw [e];assumption)
 have hall2:∀ h,h ∉ [a,b,o,q]->h/4≠c:=fun h hh w=>by
  apply hh
  simp only [List.mem_cons,List.not_mem_nil,or_false]
  omega
 have key:∀ j,j<4*n'->(shM [(c:Int)] (clL M a b) S.length)[j]?.getD 0=(us c (clsF (mt M) a b (sk c j)):Nat)/\clsF (mt M) a b (sk c j)/4≠c:=by
  intro j hj
  have hsk:sk c j<4*S.length/\sk c j/4≠c/\4*nb [(c:Int)] (sk c j/4)+sk c j%4=j:=by
   rw [nb_one]
   unfold sk
   by_cases w:j<4*c
   · rw [if_pos w,if_pos (by omega)];omega
   · rw [if_neg w,if_neg (by omega)];omega
  obtain ⟨s1,s2,s3⟩:=hsk
  have h1:=g2 (sk c j/4) (by omega) (by rw [con1];simpa using s2) (sk c j%4) (by omega)
  rw [s3,show 4*(sk c j/4)+sk c j%4=sk c j by omega] at h1
  have h2:=hall2 _ (live (sk c j) s1 (hall _ s2)).2.1
  rw [cast_mt (by rw [hcll];exact s1) (clL_pos k.pos _ (by rw [hcll];exact s1)),hcl,shI_one h2] at h1
  rw [h1]
  exact ⟨rfl,h2⟩
 have hmt:∀ j,j<4*n'->mt (shM [(c:Int)] (clL M a b) S.length) j=us c (clsF (mt M) a b (sk c j)):=fun j hj=>by
  rw [show mt (shM [(c:Int)] (clL M a b) S.length) j=((shM [(c:Int)] (clL M a b) S.length)[j]?.getD 0).toNat from rfl,(key j hj).1]
  exact Int.toNat_natCast _
 have hlt:∀ h,h<4*n'->mt (shM [(c:Int)] (clL M a b) S.length) h<4*n':=fun h hh=>by
  have:=(ok_inv2 k').lt h (by rw [hSl];exact hh)
  rwa [hSl] at this
 have hα:∀ j,j<4*n'->clsF (mt M) a b (sk c j)=sk c (mt (shM [(c:Int)] (clL M a b) S.length) j):=fun j hj=>by
  rw [hmt j hj,sk_us (key j hj).2]
 rw [hSl,hn']
 rw [hn'] at i2 hα hlt
 have hfin:nFox (n'+1) (mt M) m=nFox n' (mt (shM [(c:Int)] (clL M a b) (n'+1))) m*m ^ lp (mt M) a b:=by
  by_cases w:o%2=1
  · exact r1_count i2 hlt (by omega) (slt_of ho4 hk w (by omega)) hq.symm (.inl ⟨ha,hb⟩) hα hm
  · exact r1_count i2 hlt (by omega) (slt_of hk ho4 (by omega) (by omega)) hqo (.inr ⟨ha,hb⟩) hα hm
 rw [hfin,Nat.mul_assoc,<- Nat.pow_add]
 congr 2
 omega
end
end Go.Proofs.Ytfnmeigpfmeomaa
namespace Go.Proofs.Ytfnmeigpfmeomaa
open Go.RowKit
set_option linter.unusedVariables false
set_option maxHeartbeats 8000000 in
set_option maxRecDepth 100000 in
theorem uncurl_any (vs vm:Value) (S M:List Int) (L kd Y sg:Int) (ov:Bool) (c:Nat) (w:World) (hS:Ints w vs S) (hM:Ints w vm M) (k:Ok S M L) (hc:c<S.length) (hn:S.length<=7) :
 Calls Try.prog 14 #[.agg #[vs,vm,.int .i64 L],.agg #[.int .i64 kd,.int .i64 (c:Nat),.int .i64 Y,.int .i64 sg,.bool ov]] w fun e w'=>MvE (fun S' M' L'=>MvQ S M L S' M' L') e w'/\Below w.heap.size w w':=by
 have KK:=Lib.hid (fun W (hb:Below w.heap.size w W)=>kink_any vs vm S M L c W (hS.below hb) (hM.below hb) k hc hn)
 have GM:=Lib.hid (fun W (hb:Below w.heap.size w W)=>hM.below hb)
 have GS:=Lib.hid (fun W (hb:Below w.heap.size w W)=>hS.below hb)
 have HOK:=Lib.hid k
 clear k
 obtain ⟨A,cs,rfl,hcs,hx⟩:=hS
 obtain ⟨A2,c2,rfl,hc2,hx2⟩:=hM
 clear hx hx2
 obtain ⟨ii,hi1,hi2,hi3,hi4⟩:=info_parts info_int
 have HI1:=Lib.hid hi1
 have HI2:=Lib.hid hi2
 have HI3:=Lib.hid hi3
 have HI4:=Lib.hid hi4
 clear hi1 hi2 hi3 hi4
 go_enter Try.func14,Try.ntmps14
 go_upto_region 1 with fail
 have hW:=Bx4.start ((((w.alloc (.cells #[.slice A S.length cs,.slice A2 M.length c2,.int .i64 L] 24)).alloc (.cells #[.int .i64 kd,.int .i64 (c:Int),.int .i64 Y,.int .i64 sg,.bool ov] 26)).alloc (.cells #[.slice none 0 0,.slice none 0 0,.int .i64 0] 24)).alloc (.cells #[.int .i64 0,.int .i64 0,.int .i64 0,.int .i64 0,.bool false] 26)) _ _ L kd (c:Int) Y sg ov w rfl
 generalize ((((w.alloc (.cells #[.slice A S.length cs,.slice A2 M.length c2,.int .i64 L] 24)).alloc (.cells #[.int .i64 kd,.int .i64 (c:Int),.int .i64 Y,.int .i64 sg,.bool ov] 26)).alloc (.cells #[.slice none 0 0,.slice none 0 0,.int .i64 0] 24)).alloc (.cells #[.int .i64 0,.int .i64 0,.int .i64 0,.int .i64 0,.bool false] 26))=w4 at hW ⊢
 have y0:=hW.1.cell 0
 have y1:=hW.1.cell 1
 have y2:=hW.1.cell 2
 have m1:=hW.2.1.cell 1
 have HW:=Lib.hid hW
 clear hW
 go_upto_region 3 with (go_at_call 28;refine (KK.out _ HW.out.2.2.2.2).mono ?_;rintro e w5 ⟨⟨i0,o1,ok,rfl,hok⟩,hb5⟩)
 have HBX:=Lib.hid (HW.out.below hb5 HW.out.lt)
 clear HW y0 y1 y2 m1 hb5 KK
 cases ok with
 | false =>
  have x0:=HBX.out.2.2.1.cell 0
  have x1:=HBX.out.2.2.1.cell 1
  have x2:=HBX.out.2.2.1.cell 2
  have f0:=HBX.out.2.2.1.frozen 0
  have f1:=HBX.out.2.2.1.frozen 1
  have f2:=HBX.out.2.2.1.frozen 2
  have z0:=HBX.out.2.2.2.1.cell 0
  have z1:=HBX.out.2.2.2.1.cell 1
  have z2:=HBX.out.2.2.2.1.cell 2
  have z3:=HBX.out.2.2.2.1.cell 3
  have z4:=HBX.out.2.2.2.1.cell 4
  have g0:=HBX.out.2.2.2.1.frozen 0
  have g1:=HBX.out.2.2.2.1.frozen 1
  have g2:=HBX.out.2.2.2.1.frozen 2
  have g3:=HBX.out.2.2.2.1.frozen 3
  have g4:=HBX.out.2.2.2.1.frozen 4
  have HA:=Lib.hid (Arr.stored HBX.out.2.2.1 HBX.out.2.2.2.1 (by simp) (.slice none 0 0) (.slice none 0 0) (.int .i64 0) (.int .i64 0) (.int .i64 0) (.int .i64 0) (.int .i64 0) (.bool false))
  have HB:=Lib.hid (below_stored HBX.out.2.2.2.2 (r:=w.heap.size+2) (q:=w.heap.size+3) (by simp) (by simp) (.slice none 0 0) (.slice none 0 0) (.int .i64 0) (.int .i64 0) (.int .i64 0) (.int .i64 0) (.int .i64 0) (.bool false))
  go_wp2_with fail
  refine bodyPost_ret (v:=.tuple #[.agg #[.slice none 0 0,.slice none 0 0,.int .i64 0],.agg #[.int .i64 0,.int .i64 0,.int .i64 0,.int .i64 0,.bool false],.int .i64 6]) (results_cct Try.results14 _ _ (w.heap.size+2) (w.heap.size+3) 24 26 _ _ _ _ rfl HA.out.1 rfl HA.out.2 Try.underlying24 rfl info_diag Try.underlying26 rfl info_move) rfl ?_
  exact ⟨MvE.err (by decide),HB.out⟩
 | true =>
  obtain ⟨s,hs,hmc,rfl,rfl⟩:=hok rfl
  clear hok
  have y1:=HBX.out.1.cell 1
  have HLM:=Lib.hid (show M.length<=1000 by have:=HOK.out.m;omega)
  have HW5:=Lib.hid HBX.out.lt
  go_upto_region 6 with (at_builtin;refine wpList_appI rfl _ (.tmp 28) 22 rfl Try.underlying22 HI1.out HI2.out HI3.out HI4.out rfl (OwnI.nil 3 (w.heap.size+4) w5) rfl (GM.out w5 HBX.out.2.2.2.2) (by have:=HLM.out;simp;omega) HW5.out ?_;intro v' w6 h1 h2 h3)
  rw [List.nil_append] at h1
  obtain ⟨Am,cm,hv'⟩:=h1.form
  subst hv'
  have HOWM:=Lib.hid h1
  have HBX6:=Lib.hid (HBX.out.below h2 (Nat.le_refl _))
  clear h1 h2 h3 y1 HBX HW5
  have HKC:=Lib.hid hmc
  have hoc:(4*c+s)/4=c:=by omega
  have HA4:=Lib.hid (show opp (4*c+s)<M.length by have h1:=(opp_slots hoc).1;have h2:=HOK.out.m;omega)
  have HB4x:=Lib.hid (show opp (mt M (4*c+s))<M.length by have h1:=(opp_slots hmc).1;have h2:=HOK.out.m;omega)
  have HLAW:=Lib.hid (uncurl_mv (S:=S) (M:=M) (L:=L) hc hs hmc)
  obtain ⟨a,ha⟩:∃ a,a=opp (4*c+s):=⟨_,rfl⟩
  obtain ⟨b,hb⟩:∃ b,b=opp (mt M (4*c+s)):=⟨_,rfl⟩
  rw [<- ha,<- hb] at HLAW ⊢
  rw [<- ha] at HA4
  rw [<- hb] at HB4x
  clear ha hb hoc hmc HKC
  have HCL:=Lib.hid (fun W (hW:OwnI 3 (w.heap.size+4) W (.slice Am M.length cm) M)=>closed_any Am M.length cm (w.heap.size+4) M a b W hW HA4.out HB4x.out HOK.out.pos HOK.out.lt HLM.out)
  have HQ:=Lib.hid (show lp (mt M) a b<=1 by unfold lp;split <;> omega)
  obtain ⟨q,hq⟩:∃ q,q=lp (mt M) a b:=⟨_,rfl⟩
  have HM1:=Lib.hid (show (clL M a b).length=M.length/\∀ i (hi:i<(clL M a b).length),0<=(clL M a b)[i]/\(clL M a b)[i]<1000 from ⟨clL_length M a b,fun i hi=>⟨clL_pos HOK.out.pos i hi,clL_lt (HOK.out.lt1 hn) (by have h1:=HOK.out.lt a HA4.out;have h2:=HOK.out.m;omega) (by have h1:=HOK.out.lt b HB4x.out;have h2:=HOK.out.m;omega) i hi⟩⟩)
  obtain ⟨M1,hM1⟩:∃ M1,M1=clL M a b:=⟨_,rfl⟩
  rw [<- hq,<- hM1] at HCL HLAW
  rw [<- hq] at HQ
  rw [<- hM1] at HM1
  clear hq hM1
  have HBX:=HBX6
  clear HBX6
  refine wp_region_eff 5 (by kernel_rfl) (by kernel_rfl) (by kernel_rfl) (by kernel_rfl) (by kernel_rfl) (by decide) (fun i=>([(.pointer (some ⟨w.heap.size,2,none⟩)),(.int .i64 L),(.slice Am M.length cm),(.int .i64 (a:Int)),(.int .i64 (b:Int)),(.int .i64 (q:Int)),(.int .i64 (L+(q:Int))),(.int .i64 (L+(q:Int)))]:List Value).getD i undef) (fun W=>OwnI 3 (w.heap.size+4) W (.slice Am M.length cm) M/\Bx4 w W [.slice A S.length cs,.slice A2 M.length c2,.int .i64 L] [.int .i64 kd,.int .i64 (c:Int),.int .i64 Y,.int .i64 sg,.bool ov]) (fun W=>W.cell? ⟨w.heap.size,2,none⟩=some (.int .i64 L)) (fun W=>OwnI 3 (w.heap.size+4) W (.slice Am M.length cm) M1/\Bx4 w W [.slice A S.length cs,.slice A2 M.length c2,.int .i64 L] [.int .i64 kd,.int .i64 (c:Int),.int .i64 Y,.int .i64 sg,.bool ov]) ⟨HOWM.out.drew,HBX.out.drew⟩ (fun W h=>h.2.1.cell 2) (fun W h=>h.2.1.cell 2) ⟨?_,?_,?_,?_,?_,?_,?_,?_,trivial⟩ ?_
  · intro x w1 bA hb hdep
    refine ⟨fun _ hC=>?_,fun h=>absurd h (by decide)⟩
    have e2:bA.tmps[2]?.getD undef=.pointer (some ⟨w.heap.size,0,none⟩):=hb 2
    show (execOp bA.eval _).run Try.prog w1=.ok (.value (.pointer (some ⟨w.heap.size,2,none⟩))) w1
    clear hb hdep hC
    go_simp
  · intro x w1 bA hb hdep
    refine ⟨fun _ hC=>?_,fun h=>absurd h (by decide)⟩
    have e30:bA.tmps[30]?.getD undef=.pointer (some ⟨w.heap.size,2,none⟩):=(hb 30).trans (hdep 0 (by decide))
    have u0:w1.cell? ⟨w.heap.size,2,none⟩=some (.int .i64 L):=hC
    show (execOp bA.eval _).run Try.prog w1=.ok (.value (.int .i64 L)) w1
    clear hb hdep hC
    go_simp
  · intro x w1 bA hb hdep
    refine ⟨fun _ hC=>?_,fun h=>absurd h (by decide)⟩
    have e11:bA.tmps[11]?.getD undef=.slice Am M.length cm:=hb 11
    show (execOp bA.eval _).run Try.prog w1=.ok (.value (.slice Am M.length cm)) w1
    clear hb hdep hC
    go_simp
  · intro x w1 bA hb hdep
    refine ⟨fun _ hC=>?_,fun h=>absurd h (by decide)⟩
    have e8:bA.tmps[8]?.getD undef=.int .i64 (a:Int):=hb 8
    show (execOp bA.eval _).run Try.prog w1=.ok (.value (.int .i64 (a:Int))) w1
    clear hb hdep hC
    go_simp
  · intro x w1 bA hb hdep
    refine ⟨fun _ hC=>?_,fun h=>absurd h (by decide)⟩
    have e9:bA.tmps[9]?.getD undef=.int .i64 (b:Int):=hb 9
    show (execOp bA.eval _).run Try.prog w1=.ok (.value (.int .i64 (b:Int))) w1
    clear hb hdep hC
    go_simp
  · intro x w1 bA hb hdep
    refine ⟨fun h=>absurd rfl h,fun _ hAw=>?_⟩
    have e32:bA.tmps[32]?.getD undef=.slice Am M.length cm:=(hb 32).trans (hdep 2 (by decide))
    have e33:bA.tmps[33]?.getD undef=.int .i64 (a:Int):=(hb 33).trans (hdep 3 (by decide))
    have e34:bA.tmps[34]?.getD undef=.int .i64 (b:Int):=(hb 34).trans (hdep 4 (by decide))
    refine eff_call ?_ ((HCL.out w1 hAw.1).mono fun e w' h=>⟨h.1,by obtain ⟨j1,g,hA,hg,o⟩:=h.2;exact ⟨j1,hAw.2.below (o.below hg) (Nat.le_refl _)⟩⟩)
    clear hb hdep hAw
    go_simp
  · intro x w1 bA hb hdep
    refine ⟨fun _ hC=>?_,fun h=>absurd h (by decide)⟩
    have e31:bA.tmps[31]?.getD undef=.int .i64 L:=(hb 31).trans (hdep 1 (by decide))
    have e35:bA.tmps[35]?.getD undef=.int .i64 (q:Int):=(hb 35).trans (hdep 5 (by decide))
    have cw:IntKind.i64.wrap (L+(q:Int))=L+(q:Int):=IntWalk.i64_in _ (by have h1:=HOK.out.l0;have h2:=HOK.out.l1;have h3:=HQ.out;omega)
    show (execOp bA.eval _).run Try.prog w1=.ok (.value (.int .i64 (L+(q:Int)))) w1
    clear hb hdep hC
    go_simp
  · intro x w1 bA hb hdep
    refine ⟨fun _ hC=>?_,fun h=>absurd h (by decide)⟩
    have e36:bA.tmps[36]?.getD undef=.int .i64 (L+(q:Int)):=(hb 36).trans (hdep 6 (by decide))
    show (execOp bA.eval _).run Try.prog w1=.ok (.value (.int .i64 (L+(q:Int)))) w1
    clear hb hdep hC
    go_simp
  intro x w1 hR hall
  have x0e:x 0=.pointer (some ⟨w.heap.size,2,none⟩):=hall 0 (by simp)
  have x1e:x 1=.int .i64 L:=hall 1 (by simp)
  have x2e:x 2=.slice Am M.length cm:=hall 2 (by simp)
  have x3e:x 3=.int .i64 (a:Int):=hall 3 (by simp)
  have x4e:x 4=.int .i64 (b:Int):=hall 4 (by simp)
  have x5e:x 5=.int .i64 (q:Int):=hall 5 (by simp)
  have x6e:x 6=.int .i64 (L+(q:Int)):=hall 6 (by simp)
  have x7e:x 7=.int .i64 (L+(q:Int)):=hall 7 (by simp)
  simp only [putAll,dstOf,Act.put,List.map_cons,List.map_nil,List.setIfInBounds_toArray,List.set_cons_succ,List.set_cons_zero,Nat.reduceAdd,x0e,x1e,x2e,x3e,x4e,x5e,x6e,x7e]
  clear hall x0e x1e x2e x3e x4e x5e x6e x7e
  obtain ⟨h1,h2⟩:=hR
  clear HOWM HBX HCL
  have HOWM:=Lib.hid h1
  have HBX:=Lib.hid h2
  clear h1 h2
  by_cases hbig:64<L+(q:Int)
  · have x0:=HBX.out.2.2.1.cell 0
    have x1:=HBX.out.2.2.1.cell 1
    have x2:=HBX.out.2.2.1.cell 2
    have f0:=HBX.out.2.2.1.frozen 0
    have f1:=HBX.out.2.2.1.frozen 1
    have f2:=HBX.out.2.2.1.frozen 2
    have z0:=HBX.out.2.2.2.1.cell 0
    have z1:=HBX.out.2.2.2.1.cell 1
    have z2:=HBX.out.2.2.2.1.cell 2
    have z3:=HBX.out.2.2.2.1.cell 3
    have z4:=HBX.out.2.2.2.1.cell 4
    have g0:=HBX.out.2.2.2.1.frozen 0
    have g1:=HBX.out.2.2.2.1.frozen 1
    have g2:=HBX.out.2.2.2.1.frozen 2
    have g3:=HBX.out.2.2.2.1.frozen 3
    have g4:=HBX.out.2.2.2.1.frozen 4
    have HA:=Lib.hid (Arr.stored HBX.out.2.2.1 HBX.out.2.2.2.1 (by simp) (.slice none 0 0) (.slice none 0 0) (.int .i64 0) (.int .i64 0) (.int .i64 0) (.int .i64 0) (.int .i64 0) (.bool false))
    have HB:=Lib.hid (below_stored HBX.out.2.2.2.2 (r:=w.heap.size+2) (q:=w.heap.size+3) (by simp) (by simp) (.slice none 0 0) (.slice none 0 0) (.int .i64 0) (.int .i64 0) (.int .i64 0) (.int .i64 0) (.int .i64 0) (.bool false))
    go_wp2_with fail
    refine bodyPost_ret (v:=.tuple #[.agg #[.slice none 0 0,.slice none 0 0,.int .i64 0],.agg #[.int .i64 0,.int .i64 0,.int .i64 0,.int .i64 0,.bool false],.int .i64 5]) (results_cct Try.results14 _ _ (w.heap.size+2) (w.heap.size+3) 24 26 _ _ _ _ rfl HA.out.1 rfl HA.out.2 Try.underlying24 rfl info_diag Try.underlying26 rfl info_move) rfl ?_
    exact ⟨MvE.err (by decide),HB.out⟩
  · have y0:=HBX.out.1.cell 0
    have y2:=HBX.out.1.cell 2
    obtain ⟨bs,os,hAs,hbs,ys⟩:=(GS.out w1 HBX.out.2.2.2.2).at_ hc
    subst hAs
    have zc:(c:Int)<(S.length:Int):=by omega
    generalize S[c]=sc at *
    go_upto_region 10 with fail
    have HI0:=Lib.hid (Arr.new w1 26 [.int .i64 1,.int .i64 (-1),.int .i64 0,.int .i64 sc,.bool ((a:Int)%2==1)])
    obtain ⟨w9,hw9⟩:∃ W,W=w1.alloc (.cells #[.int .i64 1,.int .i64 (-1),.int .i64 0,.int .i64 sc,.bool ((a:Int)%2==1)] 26):=⟨_,rfl⟩
    have hb9:Below w1.heap.size w1 w9:=by rw [hw9];exact (Below.refl _ _).alloc (Nat.le_refl _) _
    have HIV:Hid (Arr w9 w1.heap.size 26 [.int .i64 1,.int .i64 (-1),.int .i64 0,.int .i64 sc,.bool ((a:Int)%2==1)]):=by rw [hw9];exact HI0
    rw [<- hw9]
    clear hw9 HI0 ys y0 y2
    have HBX9:=Lib.hid (HBX.out.below hb9 HBX.out.lt)
    have HOWM9:=Lib.hid (HOWM.out.below hb9 (Nat.le_refl _))
    have HG13:=Lib.hid HBX.out.lt
    clear HBX HOWM hb9
    have HBX:=HBX9
    have HOWM:=HOWM9
    clear HBX9 HOWM9
    generalize w1.heap.size=g13 at *
    have y2:=HBX.out.1.cell 2
    by_cases hq0:q=0
    · have hz:(L+(q:Int)==L)=true:=by simp [hq0]
      clear hq0
      obtain ⟨bm,om,hA2,hbm,ym⟩:=ints_mt (GM.out w9 HBX.out.2.2.2.2) HA4.out (HOK.out.pos _ HA4.out)
      subst hA2
      have za:(a:Int)<(M.length:Int):=by have:=HA4.out;omega
      have y1:=HBX.out.1.cell 1
      have hml:mt M a<1000:=by have h1:=HOK.out.lt a HA4.out;have h2:=HOK.out.m;omega
      have KSF:=Lib.hid (shifted_any (.slice (some ⟨w9.heap.size,0,none⟩) 1 1) [(c:Int)] (mt M a) (w9.alloc (.cells #[.int .i64 (c:Int)] 3)) (Ints.of_arr (xs:=[(c:Int)]) (Arr.new w9 3 [.int .i64 (c:Int)])) hml (by simp))
      have HIVa:=Lib.hid (HIV.out.alloc (.cells #[.int .i64 (c:Int)] 3))
      have i1:=HIVa.out.cell 1
      have j1:=HIVa.out.frozen 1
      generalize mt M a=ma at *
      go_upto_region 12 with (go_at_call 30;refine KSF.out.mono ?_;rintro e wz ⟨rfl,rfl⟩)
      clear ym za y1 y2 i1 j1 hml KSF
      obtain ⟨w9b,hw9b⟩:∃ W,W=(w9.alloc (.cells #[.int .i64 (c:Int)] 3)).setCell ⟨g13,1,none⟩ (.int .i64 (shI [(c:Int)] (ma:Int))):=⟨_,rfl⟩
      have HIV2:Hid (Arr w9b g13 26 [.int .i64 1,.int .i64 (shI [(c:Int)] (ma:Int)),.int .i64 0,.int .i64 sc,.bool ((a:Int)%2==1)]):=by rw [hw9b];exact Lib.hid (HIVa.out.set 1 _)
      have hb9b:Below (w.heap.size+4) w9 w9b:=by rw [hw9b];exact (((Below.refl _ _).alloc (Nat.le_refl _) _).mono HBX.out.lt).setCell (p:=⟨g13,1,none⟩) HG13.out _
      have HOWM2:Hid (OwnI 3 (w.heap.size+4) w9b (.slice Am M.length cm) M1):=by rw [hw9b];exact Lib.hid ((HOWM.out.alloc _).far ((HOWM.out.alloc _).apart HIVa.out (by decide)) _)
      rw [<- hw9b]
      clear hw9b HIVa HIV
      have HBXb:=Lib.hid (HBX.out.below hb9b (Nat.le_refl _))
      clear HBX HOWM hb9b hbm
      have HBX:=HBXb
      have HOWM:=HOWM2
      have HIV:=HIV2
      clear HBXb HOWM2 HIV2
      obtain ⟨ix,hix⟩:∃ ix:Int,ix=shI [(c:Int)] (ma:Int):=⟨_,rfl⟩
      obtain ⟨is,his⟩:∃ is:Int,is=sc:=⟨_,rfl⟩
      obtain ⟨ib,hib⟩:∃ ib:Bool,ib=((a:Int)%2==1):=⟨_,rfl⟩
      rw [<- hix,<- his,<- hib] at HIV
      clear hix his hib
      obtain ⟨S2,hS2⟩:∃ l,l=shS [(c:Int)] S S.length:=⟨_,rfl⟩
      obtain ⟨M2,hM2⟩:∃ l,l=shM [(c:Int)] M1 S.length:=⟨_,rfl⟩
      have HSK:=Lib.hid (fun W vg (hb:Below w9b.heap.size w9b W) (hG:Ints W vg [(c:Int)])=>shrunk_any (.slice (some ⟨bs,os,none⟩) S.length cs) (.slice Am M.length cm) vg S M1 [(c:Int)] (L+(q:Int)) W (GS.out W (HBX.out.2.2.2.2.trans (hb.mono (by have:=HBX.out.lt;omega)))) (by have h:=(HOWM.out.below hb (Nat.le_refl _)).ints;exact h) hG (by rw [HM1.out.1];exact HOK.out.m) (by omega) (by simp) (fun i hi=>HM1.out.2 i hi))
      rw [<- hS2,<- hM2] at HSK
      rw [<- hS2,<- hM2] at HLAW
      clear hS2 hM2
      have HB4:=Lib.hid HBX.out.lt
      refine wp_region_pae 8 9 (fun i=>decide (i=7) || decide (i=10)) (by kernel_rfl) (by kernel_rfl) (by kernel_rfl) (by kernel_rfl) (by kernel_rfl) rfl rfl (by decide) (by simp) (by kernel_rfl) (by kernel_rfl) (fun i=>([some (.pointer (some ⟨w.heap.size,0,none⟩)),some (.slice (some ⟨bs,os,none⟩) S.length cs),some (.slice Am M.length cm),some (.int .i64 (L+(q:Int))),some (.int .i64 (c:Int)),none,none,some (.agg #[.int .i64 1,.int .i64 ix,.int .i64 0,.int .i64 is,.bool ib]),none,none,some (.int .i64 0)]:List (Option Value)).getD i none) (phiT (fun i=>([some (.pointer (some ⟨w.heap.size,0,none⟩)),some (.slice (some ⟨bs,os,none⟩) S.length cs),some (.slice Am M.length cm),some (.int .i64 (L+(q:Int))),some (.int .i64 (c:Int)),none,none,some (.agg #[.int .i64 1,.int .i64 ix,.int .i64 0,.int .i64 is,.bool ib]),none,none,some (.int .i64 0)]:List (Option Value)).getD i none) (fun i v w=>(if i=5 then (fun v w=>∃ b,v=.slice (some ⟨b,0,none⟩) 1 1/\Arr w b 3 [.int .i64 (c:Int)]) v w else (if i=6 then (fun v w=>∃ v1 v2,v=.agg #[v1,v2,.int .i64 (L+(q:Int))]/\OwnI 3 w9b.heap.size w v1 S2/\OwnI 3 w9b.heap.size w v2 M2) v w else True)))) (fun i v w w' h hb=>?_) (fun i u v w h he=>?_) (fun _ W=>∃ v1 v2,Arr W (w.heap.size+2) 24 [v1,v2,.int .i64 (L+(q:Int))]/\Arr W (w.heap.size+3) 26 [.int .i64 0,.int .i64 0,.int .i64 0,.int .i64 0,.bool false]/\OwnI 3 w9b.heap.size W v1 S2/\OwnI 3 w9b.heap.size W v2 M2/\Below w.heap.size w W/\Arr W g13 26 [.int .i64 1,.int .i64 ix,.int .i64 0,.int .i64 is,.bool ib]) (fun _ W=>∃ v1 v2,Arr W (w.heap.size+2) 24 [v1,v2,.int .i64 (L+(q:Int))]/\Arr W (w.heap.size+3) 26 [.int .i64 1,.int .i64 ix,.int .i64 0,.int .i64 is,.bool ib]/\OwnI 3 w9b.heap.size W v1 S2/\OwnI 3 w9b.heap.size W v2 M2/\Below w.heap.size w W/\Arr W g13 26 [.int .i64 1,.int .i64 ix,.int .i64 0,.int .i64 is,.bool ib]) (fun x w i v hl h=>?_) (fun x w i v hl h=>?_) (fun W=>Arr W g13 26 [.int .i64 1,.int .i64 ix,.int .i64 0,.int .i64 is,.bool ib]) (fun w h=>HIV.out.below h HIV.out.lt) (fun x w h=>by obtain ⟨_,_,_,_,_,_,_,h⟩:=h;exact h) (fun x w h=>by obtain ⟨_,_,_,_,_,_,_,h⟩:=h;exact h) ⟨?_,?_,?_,?_,?_,?_,?_,?_,?_,?_,?_,trivial⟩ ?_
      · unfold phiT at h ⊢
        split
        · next u hu=>rw [hu] at h;exact h
        · next hu =>
          rw [hu] at h
          simp only at h ⊢
          by_cases q5:i=5
          · rw [if_pos q5] at h ⊢;exact by obtain ⟨b,h1,h2⟩:=h;exact ⟨b,h1,h2.below hb h2.lt⟩
          · rw [if_neg q5] at h ⊢
            by_cases q6:i=6
            · rw [if_pos q6] at h ⊢;exact by obtain ⟨v1,v2,h1,h2,h3⟩:=h;exact ⟨v1,v2,h1,h2.below hb (Nat.le_refl _),h3.below hb (Nat.le_refl _)⟩
            · rw [if_neg q6] at h ⊢
              trivial
      · exact phiT_val h he
      · simp only [Bool.or_eq_true,decide_eq_true_eq,Bool.false_eq_true] at hl
        rcases hl with rfl|rfl
        · exact h
        · exact h
      · simp only [Bool.or_eq_true,decide_eq_true_eq,Bool.false_eq_true] at hl
        rcases hl with rfl|rfl
        · exact h
        · exact h
      · intro x w1 bA hold hb
        refine ⟨fun _ _ _ hbel hdep=>?_,fun h=>absurd h (by decide),fun h=>absurd h (by decide),fun h=>absurd h (by decide)⟩
        have e2:bA.tmps[2]?.getD undef=.pointer (some ⟨w.heap.size,0,none⟩):=hb 2
        refine phi_run (.pointer (some ⟨w.heap.size,0,none⟩)) ?_ rfl
        clear hb hdep hold
        go_simp
      · intro x w1 bA hold hb
        refine ⟨fun _ _ _ hbel hdep=>?_,fun h=>absurd h (by decide),fun h=>absurd h (by decide),fun h=>absurd h (by decide)⟩
        have e63:bA.tmps[63]?.getD undef=.pointer (some ⟨w.heap.size,0,none⟩):=(hb 63).trans (hdep 0 (by decide))
        have u0:=(HBX.out.below hbel HB4.out).1.cell 0
        refine phi_run (.slice (some ⟨bs,os,none⟩) S.length cs) ?_ rfl
        clear hb hdep hold
        go_simp
      · intro x w1 bA hold hb
        refine ⟨fun _ _ _ hbel hdep=>?_,fun h=>absurd h (by decide),fun h=>absurd h (by decide),fun h=>absurd h (by decide)⟩
        have e11:bA.tmps[11]?.getD undef=.slice Am M.length cm:=hb 11
        refine phi_run (.slice Am M.length cm) ?_ rfl
        clear hb hdep hold
        go_simp
      · intro x w1 bA hold hb
        refine ⟨fun _ _ _ hbel hdep=>?_,fun h=>absurd h (by decide),fun h=>absurd h (by decide),fun h=>absurd h (by decide)⟩
        have e12:bA.tmps[12]?.getD undef=.int .i64 (L+(q:Int)):=hb 12
        refine phi_run (.int .i64 (L+(q:Int))) ?_ rfl
        clear hb hdep hold
        go_simp
      · intro x w1 bA hold hb
        refine ⟨fun _ _ _ hbel hdep=>?_,fun h=>absurd h (by decide),fun h=>absurd h (by decide),fun h=>absurd h (by decide)⟩
        have e7:bA.tmps[7]?.getD undef=.int .i64 (c:Int):=hb 7
        refine phi_run (.int .i64 (c:Int)) ?_ rfl
        clear hb hdep hold
        go_simp
      · intro x w1 bA hold hb
        refine ⟨fun _ _ _ hbel hdep=>?_,fun h=>absurd h (by decide),fun h=>absurd h (by decide),fun h=>absurd h (by decide)⟩
        have e67:bA.tmps[67]?.getD undef=.int .i64 (c:Int):=(hb 67).trans (hdep 4 (by decide))
        refine phi_make (.slice (some ⟨w1.heap.size,0,none⟩) 1 1) (w1.alloc (.cells #[.int .i64 (c:Int)] 3)) ?_ ((Below.refl _ _).alloc (Nat.le_refl _) _) (⟨w1.heap.size,rfl,Arr.new w1 3 [_]⟩)
        clear hb hdep hold
        go_simp
      · intro x w1 bA hold hb
        refine ⟨fun _ _ _ hbel hdep=>?_,fun h=>absurd h (by decide),fun h=>absurd h (by decide),fun h=>absurd h (by decide)⟩
        have e64:bA.tmps[64]?.getD undef=.slice (some ⟨bs,os,none⟩) S.length cs:=(hb 64).trans (hdep 1 (by decide))
        have e65:bA.tmps[65]?.getD undef=.slice Am M.length cm:=(hb 65).trans (hdep 2 (by decide))
        have e66:bA.tmps[66]?.getD undef=.int .i64 (L+(q:Int)):=(hb 66).trans (hdep 3 (by decide))
        have p68:=hdep 5 (by decide)
        have e68:bA.tmps[68]?.getD undef=x 5:=hb 68
        generalize x 5=x68 at p68 e68
        have P68:=Lib.hid (show (fun v w=>∃ b,v=.slice (some ⟨b,0,none⟩) 1 1/\Arr w b 3 [.int .i64 (c:Int)]) x68 w1 from p68)
        clear p68
        obtain ⟨bc,rfl,hgc⟩:=P68.out
        refine phi_call ?_ ((HSK.out w1 _ hbel (Ints.of_arr (xs:=[(c:Int)]) hgc)).mono fun e w' h=>(by obtain ⟨v1,v2,he,h1,h2,h3⟩:=h;exact ⟨_,he,h3,v1,v2,rfl,h1.base hbel.size,h2.base hbel.size⟩))
        clear hb hdep hold
        go_simp
      · intro x w1 bA hold hb
        refine ⟨fun h=>absurd h (by decide),fun h=>absurd h (by decide),fun h=>absurd h (by decide),fun _ hC hdep=>⟨.agg #[.int .i64 1,.int .i64 ix,.int .i64 0,.int .i64 is,.bool ib],rfl,?_,rfl⟩⟩
        have e13:bA.tmps[13]?.getD undef=.pointer (some ⟨g13,0,none⟩):=hb 13
        have hi:Arr w1 g13 26 [.int .i64 1,.int .i64 ix,.int .i64 0,.int .i64 is,.bool ib]:=hC
        have u0:=hi.cell 0
        have u1:=hi.cell 1
        have u2:=hi.cell 2
        have u3:=hi.cell 3
        have u4:=hi.cell 4
        clear hb hdep hold hC
        go_simp
      · intro x w1 bA hold hb
        refine ⟨fun _ _ h=>absurd rfl h,fun _ hbel hdep=>?_,fun h=>absurd h (by decide),fun h=>absurd h (by decide)⟩
        have e4:bA.tmps[4]?.getD undef=.pointer (some ⟨w.heap.size+2,0,none⟩):=hb 4
        have p69:=hdep 6 (by decide)
        have e69:bA.tmps[69]?.getD undef=x 6:=hb 69
        obtain ⟨x69,hx69⟩:∃ v,v=x 6:=⟨_,rfl⟩
        rw [<- hx69] at p69 e69
        clear hx69
        have P69:=Lib.hid (show (fun v w=>∃ v1 v2,v=.agg #[v1,v2,.int .i64 (L+(q:Int))]/\OwnI 3 w9b.heap.size w v1 S2/\OwnI 3 w9b.heap.size w v2 M2) x69 w1 from p69)
        clear p69
        clear hb hdep hold
        obtain ⟨v1,v2,e69b,o1,o2⟩:=P69.out
        rw [e69b] at e69
        clear e69b P69
        have O1:=Lib.hid o1
        have O2:=Lib.hid o2
        obtain ⟨B1,n1,rfl⟩:=o1.form
        obtain ⟨B2,n2,rfl⟩:=o2.form
        have hbx:=HBX.out.below hbel HB4.out
        have c0:=hbx.2.2.1.cell 0
        have c1:=hbx.2.2.1.cell 1
        have c2:=hbx.2.2.1.cell 2
        have f0:=hbx.2.2.1.frozen 0
        have f1:=hbx.2.2.1.frozen 1
        have f2:=hbx.2.2.1.frozen 2
        have HBX1:=Lib.hid hbx
        clear hbx o1 o2
        have n1':∀ k,(Value.slice B1 S2.length n1).ownBlock=some k->k≠w.heap.size+2:=fun k hk e=>by have h1:=O1.out.block k hk;have h2:=HB4.out;omega
        have n2':∀ k,(Value.slice B2 M2.length n2).ownBlock=some k->k≠w.heap.size+2:=fun k hk e=>by have h1:=O2.out.block k hk;have h2:=HB4.out;omega
        have q1:(Value.slice B1 S2.length n1).ownBlock≠some (w.heap.size+2):=fun e=>n1' _ e rfl
        have q2:(Value.slice B2 M2.length n2).ownBlock≠some (w.heap.size+2):=fun e=>n2' _ e rfl
        refine phl_st (n:=8) (x:=x) (R:=fun _ W=>∃ v1 v2,Arr W (w.heap.size+2) 24 [v1,v2,.int .i64 (L+(q:Int))]/\Arr W (w.heap.size+3) 26 [.int .i64 0,.int .i64 0,.int .i64 0,.int .i64 0,.bool false]/\OwnI 3 w9b.heap.size W v1 S2/\OwnI 3 w9b.heap.size W v2 M2/\Below w.heap.size w W/\Arr W g13 26 [.int .i64 1,.int .i64 ix,.int .i64 0,.int .i64 is,.bool ib]) (((w1.setCell ⟨w.heap.size+2,0,none⟩ (.slice B1 S2.length n1)).setCell ⟨w.heap.size+2,1,none⟩ (.slice B2 M2.length n2)).setCell ⟨w.heap.size+2,2,none⟩ (.int .i64 (L+(q:Int)))) ?_ rfl (fun v=>⟨_,_,((HBX1.out.2.2.1.set 0 _).set 1 _).set 2 _,((HBX1.out.2.2.2.1.far (p:=⟨w.heap.size+2,0,none⟩) (by simp) _).far (p:=⟨w.heap.size+2,1,none⟩) (by simp) _).far (p:=⟨w.heap.size+2,2,none⟩) (by simp) _,((O1.out.far q1 _).far q1 _).far q1 _,((O2.out.far q2 _).far q2 _).far q2 _,((HBX1.out.2.2.2.2.setCell (p:=⟨w.heap.size+2,0,none⟩) (by simp) _).setCell (p:=⟨w.heap.size+2,1,none⟩) (by simp) _).setCell (p:=⟨w.heap.size+2,2,none⟩) (by simp) _,(((HIV.out.below hbel HIV.out.lt).far (p:=⟨w.heap.size+2,0,none⟩) (show g13≠w.heap.size+2 by have:=HG13.out;omega) _).far (p:=⟨w.heap.size+2,1,none⟩) (show g13≠w.heap.size+2 by have:=HG13.out;omega) _).far (p:=⟨w.heap.size+2,2,none⟩) (show g13≠w.heap.size+2 by have:=HG13.out;omega) _⟩) rfl
        clear n1' n2' q1 q2
        go_simp
      · intro x w1 bA hold hb
        refine ⟨fun _ h=>absurd rfl h,fun h=>absurd h (by decide),fun _ h1 hdep=>?_,fun h=>absurd h (by decide)⟩
        have e5:bA.tmps[5]?.getD undef=.pointer (some ⟨w.heap.size+3,0,none⟩):=hb 5
        have e70:bA.tmps[70]?.getD undef=.agg #[.int .i64 1,.int .i64 ix,.int .i64 0,.int .i64 is,.bool ib]:=(hb 70).trans (hdep 7 (by decide) _ rfl)
        clear hb hdep hold
        obtain ⟨v1,v2,a2,a3,o1,o2,hbw,hiv⟩:=h1
        have HIV1:=Lib.hid hiv
        clear hiv
        have c0:=a3.cell 0
        have c1:=a3.cell 1
        have c2:=a3.cell 2
        have c3:=a3.cell 3
        have c4:=a3.cell 4
        have f0:=a3.frozen 0
        have f1:=a3.frozen 1
        have f2:=a3.frozen 2
        have f3:=a3.frozen 3
        have f4:=a3.frozen 4
        have q1:v1.ownBlock≠some (w.heap.size+3):=fun e=>by have h1:=o1.block _ e;have h2:=HB4.out;omega
        have q2:v2.ownBlock≠some (w.heap.size+3):=fun e=>by have h1:=o2.block _ e;have h2:=HB4.out;omega
        have Q1:=Lib.hid q1
        have Q2:=Lib.hid q2
        have A2x:=Lib.hid a2
        have A3x:=Lib.hid a3
        have O1:=Lib.hid o1
        have O2:=Lib.hid o2
        have HBW:=Lib.hid hbw
        clear a2 a3 o1 o2 hbw q1 q2
        refine phl_st (n:=9) (x:=x) (R:=fun _ W=>∃ v1 v2,Arr W (w.heap.size+2) 24 [v1,v2,.int .i64 (L+(q:Int))]/\Arr W (w.heap.size+3) 26 [.int .i64 1,.int .i64 ix,.int .i64 0,.int .i64 is,.bool ib]/\OwnI 3 w9b.heap.size W v1 S2/\OwnI 3 w9b.heap.size W v2 M2/\Below w.heap.size w W/\Arr W g13 26 [.int .i64 1,.int .i64 ix,.int .i64 0,.int .i64 is,.bool ib]) (((((w1.setCell ⟨w.heap.size+3,0,none⟩ (.int .i64 1)).setCell ⟨w.heap.size+3,1,none⟩ (.int .i64 ix)).setCell ⟨w.heap.size+3,2,none⟩ (.int .i64 0)).setCell ⟨w.heap.size+3,3,none⟩ (.int .i64 is)).setCell ⟨w.heap.size+3,4,none⟩ (.bool ib)) ?_ rfl (fun v=>⟨v1,v2,(((((A2x.out.far (p:=⟨w.heap.size+3,0,none⟩) (by simp) _).far (p:=⟨w.heap.size+3,1,none⟩) (by simp) _).far (p:=⟨w.heap.size+3,2,none⟩) (by simp) _).far (p:=⟨w.heap.size+3,3,none⟩) (by simp) _).far (p:=⟨w.heap.size+3,4,none⟩) (by simp) _),((((A3x.out.set 0 _).set 1 _).set 2 _).set 3 _).set 4 _,(((((O1.out.far Q1.out _).far Q1.out _).far Q1.out _).far Q1.out _).far Q1.out _),(((((O2.out.far Q2.out _).far Q2.out _).far Q2.out _).far Q2.out _).far Q2.out _),(((((HBW.out.setCell (p:=⟨w.heap.size+3,0,none⟩) (by simp) _).setCell (p:=⟨w.heap.size+3,1,none⟩) (by simp) _).setCell (p:=⟨w.heap.size+3,2,none⟩) (by simp) _).setCell (p:=⟨w.heap.size+3,3,none⟩) (by simp) _).setCell (p:=⟨w.heap.size+3,4,none⟩) (by simp) _),(((((HIV1.out.far (p:=⟨w.heap.size+3,0,none⟩) (show g13≠w.heap.size+3 by have:=HG13.out;omega) _).far (p:=⟨w.heap.size+3,1,none⟩) (show g13≠w.heap.size+3 by have:=HG13.out;omega) _).far (p:=⟨w.heap.size+3,2,none⟩) (show g13≠w.heap.size+3 by have:=HG13.out;omega) _).far (p:=⟨w.heap.size+3,3,none⟩) (show g13≠w.heap.size+3 by have:=HG13.out;omega) _).far (p:=⟨w.heap.size+3,4,none⟩) (show g13≠w.heap.size+3 by have:=HG13.out;omega) _)⟩) rfl
        go_simp
      · intro x w1 bA hold hb
        refine ⟨fun h=>absurd h (by decide),fun h=>absurd h (by decide),fun h=>absurd h (by decide),fun _ hC hdep=>⟨.int .i64 0,rfl,?_,rfl⟩⟩
        clear hb hdep hold hC
        go_simp
      intro x w1 hR hall
      have x0e:x 0=.pointer (some ⟨w.heap.size,0,none⟩):=hall 0 _ (by simp) rfl
      have x1e:x 1=.slice (some ⟨bs,os,none⟩) S.length cs:=hall 1 _ (by simp) rfl
      have x2e:x 2=.slice Am M.length cm:=hall 2 _ (by simp) rfl
      have x3e:x 3=.int .i64 (L+(q:Int)):=hall 3 _ (by simp) rfl
      have x4e:x 4=.int .i64 (c:Int):=hall 4 _ (by simp) rfl
      have x7e:x 7=.agg #[.int .i64 1,.int .i64 ix,.int .i64 0,.int .i64 is,.bool ib]:=hall 7 _ (by simp) rfl
      have x10e:x 10=.int .i64 0:=hall 10 _ (by simp) rfl
      simp only [putAll,dstOf,Act.put,List.map_cons,List.map_nil,List.setIfInBounds_toArray,List.set_cons_succ,List.set_cons_zero,Nat.reduceAdd,x0e,x1e,x2e,x3e,x4e,x7e,x10e]
      clear hall x0e x1e x2e x3e x4e x7e x10e
      obtain ⟨v1,v2,a2,a3,o1,o2,hbw,_⟩:=hR
      have HA2:=Lib.hid a2
      have HA3:=Lib.hid a3
      have O1:=Lib.hid o1
      have O2:=Lib.hid o2
      have HBW:=Lib.hid hbw
      clear a2 a3 o1 o2 hbw
      go_wp2_with fail
      refine bodyPost_ret (v:=.tuple #[.agg #[v1,v2,.int .i64 (L+(q:Int))],.agg #[.int .i64 1,.int .i64 ix,.int .i64 0,.int .i64 is,.bool ib],.int .i64 0]) (results_cct Try.results14 _ _ (w.heap.size+2) (w.heap.size+3) 24 26 _ _ _ _ rfl HA2.out rfl HA3.out Try.underlying24 rfl info_diag Try.underlying26 rfl info_move) rfl ?_
      exact ⟨⟨_,_,S2,M2,_,_,0,rfl,⟨_,_,_,_,_,rfl⟩,O1.out.base (Nat.zero_le _),O2.out.base (Nat.zero_le _),fun _=>HLAW.out⟩,HBW.out⟩
    · have hz:(L+(q:Int)==L)=false:=by have:=HQ.out;simp;omega
      clear hq0
      go_upto_region 12 with fail
      clear y2
      obtain ⟨ix,hix⟩:∃ ix:Int,ix = -1:=⟨_,rfl⟩
      obtain ⟨is,his⟩:∃ is:Int,is=sc:=⟨_,rfl⟩
      obtain ⟨ib,hib⟩:∃ ib:Bool,ib=((a:Int)%2==1):=⟨_,rfl⟩
      rw [<- hix,<- his,<- hib] at HIV
      clear hix his hib
      obtain ⟨S2,hS2⟩:∃ l,l=shS [(c:Int)] S S.length:=⟨_,rfl⟩
      obtain ⟨M2,hM2⟩:∃ l,l=shM [(c:Int)] M1 S.length:=⟨_,rfl⟩
      have HSK:=Lib.hid (fun W vg (hb:Below w9.heap.size w9 W) (hG:Ints W vg [(c:Int)])=>shrunk_any (.slice (some ⟨bs,os,none⟩) S.length cs) (.slice Am M.length cm) vg S M1 [(c:Int)] (L+(q:Int)) W (GS.out W (HBX.out.2.2.2.2.trans (hb.mono (by have:=HBX.out.lt;omega)))) (by have h:=(HOWM.out.below hb (Nat.le_refl _)).ints;exact h) hG (by rw [HM1.out.1];exact HOK.out.m) (by omega) (by simp) (fun i hi=>HM1.out.2 i hi))
      rw [<- hS2,<- hM2] at HSK
      rw [<- hS2,<- hM2] at HLAW
      clear hS2 hM2
      have HB4:=Lib.hid HBX.out.lt
      refine wp_region_pae 8 9 (fun i=>decide (i=7) || decide (i=10)) (by kernel_rfl) (by kernel_rfl) (by kernel_rfl) (by kernel_rfl) (by kernel_rfl) rfl rfl (by decide) (by simp) (by kernel_rfl) (by kernel_rfl) (fun i=>([some (.pointer (some ⟨w.heap.size,0,none⟩)),some (.slice (some ⟨bs,os,none⟩) S.length cs),some (.slice Am M.length cm),some (.int .i64 (L+(q:Int))),some (.int .i64 (c:Int)),none,none,some (.agg #[.int .i64 1,.int .i64 ix,.int .i64 0,.int .i64 is,.bool ib]),none,none,some (.int .i64 0)]:List (Option Value)).getD i none) (phiT (fun i=>([some (.pointer (some ⟨w.heap.size,0,none⟩)),some (.slice (some ⟨bs,os,none⟩) S.length cs),some (.slice Am M.length cm),some (.int .i64 (L+(q:Int))),some (.int .i64 (c:Int)),none,none,some (.agg #[.int .i64 1,.int .i64 ix,.int .i64 0,.int .i64 is,.bool ib]),none,none,some (.int .i64 0)]:List (Option Value)).getD i none) (fun i v w=>(if i=5 then (fun v w=>∃ b,v=.slice (some ⟨b,0,none⟩) 1 1/\Arr w b 3 [.int .i64 (c:Int)]) v w else (if i=6 then (fun v w=>∃ v1 v2,v=.agg #[v1,v2,.int .i64 (L+(q:Int))]/\OwnI 3 w9.heap.size w v1 S2/\OwnI 3 w9.heap.size w v2 M2) v w else True)))) (fun i v w w' h hb=>?_) (fun i u v w h he=>?_) (fun _ W=>∃ v1 v2,Arr W (w.heap.size+2) 24 [v1,v2,.int .i64 (L+(q:Int))]/\Arr W (w.heap.size+3) 26 [.int .i64 0,.int .i64 0,.int .i64 0,.int .i64 0,.bool false]/\OwnI 3 w9.heap.size W v1 S2/\OwnI 3 w9.heap.size W v2 M2/\Below w.heap.size w W/\Arr W g13 26 [.int .i64 1,.int .i64 ix,.int .i64 0,.int .i64 is,.bool ib]) (fun _ W=>∃ v1 v2,Arr W (w.heap.size+2) 24 [v1,v2,.int .i64 (L+(q:Int))]/\Arr W (w.heap.size+3) 26 [.int .i64 1,.int .i64 ix,.int .i64 0,.int .i64 is,.bool ib]/\OwnI 3 w9.heap.size W v1 S2/\OwnI 3 w9.heap.size W v2 M2/\Below w.heap.size w W/\Arr W g13 26 [.int .i64 1,.int .i64 ix,.int .i64 0,.int .i64 is,.bool ib]) (fun x w i v hl h=>?_) (fun x w i v hl h=>?_) (fun W=>Arr W g13 26 [.int .i64 1,.int .i64 ix,.int .i64 0,.int .i64 is,.bool ib]) (fun w h=>HIV.out.below h HIV.out.lt) (fun x w h=>by obtain ⟨_,_,_,_,_,_,_,h⟩:=h;exact h) (fun x w h=>by obtain ⟨_,_,_,_,_,_,_,h⟩:=h;exact h) ⟨?_,?_,?_,?_,?_,?_,?_,?_,?_,?_,?_,trivial⟩ ?_
      · unfold phiT at h ⊢
        split
        · next u hu=>rw [hu] at h;exact h
        · next hu =>
          rw [hu] at h
          simp only at h ⊢
          by_cases q5:i=5
          · rw [if_pos q5] at h ⊢;exact by obtain ⟨b,h1,h2⟩:=h;exact ⟨b,h1,h2.below hb h2.lt⟩
          · rw [if_neg q5] at h ⊢
            by_cases q6:i=6
            · rw [if_pos q6] at h ⊢;exact by obtain ⟨v1,v2,h1,h2,h3⟩:=h;exact ⟨v1,v2,h1,h2.below hb (Nat.le_refl _),h3.below hb (Nat.le_refl _)⟩
            · rw [if_neg q6] at h ⊢
              trivial
      · exact phiT_val h he
      · simp only [Bool.or_eq_true,decide_eq_true_eq,Bool.false_eq_true] at hl
        rcases hl with rfl|rfl
        · exact h
        · exact h
      · simp only [Bool.or_eq_true,decide_eq_true_eq,Bool.false_eq_true] at hl
        rcases hl with rfl|rfl
        · exact h
        · exact h
      · intro x w1 bA hold hb
        refine ⟨fun _ _ _ hbel hdep=>?_,fun h=>absurd h (by decide),fun h=>absurd h (by decide),fun h=>absurd h (by decide)⟩
        have e2:bA.tmps[2]?.getD undef=.pointer (some ⟨w.heap.size,0,none⟩):=hb 2
        refine phi_run (.pointer (some ⟨w.heap.size,0,none⟩)) ?_ rfl
        clear hb hdep hold
        go_simp
      · intro x w1 bA hold hb
        refine ⟨fun _ _ _ hbel hdep=>?_,fun h=>absurd h (by decide),fun h=>absurd h (by decide),fun h=>absurd h (by decide)⟩
        have e63:bA.tmps[63]?.getD undef=.pointer (some ⟨w.heap.size,0,none⟩):=(hb 63).trans (hdep 0 (by decide))
        have u0:=(HBX.out.below hbel HB4.out).1.cell 0
        refine phi_run (.slice (some ⟨bs,os,none⟩) S.length cs) ?_ rfl
        clear hb hdep hold
        go_simp
      · intro x w1 bA hold hb
        refine ⟨fun _ _ _ hbel hdep=>?_,fun h=>absurd h (by decide),fun h=>absurd h (by decide),fun h=>absurd h (by decide)⟩
        have e11:bA.tmps[11]?.getD undef=.slice Am M.length cm:=hb 11
        refine phi_run (.slice Am M.length cm) ?_ rfl
        clear hb hdep hold
        go_simp
      · intro x w1 bA hold hb
        refine ⟨fun _ _ _ hbel hdep=>?_,fun h=>absurd h (by decide),fun h=>absurd h (by decide),fun h=>absurd h (by decide)⟩
        have e12:bA.tmps[12]?.getD undef=.int .i64 (L+(q:Int)):=hb 12
        refine phi_run (.int .i64 (L+(q:Int))) ?_ rfl
        clear hb hdep hold
        go_simp
      · intro x w1 bA hold hb
        refine ⟨fun _ _ _ hbel hdep=>?_,fun h=>absurd h (by decide),fun h=>absurd h (by decide),fun h=>absurd h (by decide)⟩
        have e7:bA.tmps[7]?.getD undef=.int .i64 (c:Int):=hb 7
        refine phi_run (.int .i64 (c:Int)) ?_ rfl
        clear hb hdep hold
        go_simp
      · intro x w1 bA hold hb
        refine ⟨fun _ _ _ hbel hdep=>?_,fun h=>absurd h (by decide),fun h=>absurd h (by decide),fun h=>absurd h (by decide)⟩
        have e67:bA.tmps[67]?.getD undef=.int .i64 (c:Int):=(hb 67).trans (hdep 4 (by decide))
        refine phi_make (.slice (some ⟨w1.heap.size,0,none⟩) 1 1) (w1.alloc (.cells #[.int .i64 (c:Int)] 3)) ?_ ((Below.refl _ _).alloc (Nat.le_refl _) _) (⟨w1.heap.size,rfl,Arr.new w1 3 [_]⟩)
        clear hb hdep hold
        go_simp
      · intro x w1 bA hold hb
        refine ⟨fun _ _ _ hbel hdep=>?_,fun h=>absurd h (by decide),fun h=>absurd h (by decide),fun h=>absurd h (by decide)⟩
        have e64:bA.tmps[64]?.getD undef=.slice (some ⟨bs,os,none⟩) S.length cs:=(hb 64).trans (hdep 1 (by decide))
        have e65:bA.tmps[65]?.getD undef=.slice Am M.length cm:=(hb 65).trans (hdep 2 (by decide))
        have e66:bA.tmps[66]?.getD undef=.int .i64 (L+(q:Int)):=(hb 66).trans (hdep 3 (by decide))
        have p68:=hdep 5 (by decide)
        have e68:bA.tmps[68]?.getD undef=x 5:=hb 68
        generalize x 5=x68 at p68 e68
        have P68:=Lib.hid (show (fun v w=>∃ b,v=.slice (some ⟨b,0,none⟩) 1 1/\Arr w b 3 [.int .i64 (c:Int)]) x68 w1 from p68)
        clear p68
        obtain ⟨bc,rfl,hgc⟩:=P68.out
        refine phi_call ?_ ((HSK.out w1 _ hbel (Ints.of_arr (xs:=[(c:Int)]) hgc)).mono fun e w' h=>(by obtain ⟨v1,v2,he,h1,h2,h3⟩:=h;exact ⟨_,he,h3,v1,v2,rfl,h1.base hbel.size,h2.base hbel.size⟩))
        clear hb hdep hold
        go_simp
      · intro x w1 bA hold hb
        refine ⟨fun h=>absurd h (by decide),fun h=>absurd h (by decide),fun h=>absurd h (by decide),fun _ hC hdep=>⟨.agg #[.int .i64 1,.int .i64 ix,.int .i64 0,.int .i64 is,.bool ib],rfl,?_,rfl⟩⟩
        have e13:bA.tmps[13]?.getD undef=.pointer (some ⟨g13,0,none⟩):=hb 13
        have hi:Arr w1 g13 26 [.int .i64 1,.int .i64 ix,.int .i64 0,.int .i64 is,.bool ib]:=hC
        have u0:=hi.cell 0
        have u1:=hi.cell 1
        have u2:=hi.cell 2
        have u3:=hi.cell 3
        have u4:=hi.cell 4
        clear hb hdep hold hC
        go_simp
      · intro x w1 bA hold hb
        refine ⟨fun _ _ h=>absurd rfl h,fun _ hbel hdep=>?_,fun h=>absurd h (by decide),fun h=>absurd h (by decide)⟩
        have e4:bA.tmps[4]?.getD undef=.pointer (some ⟨w.heap.size+2,0,none⟩):=hb 4
        have p69:=hdep 6 (by decide)
        have e69:bA.tmps[69]?.getD undef=x 6:=hb 69
        obtain ⟨x69,hx69⟩:∃ v,v=x 6:=⟨_,rfl⟩
        rw [<- hx69] at p69 e69
        clear hx69
        have P69:=Lib.hid (show (fun v w=>∃ v1 v2,v=.agg #[v1,v2,.int .i64 (L+(q:Int))]/\OwnI 3 w9.heap.size w v1 S2/\OwnI 3 w9.heap.size w v2 M2) x69 w1 from p69)
        clear p69
        clear hb hdep hold
        obtain ⟨v1,v2,e69b,o1,o2⟩:=P69.out
        rw [e69b] at e69
        clear e69b P69
        have O1:=Lib.hid o1
        have O2:=Lib.hid o2
        obtain ⟨B1,n1,rfl⟩:=o1.form
        obtain ⟨B2,n2,rfl⟩:=o2.form
        have hbx:=HBX.out.below hbel HB4.out
        have c0:=hbx.2.2.1.cell 0
        have c1:=hbx.2.2.1.cell 1
        have c2:=hbx.2.2.1.cell 2
        have f0:=hbx.2.2.1.frozen 0
        have f1:=hbx.2.2.1.frozen 1
        have f2:=hbx.2.2.1.frozen 2
        have HBX1:=Lib.hid hbx
        clear hbx o1 o2
        have n1':∀ k,(Value.slice B1 S2.length n1).ownBlock=some k->k≠w.heap.size+2:=fun k hk e=>by have h1:=O1.out.block k hk;have h2:=HB4.out;omega
        have n2':∀ k,(Value.slice B2 M2.length n2).ownBlock=some k->k≠w.heap.size+2:=fun k hk e=>by have h1:=O2.out.block k hk;have h2:=HB4.out;omega
        have q1:(Value.slice B1 S2.length n1).ownBlock≠some (w.heap.size+2):=fun e=>n1' _ e rfl
        have q2:(Value.slice B2 M2.length n2).ownBlock≠some (w.heap.size+2):=fun e=>n2' _ e rfl
        refine phl_st (n:=8) (x:=x) (R:=fun _ W=>∃ v1 v2,Arr W (w.heap.size+2) 24 [v1,v2,.int .i64 (L+(q:Int))]/\Arr W (w.heap.size+3) 26 [.int .i64 0,.int .i64 0,.int .i64 0,.int .i64 0,.bool false]/\OwnI 3 w9.heap.size W v1 S2/\OwnI 3 w9.heap.size W v2 M2/\Below w.heap.size w W/\Arr W g13 26 [.int .i64 1,.int .i64 ix,.int .i64 0,.int .i64 is,.bool ib]) (((w1.setCell ⟨w.heap.size+2,0,none⟩ (.slice B1 S2.length n1)).setCell ⟨w.heap.size+2,1,none⟩ (.slice B2 M2.length n2)).setCell ⟨w.heap.size+2,2,none⟩ (.int .i64 (L+(q:Int)))) ?_ rfl (fun v=>⟨_,_,((HBX1.out.2.2.1.set 0 _).set 1 _).set 2 _,((HBX1.out.2.2.2.1.far (p:=⟨w.heap.size+2,0,none⟩) (by simp) _).far (p:=⟨w.heap.size+2,1,none⟩) (by simp) _).far (p:=⟨w.heap.size+2,2,none⟩) (by simp) _,((O1.out.far q1 _).far q1 _).far q1 _,((O2.out.far q2 _).far q2 _).far q2 _,((HBX1.out.2.2.2.2.setCell (p:=⟨w.heap.size+2,0,none⟩) (by simp) _).setCell (p:=⟨w.heap.size+2,1,none⟩) (by simp) _).setCell (p:=⟨w.heap.size+2,2,none⟩) (by simp) _,(((HIV.out.below hbel HIV.out.lt).far (p:=⟨w.heap.size+2,0,none⟩) (show g13≠w.heap.size+2 by have:=HG13.out;omega) _).far (p:=⟨w.heap.size+2,1,none⟩) (show g13≠w.heap.size+2 by have:=HG13.out;omega) _).far (p:=⟨w.heap.size+2,2,none⟩) (show g13≠w.heap.size+2 by have:=HG13.out;omega) _⟩) rfl
        clear n1' n2' q1 q2
        go_simp
      · intro x w1 bA hold hb
        refine ⟨fun _ h=>absurd rfl h,fun h=>absurd h (by decide),fun _ h1 hdep=>?_,fun h=>absurd h (by decide)⟩
        have e5:bA.tmps[5]?.getD undef=.pointer (some ⟨w.heap.size+3,0,none⟩):=hb 5
        have e70:bA.tmps[70]?.getD undef=.agg #[.int .i64 1,.int .i64 ix,.int .i64 0,.int .i64 is,.bool ib]:=(hb 70).trans (hdep 7 (by decide) _ rfl)
        clear hb hdep hold
        obtain ⟨v1,v2,a2,a3,o1,o2,hbw,hiv⟩:=h1
        have HIV1:=Lib.hid hiv
        clear hiv
        have c0:=a3.cell 0
        have c1:=a3.cell 1
        have c2:=a3.cell 2
        have c3:=a3.cell 3
        have c4:=a3.cell 4
        have f0:=a3.frozen 0
        have f1:=a3.frozen 1
        have f2:=a3.frozen 2
        have f3:=a3.frozen 3
        have f4:=a3.frozen 4
        have q1:v1.ownBlock≠some (w.heap.size+3):=fun e=>by have h1:=o1.block _ e;have h2:=HB4.out;omega
        have q2:v2.ownBlock≠some (w.heap.size+3):=fun e=>by have h1:=o2.block _ e;have h2:=HB4.out;omega
        have Q1:=Lib.hid q1
        have Q2:=Lib.hid q2
        have A2x:=Lib.hid a2
        have A3x:=Lib.hid a3
        have O1:=Lib.hid o1
        have O2:=Lib.hid o2
        have HBW:=Lib.hid hbw
        clear a2 a3 o1 o2 hbw q1 q2
        refine phl_st (n:=9) (x:=x) (R:=fun _ W=>∃ v1 v2,Arr W (w.heap.size+2) 24 [v1,v2,.int .i64 (L+(q:Int))]/\Arr W (w.heap.size+3) 26 [.int .i64 1,.int .i64 ix,.int .i64 0,.int .i64 is,.bool ib]/\OwnI 3 w9.heap.size W v1 S2/\OwnI 3 w9.heap.size W v2 M2/\Below w.heap.size w W/\Arr W g13 26 [.int .i64 1,.int .i64 ix,.int .i64 0,.int .i64 is,.bool ib]) (((((w1.setCell ⟨w.heap.size+3,0,none⟩ (.int .i64 1)).setCell ⟨w.heap.size+3,1,none⟩ (.int .i64 ix)).setCell ⟨w.heap.size+3,2,none⟩ (.int .i64 0)).setCell ⟨w.heap.size+3,3,none⟩ (.int .i64 is)).setCell ⟨w.heap.size+3,4,none⟩ (.bool ib)) ?_ rfl (fun v=>⟨v1,v2,(((((A2x.out.far (p:=⟨w.heap.size+3,0,none⟩) (by simp) _).far (p:=⟨w.heap.size+3,1,none⟩) (by simp) _).far (p:=⟨w.heap.size+3,2,none⟩) (by simp) _).far (p:=⟨w.heap.size+3,3,none⟩) (by simp) _).far (p:=⟨w.heap.size+3,4,none⟩) (by simp) _),((((A3x.out.set 0 _).set 1 _).set 2 _).set 3 _).set 4 _,(((((O1.out.far Q1.out _).far Q1.out _).far Q1.out _).far Q1.out _).far Q1.out _),(((((O2.out.far Q2.out _).far Q2.out _).far Q2.out _).far Q2.out _).far Q2.out _),(((((HBW.out.setCell (p:=⟨w.heap.size+3,0,none⟩) (by simp) _).setCell (p:=⟨w.heap.size+3,1,none⟩) (by simp) _).setCell (p:=⟨w.heap.size+3,2,none⟩) (by simp) _).setCell (p:=⟨w.heap.size+3,3,none⟩) (by simp) _).setCell (p:=⟨w.heap.size+3,4,none⟩) (by simp) _),(((((HIV1.out.far (p:=⟨w.heap.size+3,0,none⟩) (show g13≠w.heap.size+3 by have:=HG13.out;omega) _).far (p:=⟨w.heap.size+3,1,none⟩) (show g13≠w.heap.size+3 by have:=HG13.out;omega) _).far (p:=⟨w.heap.size+3,2,none⟩) (show g13≠w.heap.size+3 by have:=HG13.out;omega) _).far (p:=⟨w.heap.size+3,3,none⟩) (show g13≠w.heap.size+3 by have:=HG13.out;omega) _).far (p:=⟨w.heap.size+3,4,none⟩) (show g13≠w.heap.size+3 by have:=HG13.out;omega) _)⟩) rfl
        go_simp
      · intro x w1 bA hold hb
        refine ⟨fun h=>absurd h (by decide),fun h=>absurd h (by decide),fun h=>absurd h (by decide),fun _ hC hdep=>⟨.int .i64 0,rfl,?_,rfl⟩⟩
        clear hb hdep hold hC
        go_simp
      intro x w1 hR hall
      have x0e:x 0=.pointer (some ⟨w.heap.size,0,none⟩):=hall 0 _ (by simp) rfl
      have x1e:x 1=.slice (some ⟨bs,os,none⟩) S.length cs:=hall 1 _ (by simp) rfl
      have x2e:x 2=.slice Am M.length cm:=hall 2 _ (by simp) rfl
      have x3e:x 3=.int .i64 (L+(q:Int)):=hall 3 _ (by simp) rfl
      have x4e:x 4=.int .i64 (c:Int):=hall 4 _ (by simp) rfl
      have x7e:x 7=.agg #[.int .i64 1,.int .i64 ix,.int .i64 0,.int .i64 is,.bool ib]:=hall 7 _ (by simp) rfl
      have x10e:x 10=.int .i64 0:=hall 10 _ (by simp) rfl
      simp only [putAll,dstOf,Act.put,List.map_cons,List.map_nil,List.setIfInBounds_toArray,List.set_cons_succ,List.set_cons_zero,Nat.reduceAdd,x0e,x1e,x2e,x3e,x4e,x7e,x10e]
      clear hall x0e x1e x2e x3e x4e x7e x10e
      obtain ⟨v1,v2,a2,a3,o1,o2,hbw,_⟩:=hR
      have HA2:=Lib.hid a2
      have HA3:=Lib.hid a3
      have O1:=Lib.hid o1
      have O2:=Lib.hid o2
      have HBW:=Lib.hid hbw
      clear a2 a3 o1 o2 hbw
      go_wp2_with fail
      refine bodyPost_ret (v:=.tuple #[.agg #[v1,v2,.int .i64 (L+(q:Int))],.agg #[.int .i64 1,.int .i64 ix,.int .i64 0,.int .i64 is,.bool ib],.int .i64 0]) (results_cct Try.results14 _ _ (w.heap.size+2) (w.heap.size+3) 24 26 _ _ _ _ rfl HA2.out rfl HA3.out Try.underlying24 rfl info_diag Try.underlying26 rfl info_move) rfl ?_
      exact ⟨⟨_,_,S2,M2,_,_,0,rfl,⟨_,_,_,_,_,rfl⟩,O1.out.base (Nat.zero_le _),O2.out.base (Nat.zero_le _),fun _=>HLAW.out⟩,HBW.out⟩
end Go.Proofs.Ytfnmeigpfmeomaa
