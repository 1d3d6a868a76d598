import Derived.Test.YtahdiiaadjdmcaaGreatNgE
namespace Go.Proofs.YtahdiiaadjdmcaaGreat
open Go.RowKit
theorem yx {w:World} {B:Nat→Prop} {K:NK} {b N:Nat} {s s':cR} (h1:s'.ons=s.ons) (h3:s'.cnt=s.cnt) (h:gB w B K b N s):gB w B K b N s':=by
 obtain ⟨g1,n,σ,g2,g3,g4⟩:=h
 exact ⟨g1,n,σ,g2,g3,fun own ho=>by rw [h1,h3];exact g4 own ho⟩
theorem jD.eqv {w:World} {lab:aP} {K:NK} {v:eT} {a a':aR} {N:Nat} (h:jD w lab K v a N) (h1:a'.now.ons=a.now.ons) (h2:a'.now.sides=a.now.sides) (h3:a'.now.cnt=a.now.cnt) (h4:a'.old=a.old):jD w lab K v a' N:=by
 have e2:S2 K a'=S2 K a:=by unfold S2;rw [h1,h4]
 have e3:S3 K a'=S3 K a:=by unfold S3;rw [h2,h4]
 refine ⟨h.lt,fun i=>?_⟩
 have hp:=h.part i
 match i,hp with
 | 0,hp=>exact hp
 | 1,_=>exact trivial
 | 2,hp=>exact fun hk=>by rw [e2];exact hp hk
 | 3,hp=>exact fun hk=>by rw [e3];exact hp hk
 | 4,hp=>exact fun hk=>yx h1 h3 (hp hk)
 | 5,hp=>exact fun hk=>by rw [h4];exact hp hk
 | _+6,_=>exact trivial
section
variable {w:World} {lab:aP} {K:NK} {v:eT} {a:aR} {N:Nat}
set_option maxRecDepth 100000 in
set_option maxHeartbeats 2000000 in
theorem ξ (h:fD w lab K v a (S1 K a) N) (hK:fN K) (hO:iS K a.now) (hk:K.kind=3) (hN:N+1048576≤8796093022208) {from_:Int} (yY:from_=1∨from_=2) {r:List V} {A:Option Addr} {n:Nat} (c:Nat) (ha:bD w A n r) (hf:aV (if from_=2 then K.side.length else K.inn) r=true) (hA:dR lab.dom A) (hB:∀ x,A=some x→x.block<w.heap.size) :
 Calls Tryz.prog 129 #[.pointer (some ⟨v.k,0,none⟩),.int .i64 from_,.slice A n c] w (kI w lab K v a (N+1048576) (if from_=2 then sideN K a.now true r else eD K a.now true r)):=by
 have fM:=aD.alloc w (.cells #[.slice none 0 0,.slice none 0 0] 38)
 have hq:=h.ext fM
 have RB:=aA (aL.new w 38 #[.slice none 0 0,.slice none 0 0])
 obtain ⟨k0,k1,k2⟩:=hq.r.meet hk
 have HQ:=aA hq;have HE:=aA fM;have dH:=aA (show ¬ lab.dom w.heap.size from fun ⟨i,hi⟩=>by have:=h.r.lt _ _ hi;omega)
 have rZ:=aA (fun (x:Addr) (hx:A=some x)=>Nat.lt_of_lt_of_le (hB x hx) fM.size)
 have HO:=aA hO;have HA:=aA (ha.ext fM);have lY:=aA hA;have yG:=aA hK
 clear h ha hq fM hA hO hK hB
 obtain ⟨rb,gU⟩ : ∃ rb,w.heap.size=rb:=⟨_,rfl⟩
 have HR:=aA (Nat.le_of_eq gU)
 rw [gU] at RB dH
 have Dy:K.width=K.inn:=by unfold NK.width;rw [if_neg (by omega)]
 have zeQ:=aA Dy
 clear Dy
 rcases yY with rfl | rfl
 ·rw [if_neg (by decide)] at hf ⊢
  obtain ⟨t,ht⟩ : ∃ t,eD K a.now true r=t:=⟨_,rfl⟩
  rw [ht]
  have HT:=aA ht
  have hS:(S2 K a).rows=a.now.ons∧(S2 K a).most=K.most∧aV (S2 K a).width r=true:=⟨rfl,rfl,hf⟩
  have HF:=aA hf
  have HS:=aA (Bt (HQ.out.r.part 2 hk) (by omega) c HA.out (fun x hx hb=>lY.out x hx ⟨2,hb⟩))
  clear ht hf
  go_enter Tryz.func129,Tryz.ntmps129
  go_upto_region 1 with fail
  generalize aT:w.alloc (.cells #[.slice none 0 0,.slice none 0 0] 38)=w1 at *
  clear gU aT
  cases bE:inB a.now.ons r with
  |true=>
   have bR:fP (S2 K a) r=(S2 K a,false,0):=by unfold fP;rw [hS.2.2,hS.1,bE];rfl
   rw [bR] at HS
   have ht:t=(a.now,[],[],191):=by rw [← HT.out];unfold eD;rw [bE];rfl
   have HT:=aA ht
   clear bR bE hS ht
   go_upto_region 8 with ((with_reducible refine HS.out.mono ?_);rintro e w2 ⟨rfl,h2⟩;have T2:=aA (HQ.out.source (a':=a) hk (Nat.le_add_right N 262145) h2 rfl);clear h2)
   obtain ⟨lab2,q2,st2⟩:=T2.out
   have Q2:=aA (q2.more (by omega:N+262145≤N+1048576));have fR:=aA st2
   have B2:=aA (st2.2.blk RB.out dH.out)
   clear q2 st2 T2 k0 k1 k2
   have f0:=B2.out.frozen 0
   have f1:=B2.out.frozen 1
   have c0:_=some (Value.slice none 0 0):=B2.out.cell 0
   have c1:_=some (Value.slice none 0 0):=B2.out.cell 1
   go_wp2_with fail
   have R:=(aU B2.out (.slice none 0 0) (.slice none 0 0))
   have r0:=R.cell 0
   have r1:=R.cell 1
   refine bodyPost_ret (v:=.tuple #[.agg #[.slice none 0 0,.slice none 0 0],.int .i64 191]) (by simp [results,Tryz.results129,go_sem,r0,r1]) rfl ?_
   exact eX HT.out HE.out fR.out Q2.out HR.out dH.out RB.out.lt
  |false=>
   by_cases hm:a.now.ons.length<K.most
   ·have bR:fP (S2 K a) r=(S2 K {a with now:={a.now with ons:=a.now.ons ++ [r]}},true,0):=by unfold fP;rw [hS.2.2,hS.1,bE,hS.2.1,if_pos hm];rfl
    rw [bR] at HS
    have Nq:=aA (bT.1 bE);have HM:=aA hm
    clear bR hS
    go_upto_region 10 with ((with_reducible refine HS.out.mono ?_);rintro e w2 ⟨rfl,h2⟩;have T2:=aA (HQ.out.source (a':={a with now:={a.now with ons:=a.now.ons ++ [r]}}) hk (Nat.le_add_right N 262145) h2 rfl);clear h2)
    obtain ⟨lab2,q2,st2⟩:=T2.out
    have Q2:=aA q2;have fR:=aA st2
    have B2:=aA (st2.2.blk RB.out dH.out)
    have lZ:=aA (HA.out.stays (B:=lab.dom) lY.out st2.2)
    clear q2 st2 T2 k0 k1 k2
    obtain ⟨k0,k1,k2⟩:=Q2.out.r.meet hk
    have zix:=aA (fun (w5:World) (h5:aD w2 w5)=>Wl (Q2.out.r.ext h5) yG.out hk c (lZ.out.ext h5) HF.out)
    have nC:=aA (fun (w5:World) (lab5:aP) (a5:aR) (S5:aY) (M:Nat) (q:fD w5 lab5 K v a5 S5 M)=>(q.r.meet hk).2.2)
    have yf:=aA (show ∀ w',aD w2 w'→w'.cell? ⟨v.k,2,none⟩=some (.pointer (some ⟨v.x3,0,none⟩)) from fun w' h'=>h'.cell k2)
    clear k0 k1 k2 bE hm
    refine mK [true,true,true,true,true,true,false,false,true] (fun w'=>w'.cell? ⟨v.k,2,none⟩=some (.pointer (some ⟨v.x3,0,none⟩))) (by kernel_rfl) (by kernel_rfl) (fun _ _ _ _ _ h=>h) ?_ ?_
    ·exact yf.out
    intro wq hwq
    iterate 6
     unfold Iv
     apply Exists.intro
     refine ⟨fun w9 h9=>?_,fun K hK=>?_⟩
     ·go_simp;first | done | rfl
     go_simp;refine hK _ ?_;clear hK K
    unfold Iv
    go_wp2_with ((with_reducible refine (zix.out wq hwq).mono ?_);rintro e w3 ⟨A3,c3,rfl,h3,x3⟩;have X3:=aA (hwq.trans x3);have zbH:=aA h3;clear h3 x3)
    simp only [kB]
    refine ⟨yf.out w3 X3.out,?_⟩
    have HHas:=aA (Mo ((Q2.out.r.ext X3.out).part 3 hk) (by omega) c3 zbH.out)
    unfold Iv
    go_wp2_with ((with_reducible refine HHas.out.mono ?_);rintro e w2 ⟨rfl,h4⟩;have T4:=aA ((Q2.out.ext X3.out).side (a':={a with now:={a.now with ons:=a.now.ons ++ [r]}}) hk (Nat.le_succ _) h4 rfl);clear h4)
    simp only [kB]
    obtain ⟨lab4,q4,st4⟩:=T4.out
    refine ⟨nC.out _ _ _ _ _ q4,?_⟩
    have Q4:=aA q4
    have B4:=aA (st4.2.blk (B2.out.ext X3.out) (iW fR.out dH.out RB.out.lt))
    have Oq:=aA (bB (eV fR.out X3.out) st4)
    have Z2:=aA (HA.out.stays (B:=lab.dom) lY.out Oq.out.2)
    clear q4 st4 T4 hwq zix HHas yf Q2 fR B2 lZ
    unfold Iv
    apply Exists.intro
    refine ⟨fun w9 h9=>?_,fun K hK=>?_⟩
    ·go_simp;first | done | rfl
    go_simp;refine hK _ ?_;clear hK K
    unfold Iv
    cases Iw:inB a.now.sides (aE K.side r) with
    |false=>
     have ht:t=({a.now with ons:=a.now.ons ++ [r]},[],[r],0):=by rw [← HT.out];unfold eD;rw [bT.2 Nq.out,if_pos HM.out,Iw];rfl
     have HT:=aA ht
     rw [show inB (S3 K {a with now:={a.now with ons:=a.now.ons ++ [r]}}).rows (aE K.side r)=false from Iw]
     have Q2:=aA (show fD w2 lab4 K v {a with now:={a.now with ons:=a.now.ons ++ [r]}} (S1 K {a with now:={a.now with ons:=a.now.ons ++ [r]}}) (N+1048576) from Q4.out.more (by omega))
     have fR:=Oq;have B2:=B4;have lZ:=Z2
     clear ht Iw Q4 Oq B4 Z2
     have HO:=aA (fun (w5:World) (h5:aD w2 w5)=>kL c (lZ.out.ext h5))
     go_wp2_with ((with_reducible refine (HO.out w2 (aD.refl _)).mono ?_);rintro e w4 ⟨A2,rfl,h1,x1⟩;have O2:=aA h1;have X2:=aA x1;have B4:=aA (B2.out.ext X2.out);have f0:=B4.out.frozen 0;have f1:=B4.out.frozen 1;have c0:_=some (Value.slice none 0 0):=B4.out.cell 0;have c1:_=some (Value.slice none 0 0):=B4.out.cell 1;clear h1 x1)
     have R:=(aU B4.out (.slice none 0 0) (.slice A2 1 1))
     have r0:=R.cell 0
     have r1:=R.cell 1
     refine bodyPost_ret (v:=.tuple #[.agg #[.slice none 0 0,.slice A2 1 1],.int .i64 0]) (by simp [results,Tryz.results129,go_sem,r0,r1]) rfl ?_
     exact Kv HT.out HE.out fR.out Q2.out HR.out dH.out RB.out.lt O2.out X2.out
    |true=>
     have ht:t=({a.now with ons:=a.now.ons ++ [r],live:=a.now.live ++ [r]},[r],[r],0):=by rw [← HT.out];unfold eD;rw [bT.2 Nq.out,if_pos HM.out,Iw];rfl
     have HT:=aA ht
     rw [show inB (S3 K {a with now:={a.now with ons:=a.now.ons ++ [r]}}).rows (aE K.side r)=true from Iw]
     have bR:fP (S1 K a) r=({S1 K a with rows:=a.now.live ++ [r]},true,0):=by
      have hl:a.now.live.length≤a.now.ons.length:=Fg HO.out.lnd fun x hx=>((HO.out.meet hk x).1 hx).1
      have hm:=HM.out
      unfold fP
      rw [show aV (S1 K a).width r=true by show aV K.width r=true;rw [zeQ.out];exact HF.out,show (S1 K a).rows=a.now.live from rfl,bT.2 (fun hx=>Nq.out ((HO.out.meet hk r).1 hx).1),show (S1 K a).most=K.most from rfl,if_pos (show a.now.live.length<K.most by omega)];rfl
     have sQ:=Bt Q4.out.s (by omega) c Z2.out (fun x hx hb=>by
      rcases Oq.out.1 _ ⟨1,hb⟩ with h | h
      ·exact lY.out x hx h
      ·have:=rZ.out x hx;omega)
     rw [bR] at sQ
     have sQ:=aA sQ
     have a6:=Q4.out.r.rows6
     have k0:=(Q4.out.r.meet hk).1
     clear ht Iw bR
     go_upto_region 13 with ((with_reducible refine sQ.out.mono ?_);rintro e w2 ⟨rfl,h2⟩;have T2:=aA (Q4.out.live (Nat.le_add_right _ 262145) h2);clear h2)
     obtain ⟨lab2,q2,st2⟩:=T2.out
     have Q2:=aA (show fD w2 lab2 K v {a with now:={a.now with ons:=a.now.ons ++ [r],live:=a.now.live ++ [r]}} (S1 K {a with now:={a.now with ons:=a.now.ons ++ [r],live:=a.now.live ++ [r]}}) (N+1048576) from ⟨(q2.r.more (by omega:N+262145+1+262145≤N+1048576)).eqv rfl rfl rfl rfl,q2.s.more (by omega)⟩)
     have fR:=aA (bB Oq.out st2)
     have B2:=aA (st2.2.blk B4.out (iW Oq.out dH.out RB.out.lt))
     have lZ:=aA (HA.out.stays (B:=lab.dom) lY.out fR.out.2)
     clear q2 st2 T2 a6 k0 Q4 Oq B4 Z2
     have HO:=aA (fun (w5:World) (h5:aD w2 w5)=>kL c (lZ.out.ext h5))
     go_wp2_with (first
      | ((with_reducible refine (HO.out w2 (aD.refl _)).mono ?_);rintro e w3 ⟨A1,rfl,h1,x1⟩;have O1:=aA h1;have X1:=aA x1;clear h1 x1)
      | ((with_reducible refine (HO.out w3 X1.out).mono ?_);rintro e w4 ⟨A2,rfl,h1,x1⟩;have O2:=aA h1;have X2:=aA x1;have B4:=aA (B2.out.ext (X1.out.trans X2.out));have f0:=B4.out.frozen 0;have f1:=B4.out.frozen 1;have c0:_=some (Value.slice none 0 0):=B4.out.cell 0;have c1:_=some (Value.slice none 0 0):=B4.out.cell 1;clear h1 x1))
     have R:=(aU B4.out (.slice A1 1 1) (.slice A2 1 1))
     have r0:=R.cell 0
     have r1:=R.cell 1
     refine bodyPost_ret (v:=.tuple #[.agg #[.slice A1 1 1,.slice A2 1 1],.int .i64 0]) (by simp [results,Tryz.results129,go_sem,r0,r1]) rfl ?_
     exact vY HT.out HE.out fR.out Q2.out HR.out dH.out RB.out.lt O1.out X1.out O2.out X2.out
   ·have bR:fP (S2 K a) r=(S2 K a,false,31):=by unfold fP;rw [hS.2.2,hS.1,bE,hS.2.1,if_neg hm];rfl
    rw [bR] at HS
    have ht:t=(a.now,[],[],31):=by rw [← HT.out];unfold eD;rw [bE,if_neg hm];rfl
    have HT:=aA ht
    clear bR bE hS ht hm
    go_upto_region 6 with ((with_reducible refine HS.out.mono ?_);rintro e w2 ⟨rfl,h2⟩;have T2:=aA (HQ.out.source (a':=a) hk (Nat.le_add_right N 262145) h2 rfl);clear h2)
    obtain ⟨lab2,q2,st2⟩:=T2.out
    have Q2:=aA (q2.more (by omega:N+262145≤N+1048576));have fR:=aA st2
    have B2:=aA (st2.2.blk RB.out dH.out)
    clear q2 st2 T2 k0 k1 k2
    have f0:=B2.out.frozen 0
    have f1:=B2.out.frozen 1
    have c0:_=some (Value.slice none 0 0):=B2.out.cell 0
    have c1:_=some (Value.slice none 0 0):=B2.out.cell 1
    go_wp2_with fail
    have R:=(aU B2.out (.slice none 0 0) (.slice none 0 0))
    have r0:=R.cell 0
    have r1:=R.cell 1
    refine bodyPost_ret (v:=.tuple #[.agg #[.slice none 0 0,.slice none 0 0],.int .i64 31]) (by simp [results,Tryz.results129,go_sem,r0,r1]) rfl ?_
    exact eX HT.out HE.out fR.out Q2.out HR.out dH.out RB.out.lt
 ·rw [if_pos rfl] at hf ⊢
  obtain ⟨t,ht⟩ : ∃ t,sideN K a.now true r=t:=⟨_,rfl⟩
  rw [ht]
  have HT:=aA ht
  have hS:(S3 K a).rows=a.now.sides∧(S3 K a).most=K.most∧aV (S3 K a).width r=true:=⟨rfl,rfl,hf⟩
  have HS:=aA (Bt (HQ.out.r.part 3 hk) (by omega) c HA.out (fun x hx hb=>lY.out x hx ⟨3,hb⟩))
  clear ht hf
  go_enter Tryz.func129,Tryz.ntmps129
  go_upto_region 1 with fail
  generalize aT:w.alloc (.cells #[.slice none 0 0,.slice none 0 0] 38)=w1 at *
  clear gU aT
  cases bE:inB a.now.sides r with
  |true=>
   have bR:fP (S3 K a) r=(S3 K a,false,0):=by unfold fP;rw [hS.2.2,hS.1,bE];rfl
   rw [bR] at HS
   have ht:t=(a.now,[],[],191):=by rw [← HT.out];unfold sideN;rw [bE];rfl
   have HT:=aA ht
   clear bR bE hS ht
   go_upto_region 8 with ((with_reducible refine HS.out.mono ?_);rintro e w2 ⟨rfl,h2⟩;have T2:=aA (HQ.out.side (a':=a) hk (Nat.le_add_right N 262145) h2 rfl);clear h2)
   obtain ⟨lab2,q2,st2⟩:=T2.out
   have Q2:=aA (q2.more (by omega:N+262145≤N+1048576));have fR:=aA st2
   have B2:=aA (st2.2.blk RB.out dH.out)
   clear q2 st2 T2 k0 k1 k2
   have f0:=B2.out.frozen 0
   have f1:=B2.out.frozen 1
   have c0:_=some (Value.slice none 0 0):=B2.out.cell 0
   have c1:_=some (Value.slice none 0 0):=B2.out.cell 1
   go_wp2_with fail
   have R:=(aU B2.out (.slice none 0 0) (.slice none 0 0))
   have r0:=R.cell 0
   have r1:=R.cell 1
   refine bodyPost_ret (v:=.tuple #[.agg #[.slice none 0 0,.slice none 0 0],.int .i64 191]) (by simp [results,Tryz.results129,go_sem,r0,r1]) rfl ?_
   exact eX HT.out HE.out fR.out Q2.out HR.out dH.out RB.out.lt
  |false=>
   by_cases hm:a.now.sides.length<K.most
   ·have bR:fP (S3 K a) r=(S3 K {a with now:={a.now with sides:=a.now.sides ++ [r]}},true,0):=by unfold fP;rw [hS.2.2,hS.1,bE,hS.2.1,if_pos hm];rfl
    rw [bR] at HS
    have Nq:=aA (bT.1 bE)
    have ht:t=({a.now with sides:=a.now.sides ++ [r],live:=a.now.live ++ aM K a.now r},aM K a.now r,aM K a.now r,0):=by rw [← HT.out];unfold sideN;rw [bE,if_pos hm];rfl
    have HT:=aA ht
    have za9:∀ (fn:Fn) (first cap:Array Value) (w:World),(Instr.makeFunc fn first cap).run Tryz.prog w=.ok (.func fn first cap) w:=fun _ _ _ _=>rfl
    clear bR hS ht bE hm
    go_upto_region 14 with ((with_reducible refine HS.out.mono ?_);rintro e w2 ⟨rfl,h2⟩;have T2:=aA (HQ.out.side (a':={a with now:={a.now with sides:=a.now.sides ++ [r]}}) hk (Nat.le_add_right N 262145) h2 rfl);clear h2)
    obtain ⟨lab2,q2,st2⟩:=T2.out
    have Q2:=aA q2;have fR:=aA st2
    have B2:=aA (st2.2.blk RB.out dH.out)
    have lZ:=aA (HA.out.stays (B:=lab.dom) lY.out st2.2)
    have jf:=aA (iW st2 dH.out RB.out.lt)
    clear q2 st2 T2 k0 k1 k2
    have zci:=B0 yG.out HO.out r
    have zgg:=aA (Dg (a:={a with now:={a.now with sides:=a.now.sides ++ [r]}}) (G:=fun i w B=>Rc w B v.x1 (Vj K a (aM K a.now r) i) (N+524289+i)) (key:=r) (L:=aM K a.now r) rfl Q2.out.r hk (by omega) zci (pE HO.out hk r)
     (by
      have h1:=Q2.out.s.stp
      have e:Vj K a (aM K a.now r) 0=S1 K a:=by unfold Vj;rw [List.take_zero,List.append_nil];rfl
      rw [e];exact h1)
     (fun i=>⟨fun w w' B C h hc hd=>Rc.chg h hc hd,fun w B C h hc=>Rc.mono h hc⟩)
     (fun i x wr B Ai ni ci hx hg ha hb=>by
      have hi:=(List.getElem?_eq_some_iff.1 hx).1
      have h1:=χ hg (by omega) ci ha hb
      rw [qq HO.out hk Nq.out hx] at h1
      refine h1.mono ?_
      rintro e w' ⟨rfl,h2⟩
      exact ⟨⟨_,rfl⟩,h2⟩)
     yG.out.inn c lZ.out)
    have a6:=Q2.out.r.rows6
    have k0:=(Q2.out.r.meet hk).1
    go_wp2_with ((with_reducible refine zgg.out.mono ?_);rintro e w3 ⟨y,lab3,rfl,r3,g3,st3,A4,c4,A5,c5,P4,P5,rfl,nM,pT,xT,xQ⟩;have M3:=aA (show cD w2.heap.size lab3.dom w3 (aM K a.now r) (aM K a.now r) _ from ⟨A4,c4,A5,c5,P4,P5,rfl,nM,pT,xT,xQ⟩);have R3:=aA r3;have G3:=aA g3;have Ot:=aA st3;have B3:=aA (st3.2.blk B2.out jf.out);have f0:=B3.out.frozen 0;have f1:=B3.out.frozen 1;have c0:_=some (Value.slice none 0 0):=B3.out.cell 0;have c1:_=some (Value.slice none 0 0):=B3.out.cell 1;clear r3 g3 st3 nM pT xT xQ)
    have R:=(aU B3.out (.slice A4 (aM K a.now r).length c4) (.slice A5 (aM K a.now r).length c5))
    have r0:=R.cell 0
    have r1:=R.cell 1
    refine bodyPost_ret (v:=.tuple #[.agg #[.slice A4 (aM K a.now r).length c4,.slice A5 (aM K a.now r).length c5],.int .i64 0]) (by simp [results,Tryz.results129,go_sem,r0,r1]) rfl ?_
    have hq:fD w3 lab3 K v {a with now:={a.now with sides:=a.now.sides ++ [r],live:=a.now.live ++ aM K a.now r}} (S1 K {a with now:={a.now with sides:=a.now.sides ++ [r],live:=a.now.live ++ aM K a.now r}}) (N+1048576):=by
     refine ⟨(R3.out.more (by omega:N+262145+1≤N+1048576)).eqv rfl rfl rfl rfl,?_⟩
     have h1:=(G3.out.sti).more (show N+524289+(aM K a.now r).length≤N+1048576 by omega)
     have e:Vj K a (aM K a.now r) (aM K a.now r).length=S1 K {a with now:={a.now with sides:=a.now.sides ++ [r],live:=a.now.live ++ aM K a.now r}}:=by unfold Vj;rw [List.take_length];rfl
     rw [e] at h1
     exact h1
    have bC:=RB.out.lt
    have gG:=HE.out.size
    have xC:=fR.out.2.size
    exact gD HT.out HE.out (bB fR.out Ot.out) hq HR.out dH.out bC (M3.out.weak (by omega) (by omega))
   ·have bR:fP (S3 K a) r=(S3 K a,false,31):=by unfold fP;rw [hS.2.2,hS.1,bE,hS.2.1,if_neg hm];rfl
    rw [bR] at HS
    have ht:t=(a.now,[],[],31):=by rw [← HT.out];unfold sideN;rw [bE,if_neg hm];rfl
    have HT:=aA ht
    clear bR bE hS ht hm
    go_upto_region 6 with ((with_reducible refine HS.out.mono ?_);rintro e w2 ⟨rfl,h2⟩;have T2:=aA (HQ.out.side (a':=a) hk (Nat.le_add_right N 262145) h2 rfl);clear h2)
    obtain ⟨lab2,q2,st2⟩:=T2.out
    have Q2:=aA (q2.more (by omega:N+262145≤N+1048576));have fR:=aA st2
    have B2:=aA (st2.2.blk RB.out dH.out)
    clear q2 st2 T2 k0 k1 k2
    have f0:=B2.out.frozen 0
    have f1:=B2.out.frozen 1
    have c0:_=some (Value.slice none 0 0):=B2.out.cell 0
    have c1:_=some (Value.slice none 0 0):=B2.out.cell 1
    go_wp2_with fail
    have R:=(aU B2.out (.slice none 0 0) (.slice none 0 0))
    have r0:=R.cell 0
    have r1:=R.cell 1
    refine bodyPost_ret (v:=.tuple #[.agg #[.slice none 0 0,.slice none 0 0],.int .i64 31]) (by simp [results,Tryz.results129,go_sem,r0,r1]) rfl ?_
    exact eX HT.out HE.out fR.out Q2.out HR.out dH.out RB.out.lt
end
section
variable {w:World} {lab:aP} {K:NK} {v:eT} {a:aR} {N:Nat}
set_option maxRecDepth 100000 in
set_option maxHeartbeats 2000000 in
theorem Z1 (h:fD w lab K v a (S1 K a) N) (hK:fN K) (hO:iS K a.now) (hk:K.kind=3) (hN:N+1048576≤8796093022208) {from_:Int} (yY:from_=1∨from_=2) {r:List V} {A:Option Addr} {n:Nat} (c:Nat) (ha:bD w A n r) (hf:aV (if from_=2 then K.side.length else K.inn) r=true) (hA:dR lab.dom A) (hB:∀ x,A=some x→x.block<w.heap.size) :
 Calls Tryz.prog 128 #[.pointer (some ⟨v.k,0,none⟩),.int .i64 from_,.slice A n c] w (kI w lab K v a (N+1048576) (if from_=2 then sideN K a.now false r else eD K a.now false r)):=by
 have fM:=aD.alloc w (.cells #[.slice none 0 0,.slice none 0 0] 38)
 have hq:=h.ext fM
 have RB:=aA (aL.new w 38 #[.slice none 0 0,.slice none 0 0])
 obtain ⟨k0,k1,k2⟩:=hq.r.meet hk
 have HQ:=aA hq;have HE:=aA fM;have dH:=aA (show ¬ lab.dom w.heap.size from fun ⟨i,hi⟩=>by have:=h.r.lt _ _ hi;omega)
 have rZ:=aA (fun (x:Addr) (hx:A=some x)=>Nat.lt_of_lt_of_le (hB x hx) fM.size)
 have HO:=aA hO;have HA:=aA (ha.ext fM);have lY:=aA hA;have yG:=aA hK
 clear h ha hq fM hA hO hK hB
 obtain ⟨rb,gU⟩ : ∃ rb,w.heap.size=rb:=⟨_,rfl⟩
 have HR:=aA (Nat.le_of_eq gU)
 rw [gU] at RB dH
 have Dy:K.width=K.inn:=by unfold NK.width;rw [if_neg (by omega)]
 have zeQ:=aA Dy
 clear Dy
 rcases yY with rfl | rfl
 ·rw [if_neg (by decide)] at hf ⊢
  obtain ⟨t,ht⟩ : ∃ t,eD K a.now false r=t:=⟨_,rfl⟩
  rw [ht]
  have HT:=aA ht
  have hS:(S2 K a).rows=a.now.ons∧aV (S2 K a).width r=true:=⟨rfl,hf⟩
  have HF:=aA hf
  have HS:=aA (vB (HQ.out.r.part 2 hk) (by omega) c HA.out (fun x hx hb=>lY.out x hx ⟨2,hb⟩))
  clear ht hf
  go_enter Tryz.func128,Tryz.ntmps128
  go_upto_region 1 with fail
  generalize aT:w.alloc (.cells #[.slice none 0 0,.slice none 0 0] 38)=w1 at *
  clear gU aT
  cases bE:inB a.now.ons r with
  |false=>
   have bR:eG (S2 K a) r=(S2 K a,false,0):=by unfold eG;rw [hS.2,hS.1,bE];rfl
   rw [bR] at HS
   have ht:t=(a.now,[],[],192):=by rw [← HT.out];unfold eD;rw [bE];rfl
   have HT:=aA ht
   clear bR bE hS ht
   go_upto_region 6 with ((with_reducible refine HS.out.mono ?_);rintro e w2 ⟨rfl,h2⟩;have T2:=aA (HQ.out.source (a':=a) hk (Nat.le_add_right N 262145) h2 rfl);clear h2)
   obtain ⟨lab2,q2,st2⟩:=T2.out
   have Q2:=aA (q2.more (by omega:N+262145≤N+1048576));have fR:=aA st2
   have B2:=aA (st2.2.blk RB.out dH.out)
   clear q2 st2 T2 k0 k1 k2
   have f0:=B2.out.frozen 0
   have f1:=B2.out.frozen 1
   have c0:_=some (Value.slice none 0 0):=B2.out.cell 0
   have c1:_=some (Value.slice none 0 0):=B2.out.cell 1
   go_wp2_with fail
   have R:=(aU B2.out (.slice none 0 0) (.slice none 0 0))
   have r0:=R.cell 0
   have r1:=R.cell 1
   refine bodyPost_ret (v:=.tuple #[.agg #[.slice none 0 0,.slice none 0 0],.int .i64 192]) (by simp [results,Tryz.results128,go_sem,r0,r1]) rfl ?_
   exact eX HT.out HE.out fR.out Q2.out HR.out dH.out RB.out.lt
  |true=>
   have bR:eG (S2 K a) r=(S2 K {a with now:={a.now with ons:=bS r a.now.ons}},true,0):=by unfold eG;rw [hS.2,hS.1,bE];rfl
   rw [bR] at HS
   clear bR hS
   go_upto_region 8 with ((with_reducible refine HS.out.mono ?_);rintro e w2 ⟨rfl,h2⟩;have T2:=aA (HQ.out.source (a':={a with now:={a.now with ons:=bS r a.now.ons}}) hk (Nat.le_add_right N 262145) h2 rfl);clear h2)
   obtain ⟨lab4,q4,st4⟩:=T2.out
   have Q4:=aA q4;have Oq:=aA st4
   have B4:=aA (st4.2.blk RB.out dH.out)
   have Z2:=aA (HA.out.stays (B:=lab.dom) lY.out st4.2)
   clear q4 st4 T2 k0 k1 k2
   have sQ:=vB Q4.out.s (by omega) c Z2.out (fun x hx hb=>by
    rcases Oq.out.1 _ ⟨1,hb⟩ with h | h
    ·exact lY.out x hx h
    ·have:=rZ.out x hx;omega)
   have a6:=Q4.out.r.rows6
   have k0:=(Q4.out.r.meet hk).1
   cases pK:inB a.now.live r with
   |true=>
    have bR:eG (S1 K a) r=({S1 K a with rows:=bS r a.now.live},true,0):=by unfold eG;rw [show aV (S1 K a).width r=true by show aV K.width r=true;rw [zeQ.out];exact HF.out,show (S1 K a).rows=a.now.live from rfl,pK];rfl
    rw [bR] at sQ
    have sQ:=aA sQ
    have ht:t=({a.now with ons:=bS r a.now.ons,live:=bS r a.now.live},[r],[r],0):=by rw [← HT.out];unfold eD;rw [bE,pK];rfl
    have HT:=aA ht
    clear ht bR bE pK
    go_upto_region 10 with ((with_reducible refine sQ.out.mono ?_);rintro e w2 ⟨rfl,h2⟩;have T2:=aA (Q4.out.live (Nat.le_add_right _ 262145) h2);clear h2)
    obtain ⟨lab2,q2,st2⟩:=T2.out
    have Q2:=aA (show fD w2 lab2 K v {a with now:={a.now with ons:=bS r a.now.ons,live:=bS r a.now.live}} (S1 K {a with now:={a.now with ons:=bS r a.now.ons,live:=bS r a.now.live}}) (N+1048576) from ⟨(q2.r.more (by omega:N+262145+262145≤N+1048576)).eqv rfl rfl rfl rfl,q2.s.more (by omega)⟩)
    have fR:=aA (bB Oq.out st2)
    have B2:=aA (st2.2.blk B4.out (iW Oq.out dH.out RB.out.lt))
    have lZ:=aA (HA.out.stays (B:=lab.dom) lY.out fR.out.2)
    clear q2 st2 T2 a6 k0 Q4 Oq B4 Z2
    have HO:=aA (fun (w5:World) (h5:aD w2 w5)=>kL c (lZ.out.ext h5))
    go_wp2_with (first
     | ((with_reducible refine (HO.out w2 (aD.refl _)).mono ?_);rintro e w3 ⟨A1,rfl,h1,x1⟩;have O1:=aA h1;have X1:=aA x1;clear h1 x1)
     | ((with_reducible refine (HO.out w3 X1.out).mono ?_);rintro e w4 ⟨A2,rfl,h1,x1⟩;have O2:=aA h1;have X2:=aA x1;have B4:=aA (B2.out.ext (X1.out.trans X2.out));have f0:=B4.out.frozen 0;have f1:=B4.out.frozen 1;have c0:_=some (Value.slice none 0 0):=B4.out.cell 0;have c1:_=some (Value.slice none 0 0):=B4.out.cell 1;clear h1 x1))
    have R:=(aU B4.out (.slice A1 1 1) (.slice A2 1 1))
    have r0:=R.cell 0
    have r1:=R.cell 1
    refine bodyPost_ret (v:=.tuple #[.agg #[.slice A1 1 1,.slice A2 1 1],.int .i64 0]) (by simp [results,Tryz.results128,go_sem,r0,r1]) rfl ?_
    exact vY HT.out HE.out fR.out Q2.out HR.out dH.out RB.out.lt O1.out X1.out O2.out X2.out
   |false=>
    have bR:eG (S1 K a) r=(S1 K a,false,0):=by unfold eG;rw [show aV (S1 K a).width r=true by show aV K.width r=true;rw [zeQ.out];exact HF.out,show (S1 K a).rows=a.now.live from rfl,pK];rfl
    rw [bR] at sQ
    have sQ:=aA sQ
    have ht:t=({a.now with ons:=bS r a.now.ons},[],[r],0):=by rw [← HT.out];unfold eD;rw [bE,pK];rfl
    have HT:=aA ht
    clear ht bR bE pK
    go_upto_region 11 with ((with_reducible refine sQ.out.mono ?_);rintro e w2 ⟨rfl,h2⟩;have T2:=aA (Q4.out.live (Nat.le_add_right _ 262145) h2);clear h2)
    obtain ⟨lab2,q2,st2⟩:=T2.out
    have Q2:=aA (show fD w2 lab2 K v {a with now:={a.now with ons:=bS r a.now.ons}} (S1 K {a with now:={a.now with ons:=bS r a.now.ons}}) (N+1048576) from q2.more (by omega))
    have fR:=aA (bB Oq.out st2)
    have B2:=aA (st2.2.blk B4.out (iW Oq.out dH.out RB.out.lt))
    have lZ:=aA (HA.out.stays (B:=lab.dom) lY.out fR.out.2)
    clear q2 st2 T2 a6 k0 Q4 Oq B4 Z2
    have HO:=aA (fun (w5:World) (h5:aD w2 w5)=>kL c (lZ.out.ext h5))
    go_wp2_with ((with_reducible refine (HO.out w2 (aD.refl _)).mono ?_);rintro e w4 ⟨A2,rfl,h1,x1⟩;have O2:=aA h1;have X2:=aA x1;have B4:=aA (B2.out.ext X2.out);have f0:=B4.out.frozen 0;have f1:=B4.out.frozen 1;have c0:_=some (Value.slice none 0 0):=B4.out.cell 0;have c1:_=some (Value.slice none 0 0):=B4.out.cell 1;clear h1 x1)
    have R:=(aU B4.out (.slice none 0 0) (.slice A2 1 1))
    have r0:=R.cell 0
    have r1:=R.cell 1
    refine bodyPost_ret (v:=.tuple #[.agg #[.slice none 0 0,.slice A2 1 1],.int .i64 0]) (by simp [results,Tryz.results128,go_sem,r0,r1]) rfl ?_
    exact Kv HT.out HE.out fR.out Q2.out HR.out dH.out RB.out.lt O2.out X2.out
 ·rw [if_pos rfl] at hf ⊢
  obtain ⟨t,ht⟩ : ∃ t,sideN K a.now false r=t:=⟨_,rfl⟩
  rw [ht]
  have HT:=aA ht
  have hS:(S3 K a).rows=a.now.sides∧aV (S3 K a).width r=true:=⟨rfl,hf⟩
  have HS:=aA (vB (HQ.out.r.part 3 hk) (by omega) c HA.out (fun x hx hb=>lY.out x hx ⟨3,hb⟩))
  clear ht hf
  go_enter Tryz.func128,Tryz.ntmps128
  go_upto_region 1 with fail
  generalize aT:w.alloc (.cells #[.slice none 0 0,.slice none 0 0] 38)=w1 at *
  clear gU aT
  cases bE:inB a.now.sides r with
  |false=>
   have bR:eG (S3 K a) r=(S3 K a,false,0):=by unfold eG;rw [hS.2,hS.1,bE];rfl
   rw [bR] at HS
   have ht:t=(a.now,[],[],192):=by rw [← HT.out];unfold sideN;rw [bE];rfl
   have HT:=aA ht
   clear bR bE hS ht
   go_upto_region 6 with ((with_reducible refine HS.out.mono ?_);rintro e w2 ⟨rfl,h2⟩;have T2:=aA (HQ.out.side (a':=a) hk (Nat.le_add_right N 262145) h2 rfl);clear h2)
   obtain ⟨lab2,q2,st2⟩:=T2.out
   have Q2:=aA (q2.more (by omega:N+262145≤N+1048576));have fR:=aA st2
   have B2:=aA (st2.2.blk RB.out dH.out)
   clear q2 st2 T2 k0 k1 k2
   have f0:=B2.out.frozen 0
   have f1:=B2.out.frozen 1
   have c0:_=some (Value.slice none 0 0):=B2.out.cell 0
   have c1:_=some (Value.slice none 0 0):=B2.out.cell 1
   go_wp2_with fail
   have R:=(aU B2.out (.slice none 0 0) (.slice none 0 0))
   have r0:=R.cell 0
   have r1:=R.cell 1
   refine bodyPost_ret (v:=.tuple #[.agg #[.slice none 0 0,.slice none 0 0],.int .i64 192]) (by simp [results,Tryz.results128,go_sem,r0,r1]) rfl ?_
   exact eX HT.out HE.out fR.out Q2.out HR.out dH.out RB.out.lt
  |true=>
   have bR:eG (S3 K a) r=(S3 K {a with now:={a.now with sides:=bS r a.now.sides}},true,0):=by unfold eG;rw [hS.2,hS.1,bE];rfl
   rw [bR] at HS
   have Nq:=aA (bK.1 bE)
   have ht:t=({a.now with sides:=bS r a.now.sides,live:=a.now.live.filter fun x=>!bP (aE K.side x) r},aM K a.now r,aM K a.now r,0):=by rw [← HT.out];unfold sideN;rw [bE];rfl
   have HT:=aA ht
   have za9:∀ (fn:Fn) (first cap:Array Value) (w:World),(Instr.makeFunc fn first cap).run Tryz.prog w=.ok (.func fn first cap) w:=fun _ _ _ _=>rfl
   clear bR hS ht bE
   go_upto_region 12 with ((with_reducible refine HS.out.mono ?_);rintro e w2 ⟨rfl,h2⟩;have T2:=aA (HQ.out.side (a':={a with now:={a.now with sides:=bS r a.now.sides}}) hk (Nat.le_add_right N 262145) h2 rfl);clear h2)
   obtain ⟨lab2,q2,st2⟩:=T2.out
   have Q2:=aA q2;have fR:=aA st2
   have B2:=aA (st2.2.blk RB.out dH.out)
   have lZ:=aA (HA.out.stays (B:=lab.dom) lY.out st2.2)
   have jf:=aA (iW st2 dH.out RB.out.lt)
   clear q2 st2 T2 k0 k1 k2
   have zci:=B0 yG.out HO.out r
   have zgg:=aA (Aa (a:={a with now:={a.now with sides:=bS r a.now.sides}}) (G:=fun i w B=>Qm w B v.x1 (Xd K a (aM K a.now r) i) (N+524289+i)) (key:=r) (L:=aM K a.now r) rfl Q2.out.r hk (by omega) zci (pE HO.out hk r)
    (by
     have h1:=Q2.out.s.std
     rw [Sp];exact h1)
    (fun i=>⟨fun w w' B C h hc hd=>Qm.chg h hc hd,fun w B C h hc=>Qm.mono h hc⟩)
    (fun i x wr B Ai ni ci hx hg ha hb=>by
     have hi:=(List.getElem?_eq_some_iff.1 hx).1
     have h1:=Zt hg (by omega) ci ha hb
     rw [Zc HO.out hk Nq.out hx] at h1
     refine h1.mono ?_
     rintro e w' ⟨rfl,h2⟩
     exact ⟨⟨_,rfl⟩,h2⟩)
    yG.out.inn c lZ.out)
   have a6:=Q2.out.r.rows6
   have k0:=(Q2.out.r.meet hk).1
   go_wp2_with ((with_reducible refine zgg.out.mono ?_);rintro e w3 ⟨y,lab3,rfl,r3,g3,st3,A4,c4,A5,c5,P4,P5,rfl,nM,pT,xT,xQ⟩;have M3:=aA (show cD w2.heap.size lab3.dom w3 (aM K a.now r) (aM K a.now r) _ from ⟨A4,c4,A5,c5,P4,P5,rfl,nM,pT,xT,xQ⟩);have R3:=aA r3;have G3:=aA g3;have Ot:=aA st3;have B3:=aA (st3.2.blk B2.out jf.out);have f0:=B3.out.frozen 0;have f1:=B3.out.frozen 1;have c0:_=some (Value.slice none 0 0):=B3.out.cell 0;have c1:_=some (Value.slice none 0 0):=B3.out.cell 1;clear r3 g3 st3 nM pT xT xQ)
   have R:=(aU B3.out (.slice A4 (aM K a.now r).length c4) (.slice A5 (aM K a.now r).length c5))
   have r0:=R.cell 0
   have r1:=R.cell 1
   refine bodyPost_ret (v:=.tuple #[.agg #[.slice A4 (aM K a.now r).length c4,.slice A5 (aM K a.now r).length c5],.int .i64 0]) (by simp [results,Tryz.results128,go_sem,r0,r1]) rfl ?_
   have hq:fD w3 lab3 K v {a with now:={a.now with sides:=bS r a.now.sides,live:=a.now.live.filter fun x=>!bP (aE K.side x) r}} (S1 K {a with now:={a.now with sides:=bS r a.now.sides,live:=a.now.live.filter fun x=>!bP (aE K.side x) r}}) (N+1048576):=by
    refine ⟨(R3.out.more (by omega:N+262145+1≤N+1048576)).eqv rfl rfl rfl rfl,?_⟩
    have h1:=(G3.out.sti).more (show N+524289+(aM K a.now r).length≤N+1048576 by omega)
    rw [vy HO.out hk r] at h1
    exact h1
   have bC:=RB.out.lt
   have gG:=HE.out.size
   have xC:=fR.out.2.size
   exact gD HT.out HE.out (bB fR.out Ot.out) hq HR.out dH.out bC (M3.out.weak (by omega) (by omega))
set_option maxRecDepth 100000 in
theorem X0 (h:fD w lab K v a (S1 K a) N) (hk:K.kind=3) (hN:N+2≤8796093022208) {r:List V} {A:Option Addr} {n:Nat} (c:Nat) (ha:bD w A n r) (hA:dR lab.dom A) :
 Calls Tryz.prog 131 #[.pointer (some ⟨v.k,0,none⟩),.slice A n c] w fun e w'=>e=.returned (.int .i64 (vG K a.now r))∧Iu w lab K v a (S1 K a) (N+2) w':=by
 have HS:=Mo (h.r.part 2 hk) (by omega) c ha
 rw [show (S2 K a).rows=a.now.ons from rfl] at HS
 obtain ⟨-,k1,-⟩:=h.r.meet hk
 have hs:vG K a.now r=if inB a.now.ons r then if inB a.now.live r then 2 else 1 else 0:=by unfold vG;rw [if_pos hk]
 rw [hs]
 have HA:=aA ha;have lY:=aA hA;have HQ:=aA h
 clear h ha hs hA
 cases hb:inB a.now.ons r with
 |false=>
  rw [hb] at HS
  have HS:=aA HS
  rw [if_neg (by simp)]
  clear hb
  go_enter Tryz.func131,Tryz.ntmps131
  go_wp2_with ((with_reducible refine HS.out.mono ?_);rintro e w2 ⟨rfl,h2⟩;have T2:=aA (HQ.out.source (a':=a) hk (Nat.le_add_right N 1) h2 rfl);clear h2)
  go_ret
  obtain ⟨lab2,q2,st2⟩:=T2.out
  exact ⟨rfl,lab2,q2.more (by omega),st2⟩
 |true=>
  rw [hb] at HS
  have HS:=aA HS
  rw [if_pos rfl]
  clear hb
  cases hl:inB a.now.live r with
  |false=>
   have HL:=aA hl
   rw [if_neg (by simp)]
   clear hl
   go_enter Tryz.func131,Tryz.ntmps131
   go_upto_region 3 with ((with_reducible refine HS.out.mono ?_);rintro e w2 ⟨rfl,h2⟩;have T2:=aA (HQ.out.source (a':=a) hk (Nat.le_add_right N 1) h2 rfl);clear h2)
   obtain ⟨lab2,q2,st2⟩:=T2.out
   have lZ:=HA.out.stays (B:=lab.dom) lY.out st2.2
   have zy:=qV q2 (by omega) c lZ
   rw [show inB (S1 K a).rows r=false from HL.out] at zy
   have zy:=aA zy
   have k0:=(q2.r.meet hk).1
   have fR:=aA st2
   clear q2 st2 T2 lZ k1
   go_wp2_with ((with_reducible refine zy.out.mono ?_);rintro e w3 ⟨rfl,h3⟩;have T3:=aA h3;clear h3)
   go_ret
   exact ⟨rfl,T3.out.pre fR.out⟩
  |true=>
   have HL:=aA hl
   rw [if_pos rfl]
   clear hl
   go_enter Tryz.func131,Tryz.ntmps131
   go_upto_region 3 with ((with_reducible refine HS.out.mono ?_);rintro e w2 ⟨rfl,h2⟩;have T2:=aA (HQ.out.source (a':=a) hk (Nat.le_add_right N 1) h2 rfl);clear h2)
   obtain ⟨lab2,q2,st2⟩:=T2.out
   have lZ:=HA.out.stays (B:=lab.dom) lY.out st2.2
   have zy:=qV q2 (by omega) c lZ
   rw [show inB (S1 K a).rows r=true from HL.out] at zy
   have zy:=aA zy
   have k0:=(q2.r.meet hk).1
   have fR:=aA st2
   clear q2 st2 T2 lZ k1
   go_wp2_with ((with_reducible refine zy.out.mono ?_);rintro e w3 ⟨rfl,h3⟩;have T3:=aA h3;clear h3)
   go_ret
   exact ⟨rfl,T3.out.pre fR.out⟩
end
theorem Kw {K:NK} {s:cR} {from_:Int} {r:List V} (h:xF K from_ r≠0) (on:Bool):iE K s on from_ r=(s,[],[],xF K from_ r):=by
 unfold iE
 unfold xF at h ⊢
 split
 ·rename_i h1
  rw [if_pos h1] at h
  split
  ·rename_i h2;rw [if_pos h2] at h;exact absurd rfl h
  ·rfl
 ·rename_i h1
  rw [if_neg h1] at h
  split
  ·rfl
  ·rename_i h3
   rw [if_neg h3] at h
   split
   ·rename_i h2;rw [if_pos h2] at h;exact absurd rfl h
   ·rfl
def xM (K:NK) (s:cR) (on:Bool) (from_:Int) (r:List V):rE:=
 if K.kind=2 then jG K s on (aE K.keep r) else if K.kind=3 then (if from_=2 then sideN K s on r else eD K s on r) else kM K s on r
theorem Jg {K:NK} {s:cR} {from_:Int} {r:List V} (h:xF K from_ r=0) (on:Bool):iE K s on from_ r=xM K s on from_ r∧(from_=1∨(from_=2∧K.kind=3))∧aV (if from_=2 then K.side.length else K.inn) r=true:=by
 unfold iE xM
 unfold xF at h
 by_cases h1:from_=2∧K.kind=3
 ·rw [if_pos h1] at h ⊢
  obtain ⟨rfl,hk⟩:=h1
  rw [if_neg (show ¬ K.kind=2 by omega),if_pos hk,if_pos rfl,if_pos rfl]
  by_cases h2:aV K.side.length r=true
  ·rw [if_pos h2];exact ⟨rfl,.inr ⟨rfl,hk⟩,h2⟩
  ·rw [if_neg h2] at h;cases h
 ·rw [if_neg h1] at h ⊢
  by_cases h2:from_=1
  ·subst h2
   rw [if_neg (show ¬ (1:Int)≠1 by simp)] at h ⊢
   rw [if_neg (show ¬ (1:Int)=2 by decide),if_neg (show ¬ (1:Int)=2 by decide)]
   by_cases h3:aV K.inn r=true
   ·rw [if_pos h3]
    exact ⟨rfl,.inl rfl,h3⟩
   ·rw [if_neg h3] at h;cases h
  ·rw [if_pos h2] at h;cases h
theorem Gg (v : Value) (w : World) : (method 359 117 v "osier/node.on").run Tryz.prog w = .ok (166, v) w := by kernel_rfl
theorem Dp (v : Value) (w : World) : (method 359 117 v "osier/node.off").run Tryz.prog w = .ok (165, v) w := by kernel_rfl
theorem uR (v : Value) (w : World) : (method 359 117 v "osier/node.support").run Tryz.prog w = .ok (168, v) w := by kernel_rfl
theorem xB (v : Value) (w : World) : (method 359 117 v "osier/node.stores").run Tryz.prog w = .ok (167, v) w := by kernel_rfl
theorem Hz (v : Value) (w : World) : (method 359 105 v "osier/node.on").run Tryz.prog w = .ok (161, v) w := by kernel_rfl
theorem Cy (v : Value) (w : World) : (method 359 105 v "osier/node.off").run Tryz.prog w = .ok (160, v) w := by kernel_rfl
theorem uW (v : Value) (w : World) : (method 359 105 v "osier/node.support").run Tryz.prog w = .ok (163, v) w := by kernel_rfl
theorem xH (v : Value) (w : World) : (method 359 105 v "osier/node.stores").run Tryz.prog w = .ok (162, v) w := by kernel_rfl
theorem Ik (v : Value) (w : World) : (method 359 91 v "osier/node.on").run Tryz.prog w = .ok (129, v) w := by kernel_rfl
theorem De (v : Value) (w : World) : (method 359 91 v "osier/node.off").run Tryz.prog w = .ok (128, v) w := by kernel_rfl
theorem uJ (v : Value) (w : World) : (method 359 91 v "osier/node.support").run Tryz.prog w = .ok (131, v) w := by kernel_rfl
theorem xD (v : Value) (w : World) : (method 359 91 v "osier/node.stores").run Tryz.prog w = .ok (130, v) w := by kernel_rfl
section
variable {w:World} {lab:aP} {K:NK} {v:eT} {a:aR} {N:Nat}
set_option maxRecDepth 100000 in
set_option maxHeartbeats 2000000 in
theorem yl (h:fD w lab K v a (S1 K a) N) (hK:fN K) (hO:iS K a.now) (hN:N+1048576≤8796093022208) (from_:Int) {r:List V} {A:Option Addr} {n:Nat} (c:Nat) (ha:bD w A n r) (hA:dR lab.dom A) (hB:∀ x,A=some x→x.block<w.heap.size) :
 Calls Tryz.prog 33 #[.pointer (some ⟨v.n,0,none⟩),.int .i64 from_,.slice A n c] w (kI w lab K v a (N+1048576) (iE K a.now true from_ r)):=by
 have fM:=aD.alloc w (.cells #[.slice none 0 0,.slice none 0 0] 38)
 have hq:=h.ext fM
 have RB:=aA (aL.new w 38 #[.slice none 0 0,.slice none 0 0])
 have zgO:=aA (Ef hq.r from_ c (ha.ext fM))
 have HQ:=aA hq;have HE:=aA fM;have dH:=aA (show ¬ lab.dom w.heap.size from fun ⟨i,hi⟩=>by have:=h.r.lt _ _ hi;omega)
 have rZ:=aA (fun (x:Addr) (hx:A=some x)=>Nat.lt_of_lt_of_le (hB x hx) fM.size)
 have HO:=aA hO;have HA:=aA (ha.ext fM);have lY:=aA hA;have yG:=aA hK
 clear h ha hq fM hA hO hK hB
 obtain ⟨rb,gU⟩ : ∃ rb,w.heap.size=rb:=⟨_,rfl⟩
 have HR:=aA (Nat.le_of_eq gU)
 rw [gU] at RB dH
 obtain ⟨t,ht⟩ : ∃ t,iE K a.now true from_ r=t:=⟨_,rfl⟩
 rw [ht]
 have HT:=aA ht
 clear ht
 go_enter Tryz.func33,Tryz.ntmps33
 go_upto_region 1 with fail
 generalize aT:w.alloc (.cells #[.slice none 0 0,.slice none 0 0] 38)=w1 at *
 clear gU aT
 go_upto_region 2 with ((with_reducible refine zgO.out.mono ?_);rintro e w2 ⟨rfl,h2⟩;have X2:=aA h2;clear h2)
 by_cases hz:xF K from_ r=0
 ·rw [hz]
  obtain ⟨e1,e2,e3⟩:=Jg hz true (s:=a.now)
  have Nm:=HT.out
  rw [e1] at Nm
  have Q2:=aA (HQ.out.ext X2.out)
  have lZ:=HA.out.ext X2.out
  have wE:=fun (x:Addr) (hx:A=some x)=>Nat.lt_of_lt_of_le (rZ.out x hx) X2.out.size
  have B2:=aA (RB.out.ext X2.out)
  have n1:=Q2.out.r.kind.2.1
  clear hz
  rcases yG.out.kind with hk | hk | hk
  ·have Jd:cI K=117:=by unfold cI;rw [if_neg (by omega),if_neg (by omega)]
   rw [Jd] at n1
   clear Jd
   have J5:=Gg
   have yY:from_=1:=e2.resolve_right (by omega)
   subst yY
   rw [if_neg (by decide)] at e3
   have HW:=vm Q2.out hk (by omega) 1 c lZ e3 lY.out
   rw [show kM K a.now true r=t by rw [← Nm];unfold xM;rw [if_neg (by omega),if_neg (by omega)]] at HW
   have HW:=aA HW
   clear lZ wE e1 e2 e3 Nm
   go_wp2_with ((with_reducible refine HW.out.mono ?_);rintro e w3 ⟨y,lab3,rfl,q3,st3,A4,c4,A5,c5,P4,P5,rfl,nM,pT,xT,xQ⟩;have M3:=aA (show cD w2.heap.size lab3.dom w3 t.2.1 t.2.2.1 _ from ⟨A4,c4,A5,c5,P4,P5,rfl,nM,pT,xT,xQ⟩);have Q3:=aA q3;have Ot:=aA st3;have B3:=aA (st3.2.blk B2.out dH.out);have f0:=B3.out.frozen 0;have f1:=B3.out.frozen 1;have c0:_=some (Value.slice none 0 0):=B3.out.cell 0;have c1:_=some (Value.slice none 0 0):=B3.out.cell 1;clear q3 st3 nM pT xT xQ)
   have R:=(aU B3.out (.slice A4 t.2.1.length c4) (.slice A5 t.2.2.1.length c5))
   have r0:=R.cell 0
   have r1:=R.cell 1
   refine bodyPost_ret (v:=.tuple #[.agg #[.slice A4 t.2.1.length c4,.slice A5 t.2.2.1.length c5],.int .i64 t.2.2.2]) (by simp [results,Tryz.results33,go_sem,r0,r1]) rfl ?_
   have bC:=RB.out.lt
   have gG:=HE.out.size
   have xC:=X2.out.size
   exact gD (s:=t.1) rfl HE.out (bB (cM X2.out) Ot.out) (Q3.out.more (by omega)) HR.out dH.out bC (M3.out.weak (by omega) (by omega))
  ·have Jd:cI K=105:=by unfold cI;rw [if_pos hk]
   rw [Jd] at n1
   clear Jd
   have J5:=Hz
   have yY:from_=1:=e2.resolve_right (by omega)
   subst yY
   rw [if_neg (by decide)] at e3
   have HW:=zq Q2.out yG.out HO.out hk (by omega) 1 c lZ e3
   rw [show jG K a.now true (aE K.keep r)=t by rw [← Nm];unfold xM;rw [if_pos hk]] at HW
   have HW:=aA HW
   clear lZ wE e1 e2 e3 Nm
   go_wp2_with ((with_reducible refine HW.out.mono ?_);rintro e w3 ⟨y,lab3,rfl,q3,st3,A4,c4,A5,c5,P4,P5,rfl,nM,pT,xT,xQ⟩;have M3:=aA (show cD w2.heap.size lab3.dom w3 t.2.1 t.2.2.1 _ from ⟨A4,c4,A5,c5,P4,P5,rfl,nM,pT,xT,xQ⟩);have Q3:=aA q3;have Ot:=aA st3;have B3:=aA (st3.2.blk B2.out dH.out);have f0:=B3.out.frozen 0;have f1:=B3.out.frozen 1;have c0:_=some (Value.slice none 0 0):=B3.out.cell 0;have c1:_=some (Value.slice none 0 0):=B3.out.cell 1;clear q3 st3 nM pT xT xQ)
   have R:=(aU B3.out (.slice A4 t.2.1.length c4) (.slice A5 t.2.2.1.length c5))
   have r0:=R.cell 0
   have r1:=R.cell 1
   refine bodyPost_ret (v:=.tuple #[.agg #[.slice A4 t.2.1.length c4,.slice A5 t.2.2.1.length c5],.int .i64 t.2.2.2]) (by simp [results,Tryz.results33,go_sem,r0,r1]) rfl ?_
   have bC:=RB.out.lt
   have gG:=HE.out.size
   have xC:=X2.out.size
   exact gD (s:=t.1) rfl HE.out (bB (cM X2.out) Ot.out) (Q3.out.more (by omega)) HR.out dH.out bC (M3.out.weak (by omega) (by omega))
  ·have Jd:cI K=91:=by unfold cI;rw [if_neg (by omega),if_pos hk]
   rw [Jd] at n1
   clear Jd
   have J5:=Ik
   have HW:=ξ Q2.out yG.out HO.out hk hN (e2.imp id And.left) c lZ e3 lY.out wE
   rw [show (if from_=2 then sideN K a.now true r else eD K a.now true r)=t by rw [← Nm];unfold xM;rw [if_neg (show ¬ K.kind=2 by omega),if_pos hk]] at HW
   have HW:=aA HW
   clear lZ wE e1 e2 e3 Nm
   go_wp2_with ((with_reducible refine HW.out.mono ?_);rintro e w3 ⟨y,lab3,rfl,q3,st3,A4,c4,A5,c5,P4,P5,rfl,nM,pT,xT,xQ⟩;have M3:=aA (show cD w2.heap.size lab3.dom w3 t.2.1 t.2.2.1 _ from ⟨A4,c4,A5,c5,P4,P5,rfl,nM,pT,xT,xQ⟩);have Q3:=aA q3;have Ot:=aA st3;have B3:=aA (st3.2.blk B2.out dH.out);have f0:=B3.out.frozen 0;have f1:=B3.out.frozen 1;have c0:_=some (Value.slice none 0 0):=B3.out.cell 0;have c1:_=some (Value.slice none 0 0):=B3.out.cell 1;clear q3 st3 nM pT xT xQ)
   have R:=(aU B3.out (.slice A4 t.2.1.length c4) (.slice A5 t.2.2.1.length c5))
   have r0:=R.cell 0
   have r1:=R.cell 1
   refine bodyPost_ret (v:=.tuple #[.agg #[.slice A4 t.2.1.length c4,.slice A5 t.2.2.1.length c5],.int .i64 t.2.2.2]) (by simp [results,Tryz.results33,go_sem,r0,r1]) rfl ?_
   have bC:=RB.out.lt
   have gG:=HE.out.size
   have xC:=X2.out.size
   exact gD (s:=t.1) rfl HE.out (bB (cM X2.out) Ot.out) (Q3.out.more (by omega)) HR.out dH.out bC (M3.out.weak (by omega) (by omega))
 ·have HT:=aA (show t=(a.now,[],[],xF K from_ r) from by rw [← HT.out];exact Kw hz true)
  generalize xF K from_ r=z at *
  have eO:¬ z=0:=hz
  have zkt:(z != 0)=true:=by simp [eO]
  have fR:=aA (cM (lab:=lab) X2.out)
  have Q2:=aA ((HQ.out.ext X2.out).more (Nat.le_add_right N 1048576))
  have B2:=aA (RB.out.ext X2.out)
  have f0:=B2.out.frozen 0
  have f1:=B2.out.frozen 1
  have c0:_=some (Value.slice none 0 0):=B2.out.cell 0
  have c1:_=some (Value.slice none 0 0):=B2.out.cell 1
  go_wp2_with fail
  have R:=(aU B2.out (.slice none 0 0) (.slice none 0 0))
  have r0:=R.cell 0
  have r1:=R.cell 1
  refine bodyPost_ret (v:=.tuple #[.agg #[.slice none 0 0,.slice none 0 0],.int .i64 z]) (by simp [results,Tryz.results33,go_sem,r0,r1]) rfl ?_
  exact eX HT.out HE.out fR.out Q2.out HR.out dH.out RB.out.lt
set_option maxRecDepth 100000 in
set_option maxHeartbeats 2000000 in
theorem Xr (h:fD w lab K v a (S1 K a) N) (hK:fN K) (hO:iS K a.now) (hN:N+1048576≤8796093022208) (from_:Int) {r:List V} {A:Option Addr} {n:Nat} (c:Nat) (ha:bD w A n r) (hA:dR lab.dom A) (hB:∀ x,A=some x→x.block<w.heap.size) :
 Calls Tryz.prog 35 #[.pointer (some ⟨v.n,0,none⟩),.int .i64 from_,.slice A n c] w (kI w lab K v a (N+1048576) (iE K a.now false from_ r)):=by
 have fM:=aD.alloc w (.cells #[.slice none 0 0,.slice none 0 0] 38)
 have hq:=h.ext fM
 have RB:=aA (aL.new w 38 #[.slice none 0 0,.slice none 0 0])
 have zgO:=aA (Ef hq.r from_ c (ha.ext fM))
 have HQ:=aA hq;have HE:=aA fM;have dH:=aA (show ¬ lab.dom w.heap.size from fun ⟨i,hi⟩=>by have:=h.r.lt _ _ hi;omega)
 have rZ:=aA (fun (x:Addr) (hx:A=some x)=>Nat.lt_of_lt_of_le (hB x hx) fM.size)
 have HO:=aA hO;have HA:=aA (ha.ext fM);have lY:=aA hA;have yG:=aA hK
 clear h ha hq fM hA hO hK hB
 obtain ⟨rb,gU⟩ : ∃ rb,w.heap.size=rb:=⟨_,rfl⟩
 have HR:=aA (Nat.le_of_eq gU)
 rw [gU] at RB dH
 obtain ⟨t,ht⟩ : ∃ t,iE K a.now false from_ r=t:=⟨_,rfl⟩
 rw [ht]
 have HT:=aA ht
 clear ht
 go_enter Tryz.func35,Tryz.ntmps35
 go_upto_region 1 with fail
 generalize aT:w.alloc (.cells #[.slice none 0 0,.slice none 0 0] 38)=w1 at *
 clear gU aT
 go_upto_region 2 with ((with_reducible refine zgO.out.mono ?_);rintro e w2 ⟨rfl,h2⟩;have X2:=aA h2;clear h2)
 by_cases hz:xF K from_ r=0
 ·rw [hz]
  obtain ⟨e1,e2,e3⟩:=Jg hz false (s:=a.now)
  have Nm:=HT.out
  rw [e1] at Nm
  have Q2:=aA (HQ.out.ext X2.out)
  have lZ:=HA.out.ext X2.out
  have wE:=fun (x:Addr) (hx:A=some x)=>Nat.lt_of_lt_of_le (rZ.out x hx) X2.out.size
  have B2:=aA (RB.out.ext X2.out)
  have n1:=Q2.out.r.kind.2.1
  clear hz
  rcases yG.out.kind with hk | hk | hk
  ·have Jd:cI K=117:=by unfold cI;rw [if_neg (by omega),if_neg (by omega)]
   rw [Jd] at n1
   clear Jd
   have J5:=Dp
   have yY:from_=1:=e2.resolve_right (by omega)
   subst yY
   rw [if_neg (by decide)] at e3
   have HW:=Xl Q2.out hk (by omega) 1 c lZ e3 lY.out
   rw [show kM K a.now false r=t by rw [← Nm];unfold xM;rw [if_neg (by omega),if_neg (by omega)]] at HW
   have HW:=aA HW
   clear lZ wE e1 e2 e3 Nm
   go_wp2_with ((with_reducible refine HW.out.mono ?_);rintro e w3 ⟨y,lab3,rfl,q3,st3,A4,c4,A5,c5,P4,P5,rfl,nM,pT,xT,xQ⟩;have M3:=aA (show cD w2.heap.size lab3.dom w3 t.2.1 t.2.2.1 _ from ⟨A4,c4,A5,c5,P4,P5,rfl,nM,pT,xT,xQ⟩);have Q3:=aA q3;have Ot:=aA st3;have B3:=aA (st3.2.blk B2.out dH.out);have f0:=B3.out.frozen 0;have f1:=B3.out.frozen 1;have c0:_=some (Value.slice none 0 0):=B3.out.cell 0;have c1:_=some (Value.slice none 0 0):=B3.out.cell 1;clear q3 st3 nM pT xT xQ)
   have R:=(aU B3.out (.slice A4 t.2.1.length c4) (.slice A5 t.2.2.1.length c5))
   have r0:=R.cell 0
   have r1:=R.cell 1
   refine bodyPost_ret (v:=.tuple #[.agg #[.slice A4 t.2.1.length c4,.slice A5 t.2.2.1.length c5],.int .i64 t.2.2.2]) (by simp [results,Tryz.results35,go_sem,r0,r1]) rfl ?_
   have bC:=RB.out.lt
   have gG:=HE.out.size
   have xC:=X2.out.size
   exact gD (s:=t.1) rfl HE.out (bB (cM X2.out) Ot.out) (Q3.out.more (by omega)) HR.out dH.out bC (M3.out.weak (by omega) (by omega))
  ·have Jd:cI K=105:=by unfold cI;rw [if_pos hk]
   rw [Jd] at n1
   clear Jd
   have J5:=Cy
   have yY:from_=1:=e2.resolve_right (by omega)
   subst yY
   rw [if_neg (by decide)] at e3
   have HW:=jx Q2.out yG.out HO.out hk (by omega) 1 c lZ e3
   rw [show jG K a.now false (aE K.keep r)=t by rw [← Nm];unfold xM;rw [if_pos hk]] at HW
   have HW:=aA HW
   clear lZ wE e1 e2 e3 Nm
   go_wp2_with ((with_reducible refine HW.out.mono ?_);rintro e w3 ⟨y,lab3,rfl,q3,st3,A4,c4,A5,c5,P4,P5,rfl,nM,pT,xT,xQ⟩;have M3:=aA (show cD w2.heap.size lab3.dom w3 t.2.1 t.2.2.1 _ from ⟨A4,c4,A5,c5,P4,P5,rfl,nM,pT,xT,xQ⟩);have Q3:=aA q3;have Ot:=aA st3;have B3:=aA (st3.2.blk B2.out dH.out);have f0:=B3.out.frozen 0;have f1:=B3.out.frozen 1;have c0:_=some (Value.slice none 0 0):=B3.out.cell 0;have c1:_=some (Value.slice none 0 0):=B3.out.cell 1;clear q3 st3 nM pT xT xQ)
   have R:=(aU B3.out (.slice A4 t.2.1.length c4) (.slice A5 t.2.2.1.length c5))
   have r0:=R.cell 0
   have r1:=R.cell 1
   refine bodyPost_ret (v:=.tuple #[.agg #[.slice A4 t.2.1.length c4,.slice A5 t.2.2.1.length c5],.int .i64 t.2.2.2]) (by simp [results,Tryz.results35,go_sem,r0,r1]) rfl ?_
   have bC:=RB.out.lt
   have gG:=HE.out.size
   have xC:=X2.out.size
   exact gD (s:=t.1) rfl HE.out (bB (cM X2.out) Ot.out) (Q3.out.more (by omega)) HR.out dH.out bC (M3.out.weak (by omega) (by omega))
  ·have Jd:cI K=91:=by unfold cI;rw [if_neg (by omega),if_pos hk]
   rw [Jd] at n1
   clear Jd
   have J5:=De
   have HW:=Z1 Q2.out yG.out HO.out hk hN (e2.imp id And.left) c lZ e3 lY.out wE
   rw [show (if from_=2 then sideN K a.now false r else eD K a.now false r)=t by rw [← Nm];unfold xM;rw [if_neg (show ¬ K.kind=2 by omega),if_pos hk]] at HW
   have HW:=aA HW
   clear lZ wE e1 e2 e3 Nm
   go_wp2_with ((with_reducible refine HW.out.mono ?_);rintro e w3 ⟨y,lab3,rfl,q3,st3,A4,c4,A5,c5,P4,P5,rfl,nM,pT,xT,xQ⟩;have M3:=aA (show cD w2.heap.size lab3.dom w3 t.2.1 t.2.2.1 _ from ⟨A4,c4,A5,c5,P4,P5,rfl,nM,pT,xT,xQ⟩);have Q3:=aA q3;have Ot:=aA st3;have B3:=aA (st3.2.blk B2.out dH.out);have f0:=B3.out.frozen 0;have f1:=B3.out.frozen 1;have c0:_=some (Value.slice none 0 0):=B3.out.cell 0;have c1:_=some (Value.slice none 0 0):=B3.out.cell 1;clear q3 st3 nM pT xT xQ)
   have R:=(aU B3.out (.slice A4 t.2.1.length c4) (.slice A5 t.2.2.1.length c5))
   have r0:=R.cell 0
   have r1:=R.cell 1
   refine bodyPost_ret (v:=.tuple #[.agg #[.slice A4 t.2.1.length c4,.slice A5 t.2.2.1.length c5],.int .i64 t.2.2.2]) (by simp [results,Tryz.results35,go_sem,r0,r1]) rfl ?_
   have bC:=RB.out.lt
   have gG:=HE.out.size
   have xC:=X2.out.size
   exact gD (s:=t.1) rfl HE.out (bB (cM X2.out) Ot.out) (Q3.out.more (by omega)) HR.out dH.out bC (M3.out.weak (by omega) (by omega))
 ·have HT:=aA (show t=(a.now,[],[],xF K from_ r) from by rw [← HT.out];exact Kw hz false)
  generalize xF K from_ r=z at *
  have eO:¬ z=0:=hz
  have zkt:(z != 0)=true:=by simp [eO]
  have fR:=aA (cM (lab:=lab) X2.out)
  have Q2:=aA ((HQ.out.ext X2.out).more (Nat.le_add_right N 1048576))
  have B2:=aA (RB.out.ext X2.out)
  have f0:=B2.out.frozen 0
  have f1:=B2.out.frozen 1
  have c0:_=some (Value.slice none 0 0):=B2.out.cell 0
  have c1:_=some (Value.slice none 0 0):=B2.out.cell 1
  go_wp2_with fail
  have R:=(aU B2.out (.slice none 0 0) (.slice none 0 0))
  have r0:=R.cell 0
  have r1:=R.cell 1
  refine bodyPost_ret (v:=.tuple #[.agg #[.slice none 0 0,.slice none 0 0],.int .i64 z]) (by simp [results,Tryz.results35,go_sem,r0,r1]) rfl ?_
  exact eX HT.out HE.out fR.out Q2.out HR.out dH.out RB.out.lt
end
end Go.Proofs.YtahdiiaadjdmcaaGreat
