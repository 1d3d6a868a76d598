import Derived.Test.YtahdiiaadjdmcaaGreatNgB
namespace Go.Proofs.YtahdiiaadjdmcaaGreat
open Go.RowKit
theorem mX {K:NK} (hk:K.kind=1) (v:eT):lN K=119∧jO K v = #[ptr v.l]:=by
 unfold lN jO
 rw [if_neg (by omega),if_neg (by omega),if_neg (by omega),if_neg (by omega)]
 exact ⟨rfl,rfl⟩
theorem jD.leaf {w:World} {lab:aP} {K:NK} {v:eT} {a a':aR} {N:Nat} (h:jD w lab K v a N) (hk:K.kind=1):jD w lab K v a' N:=
 ⟨h.lt,fun i=>match i,h.part i with
  | 0,hp=>hp
  | 1,_=>trivial
  | 2,_=>fun h3=>by omega
  | 3,_=>fun h3=>by omega
  | 4,_=>fun h3=>by omega
  | 5,_=>fun h3=>by omega
  | _+6,_=>trivial⟩
theorem fD.leaf {w:World} {lab:aP} {K:NK} {v:eT} {a a':aR} {S:aY} {N:Nat} (h:fD w lab K v a S N) (hk:K.kind=1):fD w lab K v a' S N:=⟨h.r.leaf hk,h.s⟩
theorem aU {w:World} {g:Nat} {t:TypeId} {x y:Value} (h:aL w g t #[x,y]) (u z:Value):aL ((w.setCell ⟨g,0,none⟩ u).setCell ⟨g,1,none⟩ z) g t #[u,z]:=(h.set_ 0 u).set_ 1 z
theorem eW (w:World) (g j:Nat) (u:Value):aF (fun b=>b=g) w (w.setCell ⟨g,j,none⟩ u):=aF.setCell (B:=fun b=>b=g) (aF.refl _ w) (p:=⟨g,j,none⟩) (.inl rfl) u
theorem fD.var {w:World} {lab:aP} {K:NK} {v:eT} {a:aR} {S:aY} {N g:Nat} (h:fD w lab K v a S N) (hg:¬ lab.dom g) (j:Nat) (u:Value):fD (w.setCell ⟨g,j,none⟩ u) lab K v a S N:=
 h.chg (eW w g j u) fun _ hb e=>hg (e ▸ hb)
theorem iK {w w2:World} {lab lab2:aP} {g:Nat} (h:eU w lab w2 lab2) (hg:w.heap.size≤g) (j:Nat) (u:Value):eU w lab (w2.setCell ⟨g,j,none⟩ u) lab2:=
 ⟨h.1,h.2.trans (eW w2 g j u) fun _ hb hl=>by omega⟩
theorem Tg {T rb:Nat} {D:Nat→Prop} {w2 w4 w5:World} {A2:Option Addr} {r:List V} (h2:eA w2.heap.size w4 A2 1 1 [r]) (hc:aF (fun b=>b=rb) w4 w5) (gU:rb<w2.heap.size) (hT:T≤w2.heap.size) (hD:∀ b,D b→b<w2.heap.size):cD T D w5 [] [r] (.agg #[.slice none 0 0,.slice A2 1 1]):=by
 have hs:=hc.size
 refine ⟨none,0,A2,1,fun _=>False,fun b=>w2.heap.size≤b∧b<w4.heap.size,rfl,gX.nil _ _,?_,fun _ h=>h.elim,fun b hb=>?_⟩
 ·exact (h2.toldA (P:=fun b=>w2.heap.size≤b∧b<w4.heap.size) fun b h h'=>⟨h,h'⟩).chg hc (fun b hb e=>by omega) fun _ h=>h
 ·rcases hb with hb | hb
  ·exact hb.elim
  ·exact ⟨by omega,by omega,fun hd=>by have:=hD b hd;omega⟩
theorem Sz {T rb:Nat} {D:Nat→Prop} {w2 w3 w4 w5:World} {A1 A2:Option Addr} {r:List V} (h1:eA w2.heap.size w3 A1 1 1 [r]) (x34:aD w3 w4) (h2:eA w3.heap.size w4 A2 1 1 [r]) (hc:aF (fun b=>b=rb) w4 w5) (gU:rb<w2.heap.size) (x23:w2.heap.size≤w3.heap.size) (hT:T≤w2.heap.size) (hD:∀ b,D b→b<w2.heap.size):cD T D w5 [r] [r] (.agg #[.slice A1 1 1,.slice A2 1 1]):=by
 have hs:=hc.size
 have xC:=x34.size
 refine ⟨A1,1,A2,1,fun b=>w2.heap.size≤b∧b<w3.heap.size,fun b=>w3.heap.size≤b∧b<w4.heap.size,rfl,?_,?_,fun b h h'=>by omega,fun b hb=>?_⟩
 ·exact ((h1.toldA (P:=fun b=>w2.heap.size≤b∧b<w3.heap.size) fun b h h'=>⟨h,h'⟩).ext x34).chg hc (fun b hb e=>by omega) fun _ h=>h
 ·exact (h2.toldA (P:=fun b=>w3.heap.size≤b∧b<w4.heap.size) fun b h h'=>⟨h,h'⟩).chg hc (fun b hb e=>by omega) fun _ h=>h
 ·rcases hb with hb | hb
  ·exact ⟨by omega,by omega,fun hd=>by have:=hD b hd;omega⟩
  ·exact ⟨by omega,by omega,fun hd=>by have:=hD b hd;omega⟩
theorem fD.dom {w:World} {lab:aP} {K:NK} {v:eT} {a:aR} {S:aY} {N:Nat} (h:fD w lab K v a S N):∀ b,lab.dom b→b<w.heap.size:=fun b ⟨i,hi⟩=>h.r.lt b i hi
theorem iW {w1 w2:World} {lab lab2:aP} {rb:Nat} (st:eU w1 lab w2 lab2) (hd:¬ lab.dom rb) (bC:rb<w1.heap.size):¬ lab2.dom rb:=fun h=>(st.1 rb h).elim hd fun h=>by omega
theorem eX {w w1 w2:World} {lab lab2:aP} {K:NK} {v:eT} {a:aR} {N rb:Nat} {z:Int} {t:rE} (ht:t=(a.now,[],[],z)) (x1:aD w w1) (st:eU w1 lab w2 lab2) (q:fD w2 lab2 K v a (S1 K a) N) (gU:w.heap.size≤rb) (hd:¬ lab.dom rb) (bC:rb<w1.heap.size) :
 kI w lab K v a N t (.returned (.tuple #[.agg #[.slice none 0 0,.slice none 0 0],.int .i64 z])) ((w2.setCell ⟨rb,0,none⟩ (.slice none 0 0)).setCell ⟨rb,1,none⟩ (.slice none 0 0)):=by
 subst ht
 have hf:=iW st hd bC
 exact ⟨_,lab2,rfl,(q.var hf 0 _).var hf 1 _,iK (iK (bB (cM x1) st) gU 0 _) gU 1 _,cD.nil _ _ _⟩
theorem Kv {w w1 w2 w4:World} {lab lab2:aP} {K:NK} {v:eT} {a:aR} {N rb:Nat} {s:cR} {r:List V} {t:rE} {A2:Option Addr} (ht:t=(s,[],[r],0)) (x1:aD w w1) (st:eU w1 lab w2 lab2) (q:fD w2 lab2 K v {a with now:=s} (S1 K {a with now:=s}) N) (gU:w.heap.size≤rb) (hd:¬ lab.dom rb) (bC:rb<w1.heap.size)
 (h2:eA w2.heap.size w4 A2 1 1 [r]) (x24:aD w2 w4) :
 kI w lab K v a N t (.returned (.tuple #[.agg #[.slice none 0 0,.slice A2 1 1],.int .i64 0])) ((w4.setCell ⟨rb,0,none⟩ (.slice none 0 0)).setCell ⟨rb,1,none⟩ (.slice A2 1 1)):=by
 subst ht
 have hf:=iW st hd bC
 have xC:=st.2.size
 exact ⟨_,lab2,rfl,((q.ext x24).var hf 0 _).var hf 1 _,iK (iK (eV (bB (cM x1) st) x24) gU 0 _) gU 1 _,
  Tg h2 ((eW w4 rb 0 _).trans' (eW _ rb 1 _)) (by omega) (by have:=x1.size;omega) q.dom⟩
theorem vY {w w1 w2 w3 w4:World} {lab lab2:aP} {K:NK} {v:eT} {a:aR} {N rb:Nat} {s:cR} {r:List V} {t:rE} {A1 A2:Option Addr} (ht:t=(s,[r],[r],0)) (x1:aD w w1) (st:eU w1 lab w2 lab2) (q:fD w2 lab2 K v {a with now:=s} (S1 K {a with now:=s}) N) (gU:w.heap.size≤rb) (hd:¬ lab.dom rb) (bC:rb<w1.heap.size)
 (h1:eA w2.heap.size w3 A1 1 1 [r]) (x23:aD w2 w3) (h2:eA w3.heap.size w4 A2 1 1 [r]) (x34:aD w3 w4) :
 kI w lab K v a N t (.returned (.tuple #[.agg #[.slice A1 1 1,.slice A2 1 1],.int .i64 0])) ((w4.setCell ⟨rb,0,none⟩ (.slice A1 1 1)).setCell ⟨rb,1,none⟩ (.slice A2 1 1)):=by
 subst ht
 have hf:=iW st hd bC
 have xC:=st.2.size
 exact ⟨_,lab2,rfl,((q.ext (x23.trans x34)).var hf 0 _).var hf 1 _,iK (iK (eV (bB (cM x1) st) (x23.trans x34)) gU 0 _) gU 1 _,
  Sz h1 x34 h2 ((eW w4 rb 0 _).trans' (eW _ rb 1 _)) (by omega) x23.size (by have:=x1.size;omega) q.dom⟩
section
variable {w:World} {lab:aP} {K:NK} {v:eT} {a:aR} {N:Nat}
set_option maxRecDepth 100000 in
set_option maxHeartbeats 1000000 in
theorem vm (h:fD w lab K v a (S1 K a) N) (hk:K.kind=1) (hN:N+262145≤8796093022208) (from_:Int) {r:List V} {A:Option Addr} {n:Nat} (c:Nat) (ha:bD w A n r) (hf:aV K.inn r=true) (hA:dR lab.dom A) :
 Calls Tryz.prog 166 #[.pointer (some ⟨v.k,0,none⟩),.int .i64 from_,.slice A n c] w (kI w lab K v a (N+262145) (kM K a.now true r)):=by
 have fM:=aD.alloc w (.cells #[.slice none 0 0,.slice none 0 0] 38)
 have hq:=h.ext fM
 have HS:=aA (Bt hq.s hN c (ha.ext fM) (fun x hx hb=>hA x hx ⟨1,hb⟩))
 have RB:=aA (aL.new w 38 #[.slice none 0 0,.slice none 0 0])
 have hw:=mX hk v
 have k0:=hq.r.wk.cell 0
 rw [hw.2] at k0
 have k0:(w.alloc (.cells #[.slice none 0 0,.slice none 0 0] 38)).cell? ⟨v.k,0,none⟩=some (.pointer (some ⟨v.l,0,none⟩)):=k0
 have a6:=hq.r.rows6
 have dW:aV (S1 K a).width r=true:=by unfold S1 NK.width;rw [if_neg (by omega)];exact hf
 have HQ:=aA hq;have HA:=aA (ha.ext fM);have HE:=aA fM;have dH:=aA (show ¬ lab.dom w.heap.size from fun ⟨i,hi⟩=>by have:=h.r.lt _ _ hi;omega)
 have Xt:=aA ha;have lY:=aA hA
 clear h ha hA hq hw hf fM
 have hS:(S1 K a).rows=a.now.live∧(S1 K a).most=K.most:=⟨rfl,rfl⟩
 obtain ⟨t,ht⟩ : ∃ t,kM K a.now true r=t:=⟨_,rfl⟩
 rw [ht]
 have HT:=aA ht
 obtain ⟨rb,gU⟩ : ∃ rb,w.heap.size=rb:=⟨_,rfl⟩
 have HR:=aA (Nat.le_of_eq gU)
 rw [gU] at RB dH
 clear ht
 go_enter Tryz.func166,Tryz.ntmps166
 go_upto_region 1 with fail
 generalize aT:w.alloc (.cells #[.slice none 0 0,.slice none 0 0] 38)=w1 at *
 clear gU aT
 cases bE:inB a.now.live r with
 |true=>
  have bR:fP (S1 K a) r=(S1 K a,false,0):=by unfold fP;rw [dW,hS.1,bE];rfl
  rw [bR] at HS
  have ht:t=(a.now,[],[],191):=by rw [← HT.out];unfold kM;rw [bE];rfl
  have HT:=aA ht
  clear bR bE hS dW ht
  go_upto_region 5 with ((with_reducible refine HS.out.mono ?_);rintro e w2 ⟨rfl,h2⟩;have T2:=aA (HQ.out.live (Nat.le_add_right N 262145) h2);clear h2)
  obtain ⟨lab2,q2,st2⟩:=T2.out
  have Q2:=aA q2;have fR:=aA st2
  have B2:=aA (st2.2.blk RB.out dH.out)
  clear q2 st2 T2
  have f0:=B2.out.frozen 0
  have f1:=B2.out.frozen 1
  have c0:_=some (Value.slice none 0 0):=B2.out.cell 0
  have c1:_=some (Value.slice none 0 0):=B2.out.cell 1
  go_wp2_with fail
  have R:=(aU B2.out (.slice none 0 0) (.slice none 0 0))
  have r0:=R.cell 0
  have r1:=R.cell 1
  refine bodyPost_ret (v:=.tuple #[.agg #[.slice none 0 0,.slice none 0 0],.int .i64 191]) (by simp [results,Tryz.results166,go_sem,r0,r1]) rfl ?_
  exact eX HT.out HE.out fR.out Q2.out HR.out dH.out RB.out.lt
 |false=>
  by_cases hm:a.now.live.length<K.most
  ·have bR:fP (S1 K a) r=({S1 K a with rows:=a.now.live ++ [r]},true,0):=by unfold fP;rw [dW,hS.1,bE,hS.2,if_pos hm];rfl
   rw [bR] at HS
   have ht:t=({a.now with ons:=a.now.ons ++ [r],live:=a.now.live ++ [r]},[r],[r],0):=by rw [← HT.out];unfold kM;rw [bE,if_pos hm];rfl
   have HT:=aA ht
   clear bR bE hS dW ht hm
   go_upto_region 6 with ((with_reducible refine HS.out.mono ?_);rintro e w2 ⟨rfl,h2⟩;have T2:=aA (HQ.out.live (Nat.le_add_right N 262145) h2);clear h2)
   obtain ⟨lab2,q2,st2⟩:=T2.out
   have Q2:=aA (show fD w2 lab2 K v {a with now:={a.now with ons:=a.now.ons ++ [r],live:=a.now.live ++ [r]}} (S1 K {a with now:={a.now with ons:=a.now.ons ++ [r],live:=a.now.live ++ [r]}}) (N+262145) from q2.leaf hk);have fR:=aA st2
   have B2:=aA (st2.2.blk RB.out dH.out)
   have lZ:=aA (HA.out.stays (B:=lab.dom) lY.out st2.2)
   clear q2 st2 T2
   have HO:=aA (fun (w5:World) (h5:aD w2 w5)=>kL c (lZ.out.ext h5))
   go_wp2_with (first
    | ((with_reducible refine (HO.out w2 (aD.refl _)).mono ?_);rintro e w3 ⟨A1,rfl,h1,x1⟩;have O1:=aA h1;have X1:=aA x1;clear h1 x1)
    | ((with_reducible refine (HO.out w3 X1.out).mono ?_);rintro e w4 ⟨A2,rfl,h1,x1⟩;have O2:=aA h1;have X2:=aA x1;have B4:=aA (B2.out.ext (X1.out.trans X2.out));have f0:=B4.out.frozen 0;have f1:=B4.out.frozen 1;have c0:_=some (Value.slice none 0 0):=B4.out.cell 0;have c1:_=some (Value.slice none 0 0):=B4.out.cell 1;clear h1 x1))
   have R:=(aU B4.out (.slice A1 1 1) (.slice A2 1 1))
   have r0:=R.cell 0
   have r1:=R.cell 1
   refine bodyPost_ret (v:=.tuple #[.agg #[.slice A1 1 1,.slice A2 1 1],.int .i64 0]) (by simp [results,Tryz.results166,go_sem,r0,r1]) rfl ?_
   exact vY HT.out HE.out fR.out Q2.out HR.out dH.out RB.out.lt O1.out X1.out O2.out X2.out
  ·have bR:fP (S1 K a) r=(S1 K a,false,31):=by unfold fP;rw [dW,hS.1,bE,hS.2,if_neg hm];rfl
   rw [bR] at HS
   have ht:t=(a.now,[],[],31):=by rw [← HT.out];unfold kM;rw [bE,if_neg hm];rfl
   have HT:=aA ht
   clear bR bE hS dW ht hm
   go_upto_region 3 with ((with_reducible refine HS.out.mono ?_);rintro e w2 ⟨rfl,h2⟩;have T2:=aA (HQ.out.live (Nat.le_add_right N 262145) h2);clear h2)
   obtain ⟨lab2,q2,st2⟩:=T2.out
   have Q2:=aA q2;have fR:=aA st2
   have B2:=aA (st2.2.blk RB.out dH.out)
   clear q2 st2 T2
   have f0:=B2.out.frozen 0
   have f1:=B2.out.frozen 1
   have c0:_=some (Value.slice none 0 0):=B2.out.cell 0
   have c1:_=some (Value.slice none 0 0):=B2.out.cell 1
   go_wp2_with fail
   have R:=(aU B2.out (.slice none 0 0) (.slice none 0 0))
   have r0:=R.cell 0
   have r1:=R.cell 1
   refine bodyPost_ret (v:=.tuple #[.agg #[.slice none 0 0,.slice none 0 0],.int .i64 31]) (by simp [results,Tryz.results166,go_sem,r0,r1]) rfl ?_
   exact eX HT.out HE.out fR.out Q2.out HR.out dH.out RB.out.lt
set_option maxRecDepth 100000 in
set_option maxHeartbeats 1000000 in
theorem Xl (h:fD w lab K v a (S1 K a) N) (hk:K.kind=1) (hN:N+262145≤8796093022208) (from_:Int) {r:List V} {A:Option Addr} {n:Nat} (c:Nat) (ha:bD w A n r) (hf:aV K.inn r=true) (hA:dR lab.dom A) :
 Calls Tryz.prog 165 #[.pointer (some ⟨v.k,0,none⟩),.int .i64 from_,.slice A n c] w (kI w lab K v a (N+262145) (kM K a.now false r)):=by
 have fM:=aD.alloc w (.cells #[.slice none 0 0,.slice none 0 0] 38)
 have hq:=h.ext fM
 have HS:=aA (vB hq.s hN c (ha.ext fM) (fun x hx hb=>hA x hx ⟨1,hb⟩))
 have RB:=aA (aL.new w 38 #[.slice none 0 0,.slice none 0 0])
 have hw:=mX hk v
 have k0:=hq.r.wk.cell 0
 rw [hw.2] at k0
 have k0:(w.alloc (.cells #[.slice none 0 0,.slice none 0 0] 38)).cell? ⟨v.k,0,none⟩=some (.pointer (some ⟨v.l,0,none⟩)):=k0
 have a6:=hq.r.rows6
 have dW:aV (S1 K a).width r=true:=by unfold S1 NK.width;rw [if_neg (by omega)];exact hf
 have HQ:=aA hq;have HA:=aA (ha.ext fM);have HE:=aA fM;have dH:=aA (show ¬ lab.dom w.heap.size from fun ⟨i,hi⟩=>by have:=h.r.lt _ _ hi;omega)
 have Xt:=aA ha;have lY:=aA hA
 clear h ha hA hq hw hf fM
 have hS:(S1 K a).rows=a.now.live∧(S1 K a).most=K.most:=⟨rfl,rfl⟩
 obtain ⟨t,ht⟩ : ∃ t,kM K a.now false r=t:=⟨_,rfl⟩
 rw [ht]
 have HT:=aA ht
 obtain ⟨rb,gU⟩ : ∃ rb,w.heap.size=rb:=⟨_,rfl⟩
 have HR:=aA (Nat.le_of_eq gU)
 rw [gU] at RB dH
 clear ht
 go_enter Tryz.func165,Tryz.ntmps165
 go_upto_region 1 with fail
 generalize aT:w.alloc (.cells #[.slice none 0 0,.slice none 0 0] 38)=w1 at *
 clear gU aT
 cases bE:inB a.now.live r with
 |false=>
  have bR:eG (S1 K a) r=(S1 K a,false,0):=by unfold eG;rw [dW,hS.1,bE];rfl
  rw [bR] at HS
  have ht:t=(a.now,[],[],192):=by rw [← HT.out];unfold kM;rw [bE];rfl
  have HT:=aA ht
  clear bR bE hS dW ht
  go_upto_region 3 with ((with_reducible refine HS.out.mono ?_);rintro e w2 ⟨rfl,h2⟩;have T2:=aA (HQ.out.live (Nat.le_add_right N 262145) h2);clear h2)
  obtain ⟨lab2,q2,st2⟩:=T2.out
  have Q2:=aA q2;have fR:=aA st2
  have B2:=aA (st2.2.blk RB.out dH.out)
  clear q2 st2 T2
  have f0:=B2.out.frozen 0
  have f1:=B2.out.frozen 1
  have c0:_=some (Value.slice none 0 0):=B2.out.cell 0
  have c1:_=some (Value.slice none 0 0):=B2.out.cell 1
  go_wp2_with fail
  have R:=(aU B2.out (.slice none 0 0) (.slice none 0 0))
  have r0:=R.cell 0
  have r1:=R.cell 1
  refine bodyPost_ret (v:=.tuple #[.agg #[.slice none 0 0,.slice none 0 0],.int .i64 192]) (by simp [results,Tryz.results165,go_sem,r0,r1]) rfl ?_
  exact eX HT.out HE.out fR.out Q2.out HR.out dH.out RB.out.lt
 |true=>
  have bR:eG (S1 K a) r=({S1 K a with rows:=bS r a.now.live},true,0):=by unfold eG;rw [dW,hS.1,bE];rfl
  rw [bR] at HS
  have ht:t=({a.now with ons:=bS r a.now.ons,live:=bS r a.now.live},[r],[r],0):=by rw [← HT.out];unfold kM;rw [bE];rfl
  have HT:=aA ht
  clear bR bE hS dW ht
  go_upto_region 4 with ((with_reducible refine HS.out.mono ?_);rintro e w2 ⟨rfl,h2⟩;have T2:=aA (HQ.out.live (Nat.le_add_right N 262145) h2);clear h2)
  obtain ⟨lab2,q2,st2⟩:=T2.out
  have Q2:=aA (show fD w2 lab2 K v {a with now:={a.now with ons:=bS r a.now.ons,live:=bS r a.now.live}} (S1 K {a with now:={a.now with ons:=bS r a.now.ons,live:=bS r a.now.live}}) (N+262145) from q2.leaf hk);have fR:=aA st2
  have B2:=aA (st2.2.blk RB.out dH.out)
  have lZ:=aA (HA.out.stays (B:=lab.dom) lY.out st2.2)
  clear q2 st2 T2
  have HO:=aA (fun (w5:World) (h5:aD w2 w5)=>kL c (lZ.out.ext h5))
  go_wp2_with (first
   | ((with_reducible refine (HO.out w2 (aD.refl _)).mono ?_);rintro e w3 ⟨A1,rfl,h1,x1⟩;have O1:=aA h1;have X1:=aA x1;clear h1 x1)
   | ((with_reducible refine (HO.out w3 X1.out).mono ?_);rintro e w4 ⟨A2,rfl,h1,x1⟩;have O2:=aA h1;have X2:=aA x1;have B4:=aA (B2.out.ext (X1.out.trans X2.out));have f0:=B4.out.frozen 0;have f1:=B4.out.frozen 1;have c0:_=some (Value.slice none 0 0):=B4.out.cell 0;have c1:_=some (Value.slice none 0 0):=B4.out.cell 1;clear h1 x1))
  have R:=(aU B4.out (.slice A1 1 1) (.slice A2 1 1))
  have r0:=R.cell 0
  have r1:=R.cell 1
  refine bodyPost_ret (v:=.tuple #[.agg #[.slice A1 1 1,.slice A2 1 1],.int .i64 0]) (by simp [results,Tryz.results165,go_sem,r0,r1]) rfl ?_
  exact vY HT.out HE.out fR.out Q2.out HR.out dH.out RB.out.lt O1.out X1.out O2.out X2.out
set_option maxRecDepth 100000 in
theorem Z5 (h:fD w lab K v a (S1 K a) N) (hk:K.kind=1) (hN:N+262145≤8796093022208) {r:List V} {A:Option Addr} {n:Nat} (c:Nat) (ha:bD w A n r) :
 Calls Tryz.prog 168 #[.pointer (some ⟨v.k,0,none⟩),.slice A n c] w fun e w'=>e=.returned (.int .i64 (vG K a.now r))∧Iu w lab K v a (S1 K a) (N+1) w':=by
 have HS:=aA (qV h (by omega) c ha)
 have hw:=mX hk v
 have k0:=h.r.wk.cell 0
 rw [hw.2] at k0
 have k0:w.cell? ⟨v.k,0,none⟩=some (.pointer (some ⟨v.l,0,none⟩)):=k0
 have hs:vG K a.now r=if inB a.now.live r then 1 else 0:=by unfold vG;rw [if_neg (show ¬ K.kind=3 by omega),if_neg (show ¬ K.kind=2 by omega)]
 rw [hs]
 have e1:inB (S1 K a).rows r=inB a.now.live r:=rfl
 rw [e1] at HS
 clear h ha hw hs e1
 cases hb:inB a.now.live r with
 |true=>
  rw [hb] at HS
  rw [if_pos rfl]
  clear hb
  go_enter Tryz.func168,Tryz.ntmps168
  go_wp2_with ((with_reducible refine HS.out.mono ?_);rintro e w2 ⟨rfl,h2⟩;have S2:=aA h2;clear h2)
  go_ret
  exact ⟨rfl,S2.out⟩
 |false=>
  rw [hb] at HS
  rw [if_neg (by simp)]
  clear hb
  go_enter Tryz.func168,Tryz.ntmps168
  go_wp2_with ((with_reducible refine HS.out.mono ?_);rintro e w2 ⟨rfl,h2⟩;have S2:=aA h2;clear h2)
  go_ret
  exact ⟨rfl,S2.out⟩
end
end Go.Proofs.YtahdiiaadjdmcaaGreat
namespace Go.Proofs.YtahdiiaadjdmcaaGreat
open Go.RowKit
theorem eI {K:NK} (hk:K.kind=2) (v:eT):lN K=110∧jO K v = #[ptr v.l,.map (some v.m1),v.m2]:=by
 unfold lN jO
 rw [if_pos hk,if_pos hk]
 exact ⟨rfl,rfl⟩
theorem Y9 {w:World} (t e:TypeId) (ht:Tryz.prog.underlying t=some (.map 9 e)) {z:Value} (hz:∀ w,(zeroValue e).run Tryz.prog w=.ok z w) {b n:Nat} {σ:lX} (h:jB w b n σ) {k:ByteArray} (hk:k.size≤maxLen) :
 (Instr.lookup t (.map (some b)) (.string k) false).run Tryz.prog w=.ok ((σ k).getD z) w:=by
 obtain ⟨D,h1,h2⟩:=h
 obtain ⟨v,ps,rG,hv⟩:=h1.lookup Nh ht (hz w) (zd:=.held z) (zp:=[]) rfl (Hn hk)
 have hv':DataW.held v=D.atKey (r8 k) (.held z):=by simpa [nO] using congrArg (fun o=>o.map Prod.fst) hv
 cases hs:σ k with
 |none=>
  have:=Maps.atKey_of_not_has (D:=D) (k:=r8 k) (by rw [(h2 k).1,hs];rfl) (.held z)
  rw [this] at hv'
  obtain rfl:=DataW.held.inj hv'
  exact rG
 |some u=>
  rw [(h2 k).2 u hs] at hv'
  obtain rfl:=DataW.held.inj hv'
  exact rG
theorem oO (r:List V):(n8 (pk r)).size≤maxLen:=by
 have h:=vD r
 have e:(n8 (pk r)).size=(pk r).length:=rfl
 rw [e];unfold maxLen;omega
section
variable {w:World} {lab:aP} {K:NK} {v:eT} {a:aR} {N:Nat}
theorem jD.keep {w:World} {lab:aP} {K:NK} {v:eT} {a:aR} {N:Nat} (h:jD w lab K v a N):cB w v.kA K.keep.length (K.keep.map Int.ofNat):=(h.part 0).2.2.2.1.1
theorem jD.sideN {w:World} {lab:aP} {K:NK} {v:eT} {a:aR} {N:Nat} (h:jD w lab K v a N):cB w v.sA K.side.length (K.side.map Int.ofNat):=(h.part 0).2.2.2.2.1.1
set_option maxRecDepth 100000 in
theorem Ke (h:jD w lab K v a N) (hK:fN K) (hk:K.kind=2) {r:List V} {A:Option Addr} {n:Nat} (c:Nat) (ha:bD w A n r) (hf:aV K.inn r=true) :
 Calls Tryz.prog 164 #[.pointer (some ⟨v.k,0,none⟩),.slice A n c] w fun e w'=>∃ A' c',e=.returned (.tuple #[.slice A' (aE K.keep r).length c',.string (n8 (pk (aE K.keep r)))])∧bD w' A' (aE K.keep r).length (aE K.keep r)∧(∀ a,A'=some a→w.heap.size≤a.block)∧aD w w':=by
 have HP:=zT r (K.keep.map Int.ofNat) A v.kA n K.keep.length c v.kC w ha.at_ h.keep ha.len (by have:=hK.keep.1;omega)
 have j2:=i7 hf ha.small ha.wf hK.keep.1 hK.keep.2
 have hw:=eI hk v
 have k0:=h.wk.cell 0
 rw [hw.2] at k0
 have k0:w.cell? ⟨v.k,0,none⟩=some (.pointer (some ⟨v.l,0,none⟩)):=k0
 have l2:=h.kind.2.2.2.2.1
 have HP:=aA HP;have HK:=aA j2
 have cZ:=aA (show (aE K.keep r).length≤1048576 from by rw [j2.len];have:=hK.keep.1;omega)
 have zkZ:=aA (show (dZ r (K.keep.map Int.ofNat)).1=aE K.keep r from rfl)
 clear h ha hw hf j2
 rw [show (aE K.keep r)=(dZ r (K.keep.map Int.ofNat)).1 from rfl] at *
 generalize dZ r (K.keep.map Int.ofNat)=res at *
 obtain ⟨own,z⟩:=res
 try dsimp only at *
 go_enter Tryz.func164,Tryz.ntmps164
 go_upto_region 2 with ((with_reducible refine HP.out.mono ?_);rintro e w2 ⟨A2,c2,rfl,h2,x2⟩;have O2:=aA h2;have X2:=aA x2;clear h2 x2)
 try dsimp only at *
 have zjd:=aA (Ab own A2 own.length c2 w2 (aW.own O2.out) cZ.out HK.out.small HK.out.wf)
 go_upto_region 3 with ((with_reducible refine zjd.out.mono ?_);rintro e w3 ⟨A3,c3,rfl,h3,x3⟩;have O3:=aA h3;have X3:=aA x3;clear h3 x3)
 have zbj:∀ w9,aD w3 w9→(convert 155 9 (.slice A3 (iQ own).1.length c3)).run Tryz.prog w9=.ok (.string (n8 (pk own))) w9:=fun w9 h9=>vM (k:=pk own) ((Sl.own O3.out).ext h9) c3
 refine aC 5 (by kernel_rfl) (by kernel_rfl) (by kernel_rfl) ?_
 iterate 5
  refine aK (by kernel_rfl) (by kernel_rfl) ?_
  apply Exists.intro
  refine ⟨fun w1 aT=>?_,fun K hK=>?_⟩
  ·go_simp;first | done | rfl
  go_simp;refine hK _ _ ?_;clear hK K
 refine aH ⟨rfl,by kernel_rfl,fun w4 hw4=>?_⟩
 simp only [bL]
 refine wpList_nil ?_
 have X4:=aA hw4
 clear hw4 zbj
 go_wp2_with fail
 go_ret2
 have hx:=X3.out.trans X4.out
 exact ⟨A2,c2,rfl,⟨(aW.own O2.out).ext hx,cZ.out,HK.out.small,HK.out.wf⟩,wC O2.out,X2.out.trans hx⟩
end
end Go.Proofs.YtahdiiaadjdmcaaGreat
namespace Go.Proofs.YtahdiiaadjdmcaaGreat
open Go.RowKit Classical
theorem yL.inj {k:Nat} {r q:List V} (hr:yL k r) (hq:yL k q) (h:n8 (pk r)=n8 (pk q)):r=q:=by
 have h1:=hr.1
 have h2:=hq.1
 unfold aV at h1 h2
 rw [Bool.and_eq_true] at h1 h2
 exact Ba h1.2 hr.2.2 h2.2 hq.2.2 (Yd h)
theorem gB.put {w':World} {B:Nat→Prop} {K:NK} {b N:Nat} {s s':cR} {own:List V} {c n:Nat} {σ:lX} (hb:B b) (hn:n≤N) (hm:jB w' b n (σ.put (n8 (pk own)) (.int .i64 (c:Int)))) (hs:∀ x,yL K.width x→σ (n8 (pk x))=if bY s.ons s.cnt x=0 then none else some (.int .i64 (bY s.ons s.cnt x:Nat)))
 (cH:yL K.width own) (hc:1≤c) (h:∀ x,bY s'.ons s'.cnt x=if x=own then c else bY s.ons s.cnt x):gB w' B K b N s':=by
 refine ⟨hb,n,_,hn,hm,fun x hx=>?_⟩
 rw [h x]
 unfold lX.put
 by_cases e:x=own
 ·rw [if_pos e,e,if_pos rfl,if_neg (by omega)]
 ·rw [if_neg e,if_neg (fun e2=>e (yL.inj hx cH e2))]
  exact hs x hx
theorem gB.del {w':World} {B:Nat→Prop} {K:NK} {b N:Nat} {s s':cR} {own:List V} {n:Nat} {σ:lX} (hb:B b) (hn:n≤N) (hm:jB w' b n (σ.del (n8 (pk own)))) (hs:∀ x,yL K.width x→σ (n8 (pk x))=if bY s.ons s.cnt x=0 then none else some (.int .i64 (bY s.ons s.cnt x:Nat)))
 (cH:yL K.width own) (h:∀ x,bY s'.ons s'.cnt x=if x=own then 0 else bY s.ons s.cnt x):gB w' B K b N s':=by
 refine ⟨hb,n,_,hn,hm,fun x hx=>?_⟩
 rw [h x]
 unfold lX.del
 by_cases e:x=own
 ·rw [if_pos e,e,if_pos rfl];rfl
 ·rw [if_neg e,if_neg (fun e2=>e (yL.inj hx cH e2))]
  exact hs x hx
theorem fD.count {w w':World} {lab:aP} {K:NK} {v:eT} {a a':aR} {S:aY} {N M:Nat} (h:fD w lab K v a S N) (hk:K.kind=2) (hM:N≤M) (ho:a'.old=a.old) (hC:aF (lab.own 4) w w') (hc:gB w' (lab.own 4) K v.m1 M a'.now):∃ lab',fD w' lab' K v a' S M∧eU w lab w' lab'∧∀ b,lab'.dom b→lab.dom b:=by
 have key:∀ i,i≠4→jF w' (lab.own i) K v a N i→jF w' (lab.own i) K v a' M i:=fun i hi hp=>by
  have hp:=dV (fun _ h=>h) hM i hp
  match i,hi,hp with
  | 0,_,hp=>exact hp
  | 1,_,hp=>exact trivial
  | 2,_,hp=>exact fun h3=>by omega
  | 3,_,hp=>exact fun h3=>by omega
  | 4,hi,_=>exact absurd rfl hi
  | 5,_,hp=>exact fun h2=>by rw [ho];exact hp h2
  | _+6,_,hp=>exact trivial
 obtain ⟨lab',r1,r2,r3,r4,r5⟩:=h.r.turn 4 (v':=v) (a':=a') (N':=M) (fun _ hb=>.inl hb) (fun _ hb=>Nat.lt_of_lt_of_le (h.r.lt _ 4 hb) hC.size) hC key (fun _=>hc)
 exact ⟨lab',⟨r1,by rw [r3 1 (by decide)];exact (h.s.chg hC (iA (by decide))).more hM⟩,r5,fun b hb=>(r4 b hb).elim id fun h=>⟨4,h⟩⟩
theorem cD.chg {T:Nat} {D D' C:Nat→Prop} {w w':World} {F U:List (List V)} {y:Value} (h:cD T D w F U y) (hw:aF C w w') (hC:∀ b,b<w.heap.size→C b→D b) (hD:∀ b,b<w.heap.size→D' b→D b):cD T D' w' F U y:=by
 obtain ⟨A,c,A2,c2,P,Q,e,h1,h2,h3,h4⟩:=h
 have hs:=hw.size
 refine ⟨A,c,A2,c2,P,Q,e,h1.chg hw (fun b hb hc=>?_) fun _ h=>h,h2.chg hw (fun b hb hc=>?_) fun _ h=>h,h3,fun b hb=>?_⟩
 ·have:=h4 b (.inl hb);exact this.2.2 (hC b this.2.1 hc)
 ·have:=h4 b (.inr hb);exact this.2.2 (hC b this.2.1 hc)
 ·have:=h4 b hb;exact ⟨this.1,by omega,fun hd=>this.2.2 (hD b this.2.1 hd)⟩
def Rg (a b:Nat):Nat→Prop:=fun g=>a≤g∧g<b
theorem eA.rg {M:Nat} {w w':World} {A:Option Addr} {n c:Nat} {rows:List (List V)} (h:eA M w A n c rows) (hw:aD w w'):gX w' (Rg M w.heap.size) A n c rows:=(h.toldA fun _ h1 h2=>⟨h1,h2⟩).ext hw
theorem gD {w w1 w8:World} {lab lab8:aP} {K:NK} {v:eT} {a:aR} {N rb:Nat} {s:cR} {F U:List (List V)} {z:Int} {t:rE} {x y:Value} (ht:t=(s,F,U,z)) (x1:aD w w1) (st:eU w1 lab w8 lab8) (q:fD w8 lab8 K v {a with now:=s} (S1 K {a with now:=s}) N) (gU:w.heap.size≤rb) (hd:¬ lab.dom rb) (bC:rb<w1.heap.size)
 (hm:cD w.heap.size (fun b=>lab8.dom b∨b=rb) w8 F U (.agg #[x,y])) :
 kI w lab K v a N t (.returned (.tuple #[.agg #[x,y],.int .i64 z])) ((w8.setCell ⟨rb,0,none⟩ x).setCell ⟨rb,1,none⟩ y):=by
 subst ht
 have hf:=iW st hd bC
 exact ⟨_,lab8,rfl,(q.var hf 0 _).var hf 1 _,iK (iK (bB (cM x1) st) gU 0 _) gU 1 _,
  hm.chg ((eW w8 rb 0 x).trans' (eW _ rb 1 y)) (fun b _ h=>.inr h) fun b _ h=>.inl h⟩
section
variable {w:World} {lab:aP} {K:NK} {v:eT} {a:aR} {N:Nat}
theorem jg {K:NK} {s:cR} (h:iS K s) (hk:K.kind=2) (own:List V):bY s.ons s.cnt own≤65536:=by
 rw [l8]
 cases jW own s.ons with
 | none=>simp
 |some i=>
  cases hi:s.cnt[i]? with
  | none=>simp [hi]
  | some c=>simpa [hi] using ((h.cnt hk).2 c (List.mem_of_getElem? hi)).2
theorem kv (w:World):(zeroValue 3).run Tryz.prog w=.ok (.int .i64 0) w:=by kernel_rfl
theorem jD.counts {S:aY} (h:fD w lab K v a S N) (hk:K.kind=2) {own:List V} (cH:yL K.width own):w.cell? ⟨v.k,0,none⟩=some (.pointer (some ⟨v.l,0,none⟩))∧w.cell? ⟨v.k,1,none⟩=some (.map (some v.m1))∧∀ w',aD w w'→
 (Instr.lookup 107 (.map (some v.m1)) (.string (n8 (pk own))) false).run Tryz.prog w'=.ok (.int .i64 (bY a.now.ons a.now.cnt own:Nat)) w':=by
 have hb:=h.r.wk
 rw [(eI hk v).2] at hb
 refine ⟨hb.cell 0,hb.cell 1,fun w' hw=>?_⟩
 obtain ⟨-,n,σ,hn,hm,hs⟩:=h.r.part 4 hk
 rw [Y9 107 3 Tryz.underlying107 (z:=.int .i64 0) kv (hm.ext hw) (oO own),hs own cH]
 split
 ·rename_i h0;rw [h0];rfl
 ·rfl
set_option maxRecDepth 100000 in
set_option maxHeartbeats 2000000 in
theorem zq (h:fD w lab K v a (S1 K a) N) (hK:fN K) (hO:iS K a.now) (hk:K.kind=2) (hN:N+262146≤8796093022208) (from_:Int) {r:List V} {A:Option Addr} {n:Nat} (c:Nat) (ha:bD w A n r) (hf:aV K.inn r=true) :
 Calls Tryz.prog 161 #[.pointer (some ⟨v.k,0,none⟩),.int .i64 from_,.slice A n c] w (kI w lab K v a (N+262146) (jG K a.now true (aE K.keep r))):=by
 have fM:=aD.alloc w (.cells #[.slice none 0 0,.slice none 0 0] 38)
 have hq:=h.ext fM
 have HOwn:=aA (Ke hq.r hK hk c (ha.ext fM) hf)
 have RB:=aA (aL.new w 38 #[.slice none 0 0,.slice none 0 0])
 have j2:=i7 hf ha.small ha.wf hK.keep.1 hK.keep.2
 have Dy:K.width=K.keep.length:=by unfold NK.width;rw [if_pos hk]
 have Mh:=aA (show yL K.width (aE K.keep r) from ⟨by rw [Dy];unfold aV;rw [Bool.and_eq_true];exact ⟨decide_eq_true j2.len,j2.ok⟩,j2.small,j2.wf⟩)
 have HQ:=aA hq;have HE:=aA fM;have dH:=aA (show ¬ lab.dom w.heap.size from fun ⟨i,hi⟩=>by have:=h.r.lt _ _ hi;omega)
 have zgq:=aA h.dom;have HO:=aA hO
 clear h ha hq fM j2 Dy hf hK hO
 generalize aE K.keep r=own at *
 obtain ⟨t,ht⟩ : ∃ t,jG K a.now true own=t:=⟨_,rfl⟩
 rw [ht]
 have HT:=aA ht
 obtain ⟨rb,gU⟩ : ∃ rb,w.heap.size=rb:=⟨_,rfl⟩
 have HR:=aA (Nat.le_of_eq gU)
 rw [gU] at RB dH zgq
 clear ht
 go_enter Tryz.func161,Tryz.ntmps161
 go_upto_region 1 with fail
 generalize aT:w.alloc (.cells #[.slice none 0 0,.slice none 0 0] 38)=w1 at *
 clear gU aT
 go_upto_region 2 with ((with_reducible refine HOwn.out.mono ?_);rintro e w2 ⟨A2,c2,rfl,h2,g2,x2⟩;have lZ:=aA h2;have G2:=aA g2;have X2:=aA x2;clear h2 g2 x2)
 have Q2:=aA (HQ.out.ext X2.out)
 obtain ⟨k0,k1,qH⟩:=jD.counts Q2.out hk Mh.out
 have zdy:=aA qH
 have F9:=qH w2 (aD.refl _)
 have qC:=jg HO.out hk own
 have HC:=aA (qT ((HO.out.cnt hk).1) (fun c hc=>((HO.out.cnt hk).2 c hc).1) own)
 clear qH
 generalize hcc:bY a.now.ons a.now.cnt own=cc at *
 have Sk:=aA hcc
 clear hcc
 by_cases h6:cc=65536
 ·subst h6
  have ht:t=(a.now,[],[],31):=by rw [← HT.out];unfold jG;rw [Sk.out];rfl
  have HT:=aA ht
  have B2:=aA (RB.out.ext X2.out)
  have fR:=aA (cM (lab:=lab) X2.out)
  have Q2:=aA (Q2.out.more (Nat.le_add_right N 262146))
  clear ht k0
  have f0:=B2.out.frozen 0
  have f1:=B2.out.frozen 1
  have c0:_=some (Value.slice none 0 0):=B2.out.cell 0
  have c1:_=some (Value.slice none 0 0):=B2.out.cell 1
  go_wp2_with fail
  have R:=(aU B2.out (.slice none 0 0) (.slice none 0 0))
  have r0:=R.cell 0
  have r1:=R.cell 1
  refine bodyPost_ret (v:=.tuple #[.agg #[.slice none 0 0,.slice none 0 0],.int .i64 31]) (by simp [results,Tryz.results161,go_sem,r0,r1]) rfl ?_
  exact eX HT.out HE.out fR.out Q2.out HR.out dH.out RB.out.lt
 ·have zjn:((cc:Int) == 65536)=false:=by simp;omega
  have ql:=aA (kL c2 lZ.out)
  go_upto_region 5 with ((with_reducible refine ql.out.mono ?_);rintro e w3 ⟨A3,rfl,h3,x3⟩;have O3:=aA h3;have X3:=aA x3;clear h3 x3)
  have MB:=aA (aL.new w3 38 #[.slice none 0 0,.slice A3 1 1])
  have X4:=aA (aD.alloc w3 (.cells #[.slice none 0 0,.slice A3 1 1] 38))
  obtain ⟨mb,hmb⟩ : ∃ mb,w3.heap.size=mb:=⟨_,rfl⟩
  have Iq:=aA (Nat.le_of_eq hmb)
  rw [hmb] at MB ⊢
  generalize w3.alloc (.cells #[.slice none 0 0,.slice A3 1 1] 38)=w4 at *
  clear hmb F9 k0 k1 zjn
  have XA:=aA ((X2.out.trans X3.out).trans X4.out)
  have Q4:=aA (HQ.out.ext XA.out)
  obtain ⟨k0,k1,qH⟩:=jD.counts Q4.out hk Mh.out
  have w_:=zdy.out w4 (X3.out.trans X4.out)
  clear qH
  have B4:=aA (RB.out.ext XA.out)
  have iZ:=aA (show rb<w1.heap.size∧w1.heap.size≤w2.heap.size∧w2.heap.size≤w3.heap.size∧mb<w4.heap.size from ⟨RB.out.lt,X2.out.size,X3.out.size,MB.out.lt⟩)
  have qg:=aA (show ¬ lab.dom mb from fun hd=>by have:=HQ.out.dom _ hd;have:=iZ.out;have:=Iq.out;omega)
  have zfw:=aA (show cD w.heap.size (fun b=>lab.dom b∨b=rb∨b=mb) w4 [] [own] (.agg #[.slice none 0 0,.slice A3 1 1]) from
   ⟨none,0,A3,1,fun _=>False,Rg w2.heap.size w3.heap.size,rfl,gX.nil _ _,O3.out.rg X4.out,fun _ h=>h.elim,fun b hb=>by
    have h1:=iZ.out;have h2:=Iq.out;have h3:=HE.out.size;have h4:=X4.out.size
    rcases hb with hb | ⟨hb,vS⟩
    ·exact hb.elim
    ·refine ⟨by omega,by omega,?_⟩
     rintro (hd | hd | hd)
     ·have:=HQ.out.dom _ hd;omega
     ·omega
     ·omega⟩)
  by_cases h0:cc=0
  ·subst h0
   have j8:=aA (show own∉a.now.live from fun hm=>by rw [HO.out.plain (by omega)] at hm;have:=HC.out.1 hm;omega)
   have lY:=aA (show dR (lab.own 1) A2 from fun x hx hb=>by have h1:=G2.out x hx;have h2:=HQ.out.dom _ ⟨1,hb⟩;omega)
   have Z2:=aA (lZ.out.ext (X3.out.trans X4.out))
   have HS:=aA (Bt Q4.out.s (by omega) c2 Z2.out lY.out)
   rw [show ((0:Nat):Int)=0 from rfl] at w_
   have a6:=Q4.out.r.rows6
   by_cases hm:a.now.live.length<K.most
   ·have bR:fP (S1 K a) own=({S1 K a with rows:=a.now.live ++ [own]},true,0):=by unfold fP;rw [show aV (S1 K a).width own=true from Mh.out.1,show (S1 K a).rows=a.now.live from rfl,bT.2 j8.out,show (S1 K a).most=K.most from rfl,if_pos hm];rfl
    rw [bR] at HS
    have ht:t=({a.now with ons:=a.now.ons ++ [own],cnt:=a.now.cnt ++ [1],live:=a.now.live ++ [own]},[own],[own],0):=by rw [← HT.out];unfold jG;rw [Sk.out,if_pos hm];rfl
    have HT:=aA ht
    clear bR ht hm
    go_upto_region 9 with ((with_reducible refine HS.out.mono ?_);rintro e w5 ⟨rfl,h2⟩;have T2:=aA (Q4.out.live (Nat.le_add_right N 262145) h2);clear h2)
    obtain ⟨lab2,q2,st2⟩:=T2.out
    have Q5:=aA q2;have uF:=aA st2
    have B5:=aA (st2.2.blk B4.out dH.out)
    have M5:=aA (st2.2.blk MB.out qg.out)
    have jm:=aA (Z2.out.stays (B:=lab.dom) (fun x hx hb=>by have h1:=G2.out x hx;have h2:=HQ.out.dom _ hb;omega) st2.2)
    have I_:=aA (kL c2 jm.out)
    clear q2 st2 T2 k0 k1 w_ a6
    go_upto_region 10 with ((with_reducible refine I_.out.mono ?_);rintro e w6 ⟨A6,rfl,h3,x3⟩;have O6:=aA h3;have X6:=aA x3;have f0:=(M5.out.ext x3).frozen 0;have c0:_=some (Value.slice none 0 0):=(M5.out.ext x3).cell 0;clear h3 x3)
    have M7:=aA ((M5.out.ext X6.out).set_ 0 (.slice A6 1 1))
    have zcR:=aA (iW uF.out qg.out MB.out.lt)
    have jf:=aA (iW uF.out dH.out B4.out.lt)
    have Q7:=aA ((Q5.out.ext X6.out).var zcR.out 0 (.slice A6 1 1))
    have B7:=aA ((B5.out.ext X6.out).far (p:=⟨mb,0,none⟩) (show rb≠mb by have:=iZ.out;have:=Iq.out;omega) (.slice A6 1 1))
    have xh:=aA (show w5.heap.size≤w6.heap.size∧w6.heap.size=(w6.setCell ⟨mb,0,none⟩ (.slice A6 1 1)).heap.size∧w4.heap.size≤w5.heap.size from ⟨X6.out.size,by simp,uF.out.2.size⟩)
    have zjE:=aA (show cD w.heap.size (fun b=>lab2.dom b∨b=rb) (w6.setCell ⟨mb,0,none⟩ (.slice A6 1 1)) [own] [own] (.agg #[.slice A6 1 1,.slice A3 1 1]) from
     ⟨A6,1,A3,1,Rg w5.heap.size w6.heap.size,Rg w2.heap.size w3.heap.size,rfl,(O6.out.rg (aD.refl _)).chg (eW w6 mb 0 _) (fun b hb e=>by have:=hb.1;have h1:=MB.out.lt;have h2:=xh.out;omega) (fun _ h=>h),
      (((O3.out.rg X4.out).chg uF.out.2 (fun b hb hd=>by have h1:=hb.1;have h2:=HQ.out.dom _ hd;have h3:=iZ.out;omega) (fun _ h=>h)).ext X6.out).chg (eW w6 mb 0 _) (fun b hb e=>by have:=hb.2;have h2:=Iq.out;omega) (fun _ h=>h),
      fun b h1 h2=>by have h3:=h1.1;have h4:=h2.2;have h5:=xh.out;have h6:=X4.out.size;omega,
      fun b hb=>by
       have h1:=iZ.out;have h2:=Iq.out;have h3:=HE.out.size;have h4:=X4.out.size;have h5:=xh.out
       have hq:=Q5.out.dom b
       have J3:lab2.dom b→lab.dom b∨w4.heap.size≤b:=uF.out.1 b
       have zhq:lab.dom b→b<w1.heap.size:=HQ.out.dom b
       rcases hb with hb | hb
       ·have h6:=hb.1;have h7:=hb.2
        refine ⟨by omega,by omega,?_⟩
        rintro (hd | hd)
        ·have:=hq hd;omega
        ·omega
       ·have h6:=hb.1;have h7:=hb.2
        refine ⟨by omega,by omega,?_⟩
        rintro (hd | hd)
        ·rcases J3 hd with h | h
         ·have:=zhq h;omega
         ·omega
        ·omega⟩)
    have zf3:=aA (iK (eV (bB (cM (lab:=lab) XA.out) uF.out) X6.out) (show w1.heap.size≤mb by have:=iZ.out;have:=Iq.out;omega) 0 (.slice A6 1 1))
    generalize w6.setCell ⟨mb,0,none⟩ (.slice A6 1 1)=w7 at *
    clear f0 c0
    obtain ⟨k0,k1,qH⟩:=jD.counts Q7.out hk Mh.out
    have ziQ:=qH w7 (aD.refl _)
    rw [Sk.out,show ((0:Nat):Int)=0 from rfl] at ziQ
    clear qH
    obtain ⟨zU,nn,σ,hn,hm,hs⟩:=Q7.out.r.part 4 hk
    have yU:=aA zU;have xb:=aA hn;have zaY:=aA hm;have zb5:=aA hs
    clear zU hn hm hs
    go_upto_region 11 with (at_mapUpdate;refine lG rfl (.tmp 59) (.tmp 60) (.tmp 62) 107 3 rfl Tryz.underlying107 v.m1 nn σ rfl zaY.out (by have:=xb.out;unfold maxLen;omega) (n8 (pk own)) (.int .i64 1) rfl rfl (oO own) ?_;intro w8 M8 T8)
    have Y3:gB w8 (lab2.own 4) K v.m1 (N+262146) {a.now with ons:=a.now.ons ++ [own],cnt:=a.now.cnt ++ [1],live:=a.now.live ++ [own]}:=
     gB.put yU.out (Nat.succ_le_succ xb.out) M8.out zb5.out Mh.out (c:=1) (Nat.le_refl 1) (fun x=>Av x 1 (fun Dt=>j8.out (by rw [HO.out.plain (by omega)];exact Dt)) (HO.out.cnt hk).1)
    obtain ⟨lab8,q8,st8,-⟩:=Q7.out.count (a':={a with now:={a.now with ons:=a.now.ons ++ [own],cnt:=a.now.cnt ++ [1],live:=a.now.live ++ [own]}}) hk (Nat.le_succ _) rfl (eZ T8.out yU.out) Y3
    have zcF:=aA q8;have Nk:=aA st8
    have aZ:∀ g,¬ lab2.dom g→g≠v.m1:=fun g hg e=>hg (e ▸ ⟨4,yU.out⟩)
    have M8b:=aA (gR T8.out M7.out (aZ mb zcR.out))
    have B8:=aA (gR T8.out B7.out (aZ rb jf.out))
    have m0:w8.cell? ⟨mb,0,none⟩=some (.slice A6 1 1):=M8b.out.cell 0
    have m1:w8.cell? ⟨mb,1,none⟩=some (.slice A3 1 1):=M8b.out.cell 1
    have f0:=B8.out.frozen 0
    have f1:=B8.out.frozen 1
    have c0:_=some (Value.slice none 0 0):=B8.out.cell 0
    have c1:_=some (Value.slice none 0 0):=B8.out.cell 1
    have za6:=aA (zjE.out.chg (D':=fun b=>lab8.dom b∨b=rb) (eZ (B:=lab2.own 4) T8.out yU.out) (fun b _ h=>.inl ⟨4,h⟩) (fun b hb h=>h.imp (fun h=>(st8.1 b h).resolve_right (by omega)) id))
    clear q8 st8 aZ Y3 k0 k1 ziQ
    go_wp2_with fail
    have R:=(aU B8.out (.slice A6 1 1) (.slice A3 1 1))
    have r0:=R.cell 0
    have r1:=R.cell 1
    refine bodyPost_ret (v:=.tuple #[.agg #[.slice A6 1 1,.slice A3 1 1],.int .i64 0]) (by simp [results,Tryz.results161,go_sem,r0,r1]) rfl ?_
    exact gD HT.out HE.out (bB zf3.out Nk.out) zcF.out HR.out dH.out RB.out.lt za6.out
   ·have bR:fP (S1 K a) own=(S1 K a,false,31):=by unfold fP;rw [show aV (S1 K a).width own=true from Mh.out.1,show (S1 K a).rows=a.now.live from rfl,bT.2 j8.out,show (S1 K a).most=K.most from rfl,if_neg hm];rfl
    rw [bR] at HS
    have ht:t=(a.now,[],[],31):=by rw [← HT.out];unfold jG;rw [Sk.out,if_neg hm];rfl
    have HT:=aA ht
    clear bR ht hm
    go_upto_region 8 with ((with_reducible refine HS.out.mono ?_);rintro e w5 ⟨rfl,h2⟩;have T2:=aA (Q4.out.live (Nat.le_add_right N 262145) h2);clear h2)
    obtain ⟨lab2,q2,st2⟩:=T2.out
    have Q2:=aA (q2.more (Nat.le_succ (N+262145)));have fR:=aA (bB (cM XA.out) st2)
    have B2:=aA (st2.2.blk B4.out dH.out)
    clear q2 st2 T2 k0 k1 w_ a6
    have f0:=B2.out.frozen 0
    have f1:=B2.out.frozen 1
    have c0:_=some (Value.slice none 0 0):=B2.out.cell 0
    have c1:_=some (Value.slice none 0 0):=B2.out.cell 1
    go_wp2_with fail
    have R:=(aU B2.out (.slice none 0 0) (.slice none 0 0))
    have r0:=R.cell 0
    have r1:=R.cell 1
    refine bodyPost_ret (v:=.tuple #[.agg #[.slice none 0 0,.slice none 0 0],.int .i64 31]) (by simp [results,Tryz.results161,go_sem,r0,r1]) rfl ?_
    exact eX HT.out HE.out fR.out Q2.out HR.out dH.out RB.out.lt
  ·have zh6:((cc:Int) == 0)=false:=by simp;omega
   have ht:t=({a.now with cnt:=a.now.cnt.set ((jW own a.now.ons).getD 0) (cc+1)},[],[own],0):=by rw [← HT.out];unfold jG;rw [Sk.out,if_neg h6,if_neg h0];rfl
   have HT:=aA ht
   have bE:=aA (show own∈a.now.ons from Classical.byContradiction fun hm=>h0 (HC.out.2 hm))
   obtain ⟨ix,gE⟩:=mQ bE.out
   have Bu:=aA gE
   rw [gE] at HT
   have zi5:IntKind.i64.wrap ((cc:Int)+1)=((cc+1:Nat):Int):=by
    rw [show ((cc:Int)+1)=((cc+1:Nat):Int) by omega]
    exact IntWalk.i64_in _ (by omega)
   have zdk:(cc:Int)<65537:=by omega
   clear ht gE
   obtain ⟨zU,nn,σ,hn,hm,hs⟩:=Q4.out.r.part 4 hk
   have yU:=aA zU;have xb:=aA hn;have zaY:=aA hm;have zb5:=aA hs
   clear zU hn hm hs
   go_upto_region 11 with (at_mapUpdate;refine lG rfl (.tmp 59) (.tmp 60) (.tmp 62) 107 3 rfl Tryz.underlying107 v.m1 nn σ rfl zaY.out (by have:=xb.out;unfold maxLen;omega) (n8 (pk own)) (.int .i64 ((cc+1:Nat):Int)) rfl rfl (oO own) ?_;intro w8 M8 T8)
   have Y3:gB w8 (lab.own 4) K v.m1 (N+262146) {a.now with cnt:=a.now.cnt.set ix (cc+1)}:=
    gB.put yU.out (by have:=xb.out;omega) M8.out zb5.out Mh.out (c:=cc+1) (by omega) (fun x=>rL x (HO.out.cnt hk).1 Bu.out)
   obtain ⟨lab8,q8,st8,-⟩:=Q4.out.count (a':={a with now:={a.now with cnt:=a.now.cnt.set ix (cc+1)}}) hk (Nat.le_add_right N 262146) rfl (eZ T8.out yU.out) Y3
   have zcF:=aA q8;have Nk:=aA st8
   have aZ:∀ g,¬ lab.dom g→g≠v.m1:=fun g hg e=>hg (e ▸ ⟨4,yU.out⟩)
   have M8b:=aA (gR T8.out MB.out (aZ mb qg.out))
   have B8:=aA (gR T8.out B4.out (aZ rb dH.out))
   have m0:w8.cell? ⟨mb,0,none⟩=some (.slice none 0 0):=M8b.out.cell 0
   have m1:w8.cell? ⟨mb,1,none⟩=some (.slice A3 1 1):=M8b.out.cell 1
   have f0:=B8.out.frozen 0
   have f1:=B8.out.frozen 1
   have c0:_=some (Value.slice none 0 0):=B8.out.cell 0
   have c1:_=some (Value.slice none 0 0):=B8.out.cell 1
   have za6:=aA (zfw.out.chg (D':=fun b=>lab8.dom b∨b=rb) (eZ (B:=lab.own 4) T8.out yU.out) (fun b _ h=>.inl ⟨4,h⟩) (fun b hb h=>h.imp (fun h=>(st8.1 b h).resolve_right (by omega)) .inl))
   clear q8 st8 aZ Y3 k0 k1 w_
   go_wp2_with fail
   have R:=(aU B8.out (.slice none 0 0) (.slice A3 1 1))
   have r0:=R.cell 0
   have r1:=R.cell 1
   refine bodyPost_ret (v:=.tuple #[.agg #[.slice none 0 0,.slice A3 1 1],.int .i64 0]) (by simp [results,Tryz.results161,go_sem,r0,r1]) rfl ?_
   exact gD HT.out HE.out (bB (cM XA.out) Nk.out) zcF.out HR.out dH.out RB.out.lt za6.out
end
end Go.Proofs.YtahdiiaadjdmcaaGreat
