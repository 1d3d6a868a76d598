import Derived.Test.YtahdiiaadjdmcaaGreatNgC
namespace Go.Proofs.YtahdiiaadjdmcaaGreat
open Go.RowKit Classical
section
variable {w:World} {lab:aP} {K:NK} {v:eT} {a:aR} {N:Nat}
set_option maxRecDepth 100000 in
set_option maxHeartbeats 2000000 in
theorem jx (h:fD w lab K v a (S1 K a) N) (hK:fN K) (hO:iS K a.now) (hk:K.kind=2) (hN:N+262146≤8796093022208) (from_:Int) {r:List V} {A:Option Addr} {n:Nat} (c:Nat) (ha:bD w A n r) (hf:aV K.inn r=true) :
 Calls Tryz.prog 160 #[.pointer (some ⟨v.k,0,none⟩),.int .i64 from_,.slice A n c] w (kI w lab K v a (N+262146) (jG K a.now false (aE K.keep r))):=by
 have fM:=aD.alloc w (.cells #[.slice none 0 0,.slice none 0 0] 38)
 have hq:=h.ext fM
 have HOwn:=aA (Ke hq.r hK hk c (ha.ext fM) hf)
 have RB:=aA (aL.new w 38 #[.slice none 0 0,.slice none 0 0])
 have j2:=i7 hf ha.small ha.wf hK.keep.1 hK.keep.2
 have Dy:K.width=K.keep.length:=by unfold NK.width;rw [if_pos hk]
 have Mh:=aA (show yL K.width (aE K.keep r) from ⟨by rw [Dy];unfold aV;rw [Bool.and_eq_true];exact ⟨decide_eq_true j2.len,j2.ok⟩,j2.small,j2.wf⟩)
 have HQ:=aA hq;have HE:=aA fM;have dH:=aA (show ¬ lab.dom w.heap.size from fun ⟨i,hi⟩=>by have:=h.r.lt _ _ hi;omega)
 have zgq:=aA h.dom;have HO:=aA hO
 clear h ha hq fM j2 Dy hf hK hO
 generalize aE K.keep r=own at *
 obtain ⟨t,ht⟩ : ∃ t,jG K a.now false own=t:=⟨_,rfl⟩
 rw [ht]
 have HT:=aA ht
 obtain ⟨rb,gU⟩ : ∃ rb,w.heap.size=rb:=⟨_,rfl⟩
 have HR:=aA (Nat.le_of_eq gU)
 rw [gU] at RB dH zgq
 clear ht
 go_enter Tryz.func160,Tryz.ntmps160
 go_upto_region 1 with fail
 generalize aT:w.alloc (.cells #[.slice none 0 0,.slice none 0 0] 38)=w1 at *
 clear gU aT
 go_upto_region 2 with ((with_reducible refine HOwn.out.mono ?_);rintro e w2 ⟨A2,c2,rfl,h2,g2,x2⟩;have lZ:=aA h2;have G2:=aA g2;have X2:=aA x2;clear h2 g2 x2)
 have Q2:=aA (HQ.out.ext X2.out)
 obtain ⟨k0,k1,qH⟩:=jD.counts Q2.out hk Mh.out
 have zdy:=aA qH
 have F9:=qH w2 (aD.refl _)
 have qC:=jg HO.out hk own
 have HC:=aA (qT ((HO.out.cnt hk).1) (fun c hc=>((HO.out.cnt hk).2 c hc).1) own)
 clear qH
 generalize hcc:bY a.now.ons a.now.cnt own=cc at *
 have Sk:=aA hcc
 clear hcc
 have ql:=aA (kL c2 lZ.out)
 go_upto_region 3 with ((with_reducible refine ql.out.mono ?_);rintro e w3 ⟨A3,rfl,h3,x3⟩;have O3:=aA h3;have X3:=aA x3;clear h3 x3)
 have MB:=aA (aL.new w3 38 #[.slice none 0 0,.slice A3 1 1])
 have X4:=aA (aD.alloc w3 (.cells #[.slice none 0 0,.slice A3 1 1] 38))
 obtain ⟨mb,hmb⟩ : ∃ mb,w3.heap.size=mb:=⟨_,rfl⟩
 have Iq:=aA (Nat.le_of_eq hmb)
 rw [hmb] at MB ⊢
 generalize w3.alloc (.cells #[.slice none 0 0,.slice A3 1 1] 38)=w4 at *
 clear hmb F9 k0 k1
 have XA:=aA ((X2.out.trans X3.out).trans X4.out)
 have Q4:=aA (HQ.out.ext XA.out)
 obtain ⟨k0,k1,qH⟩:=jD.counts Q4.out hk Mh.out
 have w_:=zdy.out w4 (X3.out.trans X4.out)
 clear qH
 have B4:=aA (RB.out.ext XA.out)
 have iZ:=aA (show rb<w1.heap.size∧w1.heap.size≤w2.heap.size∧w2.heap.size≤w3.heap.size∧mb<w4.heap.size from ⟨RB.out.lt,X2.out.size,X3.out.size,MB.out.lt⟩)
 have qg:=aA (show ¬ lab.dom mb from fun hd=>by have:=HQ.out.dom _ hd;have:=iZ.out;have:=Iq.out;omega)
 have zfw:=aA (show cD w.heap.size (fun b=>lab.dom b∨b=rb∨b=mb) w4 [] [own] (.agg #[.slice none 0 0,.slice A3 1 1]) from
  ⟨none,0,A3,1,fun _=>False,Rg w2.heap.size w3.heap.size,rfl,gX.nil _ _,O3.out.rg X4.out,fun _ h=>h.elim,fun b hb=>by
   have h1:=iZ.out;have h2:=Iq.out;have h3:=HE.out.size;have h4:=X4.out.size
   rcases hb with hb | ⟨hb,vS⟩
   ·exact hb.elim
   ·refine ⟨by omega,by omega,?_⟩
    rintro (hd | hd | hd)
    ·have:=HQ.out.dom _ hd;omega
    ·omega
    ·omega⟩)
 by_cases h0:cc=0
 ·subst h0
  have ht:t=(a.now,[],[],192):=by rw [← HT.out];unfold jG;rw [Sk.out];rfl
  have HT:=aA ht
  have fR:=aA (cM (lab:=lab) XA.out)
  have Q2:=aA (Q4.out.more (Nat.le_add_right N 262146))
  have B2:=B4
  rw [show ((0:Nat):Int)=0 from rfl] at w_
  clear ht
  have f0:=B2.out.frozen 0
  have f1:=B2.out.frozen 1
  have c0:_=some (Value.slice none 0 0):=B2.out.cell 0
  have c1:_=some (Value.slice none 0 0):=B2.out.cell 1
  go_wp2_with fail
  have R:=(aU B2.out (.slice none 0 0) (.slice none 0 0))
  have r0:=R.cell 0
  have r1:=R.cell 1
  refine bodyPost_ret (v:=.tuple #[.agg #[.slice none 0 0,.slice none 0 0],.int .i64 192]) (by simp [results,Tryz.results160,go_sem,r0,r1]) rfl ?_
  exact eX HT.out HE.out fR.out Q2.out HR.out dH.out RB.out.lt
 ·have zh6:((cc:Int) == 0)=false:=by simp;omega
  have bE:=aA (show own∈a.now.ons from Classical.byContradiction fun hm=>h0 (HC.out.2 hm))
  obtain ⟨ix,gE⟩:=mQ bE.out
  have Bu:=aA gE
  clear gE
  by_cases h1:cc=1
  ·subst h1
   have ht:t=({a.now with ons:=bS own a.now.ons,cnt:=a.now.cnt.eraseIdx ix,live:=bS own a.now.live},[own],[own],0):=by rw [← HT.out];unfold jG;rw [Sk.out,Bu.out];rfl
   have HT:=aA ht
   rw [show ((1:Nat):Int)=1 from rfl] at w_
   clear ht zh6
   obtain ⟨zU,nn,σ,hn,hm,hs⟩:=Q4.out.r.part 4 hk
   have yU:=aA zU;have xb:=aA hn;have zaY:=aA hm;have zb5:=aA hs
   clear zU hn hm hs
   go_upto_region 9 with (at_delete;refine yP rfl (.tmp 41) (.tmp 42) 107 3 rfl Tryz.underlying107 v.m1 nn σ rfl zaY.out (n8 (pk own)) rfl (oO own) ?_;intro w5 M5 T5)
   have Y3:gB w5 (lab.own 4) K v.m1 N {a.now with ons:=bS own a.now.ons,cnt:=a.now.cnt.eraseIdx ix,live:=bS own a.now.live}:=
    gB.del yU.out xb.out M5.out zb5.out Mh.out (fun x=>by
     show bY (bS own a.now.ons) (a.now.cnt.eraseIdx ix) x=_
     rw [v7 Bu.out]
     exact tY x HO.out.nd (HO.out.cnt hk).1 Bu.out)
   obtain ⟨lab5,q5,st5,dm5⟩:=Q4.out.count (a':={a with now:={a.now with ons:=bS own a.now.ons,cnt:=a.now.cnt.eraseIdx ix,live:=bS own a.now.live}}) hk (Nat.le_refl N) rfl (eZ T5.out yU.out) Y3
   have Q5:=aA q5;have uF:=aA st5
   have aZ:∀ g,¬ lab.dom g→g≠v.m1:=fun g hg e=>hg (e ▸ ⟨4,yU.out⟩)
   have M5b:=aA (gR T5.out MB.out (aZ mb qg.out))
   have B5:=aA (gR T5.out B4.out (aZ rb dH.out))
   have jm:=aA ((lZ.out.ext (X3.out.trans X4.out)).stays (B:=lab.own 4) (fun x hx hb=>by have h1:=G2.out x hx;have h2:=HQ.out.dom _ ⟨4,hb⟩;omega) (eZ T5.out yU.out))
   have lY:=aA (show dR (lab5.own 1) A2 from fun x hx hb=>by have h1:=G2.out x hx;have h2:=HQ.out.dom _ (dm5 _ ⟨1,hb⟩);omega)
   have HS:=aA (vB Q5.out.s (by omega) c2 jm.out lY.out)
   have bR:eG (S1 K a) own=({S1 K a with rows:=bS own a.now.live},true,0):=by unfold eG;rw [show aV (S1 K a).width own=true from Mh.out.1,show (S1 K a).rows=a.now.live from rfl,bK.2 (show own∈a.now.live by rw [HO.out.plain (by omega)];exact bE.out)];rfl
   rw [bR] at HS
   have a6:=Q5.out.r.rows6
   obtain ⟨k0,k1,-⟩:=jD.counts Q5.out hk Mh.out
   have zeA:=aA dm5
   clear bR q5 st5 Y3 w_ aZ dm5
   go_upto_region 10 with ((with_reducible refine HS.out.mono ?_);rintro e w6 ⟨rfl,h2⟩;have T2:=aA (Q5.out.live (Nat.le_add_right N 262145) h2);clear h2)
   obtain ⟨lab6,q6,st6⟩:=T2.out
   have Q6:=aA (show fD w6 lab6 K v {a with now:={a.now with ons:=bS own a.now.ons,cnt:=a.now.cnt.eraseIdx ix,live:=bS own a.now.live}} (S1 K {a with now:={a.now with ons:=bS own a.now.ons,cnt:=a.now.cnt.eraseIdx ix,live:=bS own a.now.live}}) (N+262145) from q6);have zfn:=aA st6
   have zel:=aA (show ¬ lab5.dom mb from fun h=>qg.out (zeA.out _ h))
   have zgm:=aA (show ¬ lab5.dom rb from fun h=>dH.out (zeA.out _ h))
   have B6:=aA (st6.2.blk B5.out zgm.out)
   have M6:=aA (st6.2.blk M5b.out zel.out)
   have zf5:=aA (jm.out.stays (B:=lab5.dom) (fun x hx hb=>by have h1:=G2.out x hx;have h2:=HQ.out.dom _ (zeA.out _ hb);omega) st6.2)
   have zji:=aA (kL c2 zf5.out)
   have zbz:=aA (show w4.heap.size≤w5.heap.size∧w5.heap.size≤w6.heap.size from ⟨uF.out.2.size,st6.2.size⟩)
   clear q6 st6 T2 k0 k1 a6
   go_upto_region 11 with ((with_reducible refine zji.out.mono ?_);rintro e w7 ⟨A6,rfl,h3,x3⟩;have O7:=aA h3;have X7:=aA x3;have f0:=(M6.out.ext x3).frozen 0;have c0:_=some (Value.slice none 0 0):=(M6.out.ext x3).cell 0;clear h3 x3)
   have M8:=aA ((M6.out.ext X7.out).set_ 0 (.slice A6 1 1))
   have zfM:=aA (iW zfn.out zel.out M5b.out.lt)
   have Q8:=aA (((Q6.out.ext X7.out).var zfM.out 0 (.slice A6 1 1)).more (Nat.le_succ (N+262145)))
   have B8:=aA ((B6.out.ext X7.out).far (p:=⟨mb,0,none⟩) (show rb≠mb by have:=iZ.out;have:=Iq.out;omega) (.slice A6 1 1))
   have xh:=aA (show w6.heap.size≤w7.heap.size∧w7.heap.size=(w7.setCell ⟨mb,0,none⟩ (.slice A6 1 1)).heap.size from ⟨X7.out.size,by simp⟩)
   have za6:=aA (show cD w.heap.size (fun b=>lab6.dom b∨b=rb) (w7.setCell ⟨mb,0,none⟩ (.slice A6 1 1)) [own] [own] (.agg #[.slice A6 1 1,.slice A3 1 1]) from
    ⟨A6,1,A3,1,Rg w6.heap.size w7.heap.size,Rg w2.heap.size w3.heap.size,rfl,(O7.out.rg (aD.refl _)).chg (eW w7 mb 0 _) (fun b hb e=>by have:=hb.1;have h1:=MB.out.lt;have h2:=xh.out;have h3:=zbz.out;omega) (fun _ h=>h),
     ((((O3.out.rg X4.out).chg uF.out.2 (fun b hb hd=>by have h1:=hb.1;have h2:=HQ.out.dom _ hd;have h3:=iZ.out;omega) (fun _ h=>h)).chg zfn.out.2 (fun b hb hd=>by have h1:=hb.1;have h2:=HQ.out.dom _ (zeA.out _ hd);have h3:=iZ.out;omega) (fun _ h=>h)).ext X7.out).chg (eW w7 mb 0 _) (fun b hb e=>by have:=hb.2;have h2:=Iq.out;omega) (fun _ h=>h),
     fun b h1 h2=>by have h3:=h1.1;have h4:=h2.2;have h5:=xh.out;have h6:=X4.out.size;have h7:=zbz.out;omega,
     fun b hb=>by
      have h1:=iZ.out;have h2:=Iq.out;have h3:=HE.out.size;have h4:=X4.out.size;have h5:=xh.out;have h8:=zbz.out
      have hq:=Q6.out.dom b
      have J3:lab6.dom b→lab5.dom b∨w5.heap.size≤b:=zfn.out.1 b
      have zhq:lab5.dom b→b<w1.heap.size:=fun h=>HQ.out.dom b (zeA.out b h)
      rcases hb with hb | hb
      ·have h6:=hb.1;have h7:=hb.2
       refine ⟨by omega,by omega,?_⟩
       rintro (hd | hd)
       ·have:=hq hd;omega
       ·omega
      ·have h6:=hb.1;have h7:=hb.2
       refine ⟨by omega,by omega,?_⟩
       rintro (hd | hd)
       ·rcases J3 hd with h | h
        ·have:=zhq h;omega
        ·omega
       ·omega⟩)
   have Nk:=aA (iK (eV (bB (bB (cM (lab:=lab) XA.out) uF.out) zfn.out) X7.out) (show w1.heap.size≤mb by have:=iZ.out;have:=Iq.out;omega) 0 (.slice A6 1 1))
   generalize w7.setCell ⟨mb,0,none⟩ (.slice A6 1 1)=w8 at *
   clear f0 c0
   have m0:w8.cell? ⟨mb,0,none⟩=some (.slice A6 1 1):=M8.out.cell 0
   have m1:w8.cell? ⟨mb,1,none⟩=some (.slice A3 1 1):=M8.out.cell 1
   have f0:=B8.out.frozen 0
   have f1:=B8.out.frozen 1
   have c0:_=some (Value.slice none 0 0):=B8.out.cell 0
   have c1:_=some (Value.slice none 0 0):=B8.out.cell 1
   go_wp2_with fail
   have R:=(aU B8.out (.slice A6 1 1) (.slice A3 1 1))
   have r0:=R.cell 0
   have r1:=R.cell 1
   refine bodyPost_ret (v:=.tuple #[.agg #[.slice A6 1 1,.slice A3 1 1],.int .i64 0]) (by simp [results,Tryz.results160,go_sem,r0,r1]) rfl ?_
   exact gD HT.out HE.out Nk.out Q8.out HR.out dH.out RB.out.lt za6.out
  ·have zk0:((cc:Int) == 1)=false:=by simp;omega
   have ht:t=({a.now with cnt:=a.now.cnt.set ix (cc - 1)},[],[own],0):=by rw [← HT.out];unfold jG;rw [Sk.out,if_neg (by simp),if_neg h0,if_neg h1,Bu.out];rfl
   have HT:=aA ht
   have zi5:IntKind.i64.wrap ((cc:Int) - 1)=((cc - 1:Nat):Int):=by
    rw [show ((cc:Int) - 1)=((cc - 1:Nat):Int) by omega]
    exact IntWalk.i64_in _ (by omega)
   have zdk:(cc:Int) - 1=((cc - 1:Nat):Int):=by omega
   clear ht
   obtain ⟨zU,nn,σ,hn,hm,hs⟩:=Q4.out.r.part 4 hk
   have yU:=aA zU;have xb:=aA hn;have zaY:=aA hm;have zb5:=aA hs
   clear zU hn hm hs
   go_upto_region 11 with (at_mapUpdate;refine lG rfl (.tmp 29) (.tmp 30) (.tmp 32) 107 3 rfl Tryz.underlying107 v.m1 nn σ rfl zaY.out (by have:=xb.out;unfold maxLen;omega) (n8 (pk own)) (.int .i64 ((cc - 1:Nat):Int)) rfl (by first | rfl | (simp [Act.eval,zdk])) (oO own) ?_;intro w8 M8 T8)
   have Y3:gB w8 (lab.own 4) K v.m1 (N+262146) {a.now with cnt:=a.now.cnt.set ix (cc - 1)}:=
    gB.put yU.out (by have:=xb.out;omega) M8.out zb5.out Mh.out (c:=cc - 1) (by omega) (fun x=>rL x (HO.out.cnt hk).1 Bu.out)
   obtain ⟨lab8,q8,st8,-⟩:=Q4.out.count (a':={a with now:={a.now with cnt:=a.now.cnt.set ix (cc - 1)}}) hk (Nat.le_add_right N 262146) rfl (eZ T8.out yU.out) Y3
   have zcF:=aA q8;have Nk:=aA st8
   have aZ:∀ g,¬ lab.dom g→g≠v.m1:=fun g hg e=>hg (e ▸ ⟨4,yU.out⟩)
   have M8b:=aA (gR T8.out MB.out (aZ mb qg.out))
   have B8:=aA (gR T8.out B4.out (aZ rb dH.out))
   have m0:w8.cell? ⟨mb,0,none⟩=some (.slice none 0 0):=M8b.out.cell 0
   have m1:w8.cell? ⟨mb,1,none⟩=some (.slice A3 1 1):=M8b.out.cell 1
   have f0:=B8.out.frozen 0
   have f1:=B8.out.frozen 1
   have c0:_=some (Value.slice none 0 0):=B8.out.cell 0
   have c1:_=some (Value.slice none 0 0):=B8.out.cell 1
   have za6:=aA (zfw.out.chg (D':=fun b=>lab8.dom b∨b=rb) (eZ (B:=lab.own 4) T8.out yU.out) (fun b _ h=>.inl ⟨4,h⟩) (fun b hb h=>h.imp (fun h=>(st8.1 b h).resolve_right (by omega)) .inl))
   clear q8 st8 aZ Y3 k0 k1 w_
   go_wp2_with fail
   have R:=(aU B8.out (.slice none 0 0) (.slice A3 1 1))
   have r0:=R.cell 0
   have r1:=R.cell 1
   refine bodyPost_ret (v:=.tuple #[.agg #[.slice none 0 0,.slice A3 1 1],.int .i64 0]) (by simp [results,Tryz.results160,go_sem,r0,r1]) rfl ?_
   exact gD HT.out HE.out (bB (cM XA.out) Nk.out) zcF.out HR.out dH.out RB.out.lt za6.out
set_option maxRecDepth 100000 in
theorem jd (h:fD w lab K v a (S1 K a) N) (hO:iS K a.now) (hk:K.kind=2) (hN:N+1≤8796093022208) {r:List V} {A:Option Addr} {n:Nat} (c:Nat) (ha:bD w A n r) (hA:dR lab.dom A) :
 Calls Tryz.prog 163 #[.pointer (some ⟨v.k,0,none⟩),.slice A n c] w fun e w'=>e=.returned (.int .i64 (vG K a.now r))∧Iu w lab K v a (S1 K a) (N+1) w':=by
 have HS:=aA (qV h (by omega) c ha)
 have k0:w.cell? ⟨v.k,0,none⟩=some (.pointer (some ⟨v.l,0,none⟩)):=by
  have hb:=h.r.wk
  rw [(eI hk v).2] at hb
  exact hb.cell 0
 have hs:vG K a.now r=if inB a.now.live r then bY a.now.ons a.now.cnt r else 0:=by unfold vG;rw [if_neg (show ¬ K.kind=3 by omega),if_pos hk]
 rw [hs]
 have e1:inB (S1 K a).rows r=inB a.now.live r:=rfl
 rw [e1] at HS
 have HA:=aA ha;have lY:=aA hA;have HO:=aA hO;have HD:=aA h.dom
 clear h ha hs e1 hA hO
 cases hb:inB a.now.live r with
 |false=>
  rw [hb] at HS
  rw [if_neg (by simp)]
  clear hb
  go_enter Tryz.func163,Tryz.ntmps163
  go_wp2_with ((with_reducible refine HS.out.mono ?_);rintro e w2 ⟨rfl,h2⟩;have S2:=aA h2;clear h2)
  go_ret
  exact ⟨rfl,S2.out⟩
 |true=>
  rw [hb] at HS
  rw [if_pos rfl]
  have dW:=aA (show yL K.width r from HO.out.ons r (by rw [← HO.out.plain (by omega)];exact bK.1 hb))
  clear hb
  go_enter Tryz.func163,Tryz.ntmps163
  go_upto_region 3 with ((with_reducible refine HS.out.mono ?_);rintro e w2 ⟨rfl,h2⟩;have S2:=aA h2;clear h2)
  obtain ⟨lab2,q2,st2⟩:=S2.out
  have Q2:=aA q2;have fR:=aA st2
  have lZ:=aA (HA.out.stays (B:=lab.dom) lY.out st2.2)
  have HP:=aA (Ab r A n c w2 lZ.out.at_ lZ.out.len lZ.out.small lZ.out.wf)
  clear q2 st2 S2 k0
  go_upto_region 4 with ((with_reducible refine HP.out.mono ?_);rintro e w3 ⟨A3,c3,rfl,h3,x3⟩;have O3:=aA h3;have X3:=aA x3;clear h3 x3)
  have zbj:∀ w9,aD w3 w9→(convert 155 9 (.slice A3 (iQ r).1.length c3)).run Tryz.prog w9=.ok (.string (n8 (pk r))) w9:=fun w9 h9=>vM (k:=pk r) ((Sl.own O3.out).ext h9) c3
  obtain ⟨-,k1,qH⟩:=jD.counts (Q2.out.ext X3.out) hk dW.out
  have k1:=aB k1
  refine aC 8 (by kernel_rfl) (by kernel_rfl) (by kernel_rfl) ?_
  iterate 8
   refine aK (by kernel_rfl) (by kernel_rfl) ?_
   apply Exists.intro
   refine ⟨fun w1 aT=>?_,fun K hK=>?_⟩
   ·go_simp;first | done | rfl
   go_simp;refine hK _ _ ?_;clear hK K
  refine aH ⟨rfl,by kernel_rfl,fun w4 hw4=>?_⟩
  simp only [bL]
  refine wpList_nil ?_
  have X4:=aA hw4
  clear hw4 zbj qH k1
  go_wp2_with fail
  go_ret
  exact ⟨rfl,lab2,Q2.out.ext (X3.out.trans X4.out),eV fR.out (X3.out.trans X4.out)⟩
end
end Go.Proofs.YtahdiiaadjdmcaaGreat
namespace Go.Proofs.YtahdiiaadjdmcaaGreat
open Go.RowKit
theorem Mk {K:NK} (hk:K.kind=3) (v:eT):lN K=93∧jO K v = #[ptr v.l,ptr v.x2,ptr v.x3]:=by
 unfold lN jO
 rw [if_neg (by omega),if_pos hk,if_neg (by omega),if_pos hk]
 exact ⟨rfl,rfl⟩
theorem jD.meet {w:World} {lab:aP} {K:NK} {v:eT} {a:aR} {N:Nat} (h:jD w lab K v a N) (hk:K.kind=3):w.cell? ⟨v.k,0,none⟩=some (.pointer (some ⟨v.l,0,none⟩))∧w.cell? ⟨v.k,1,none⟩=some (.pointer (some ⟨v.x2,0,none⟩))∧w.cell? ⟨v.k,2,none⟩=some (.pointer (some ⟨v.x3,0,none⟩)):=by
 have hb:=h.wk
 rw [(Mk hk v).2] at hb
 exact ⟨hb.cell 0,hb.cell 1,hb.cell 2⟩
structure Qy (G:World→(Nat→Prop)→Prop):Prop where
 chg:∀ w w' B C,G w B→aF C w w'→(∀ g,B g→¬ C g)→G w' B
 mono:∀ w B C,G w B→(∀ g,B g→C g)→G w C
theorem jD.liveG {w w':World} {lab:aP} {K:NK} {v:eT} {a:aR} {N:Nat} {G:World→(Nat→Prop)→Prop} (hG:Qy G) (h:jD w lab K v a N) {B':Nat→Prop} (h1:G w' B') (h2:∀ b,B' b→lab.own 1 b∨w.heap.size≤b) (h3:∀ b,B' b→b<w'.heap.size) (h4:aF (lab.own 1) w w'):∃ lab',jD w' lab' K v a N∧G w' (lab'.own 1)∧eU w lab w' lab':=by
 obtain ⟨lab',r1,r2,r3,r4,r5⟩:=h.turn 1 (v':=v) (a':=a) (N':=N) h2 h3 h4 (fun i hi hp=>hp) trivial
 exact ⟨lab',r1,hG.mono _ _ _ h1 r2,r5⟩
theorem jD.groupM {w w':World} {lab:aP} {K:NK} {v:eT} {a:aR} {N M T:Nat} {G:World→(Nat→Prop)→Prop} (hG:Qy G) (h:jD w lab K v a N) (hg:G w (lab.own 1)) (hM:N≤M) (hs:Db w (lab.own 2) v.x2 (S2 K a) M w' T):∃ lab',jD w' lab' K v a M∧G w' (lab'.own 1)∧eU w lab w' lab'∧(∀ b,lab'.dom b→b<T)∧w.heap.size≤T∧T≤w'.heap.size:=by
 obtain ⟨B',h1,h2,h3',h4,h5,h6⟩:=hs
 obtain ⟨lab',r1,r2,r3,r4,r5⟩:=h.turn 2 (v':=v) (a':=a) (N':=M) h2 (fun b hb=>by have:=h3' b hb;omega) h4 (fun i hi hp=>dV (fun _ h=>h) hM i hp) (fun _=>h1)
 exact ⟨lab',r1,by rw [r3 1 (by decide)];exact hG.chg _ _ _ _ hg h4 (iA (by decide)),r5,fun b hb=>(r4 b hb).elim (fun ⟨i,hi⟩=>by have:=h.lt b i hi;omega) (h3' b),h5,h6⟩
theorem Qd:(Tryz.prog.info? 28).map (fun i=>(i.zero,i.size,i.bytes))=some (some (.slice none 0 0),1,24):=by kernel_rfl
theorem gX.cells {w:World} {P:Nat→Prop} {A:Option Addr} {n c:Nat} {rows:List (List V)} (h:gX w P A n c rows):∃ cells:List Value,cells.length=n∧aJ w P 28 1 n (.slice A n c) cells∧pV cells∧∀ (i:Nat) (r:List V),rows[i]?=some r→∃ Ai ci,cells[i]?=some (.slice Ai r.length ci)∧aJ w P 85 3 r.length (.slice Ai r.length ci) (aO r):=by
 obtain ⟨h1,cells,h2,h3,h4⟩:=h
 refine ⟨cells,by have:=h2.own.1;omega,h2,h4,fun i r hr=>?_⟩
 obtain ⟨cs,e1,-,⟨Ai,ni,ci,e2,ho⟩,e4⟩:=h3.get hr
 have hn:ni=r.length:=by have:=ho.own.1;rw [kG] at this;omega
 subst hn
 refine ⟨Ai,ci,?_,ho⟩
 have:=e4 0 (by decide)
 rw [e2] at this
 simpa using this
structure ziu (w0 wr:World) (D:Nat→Prop) (Pg:Nat→Prop) (ob rb i:Nat) (L:List (List V)) (cells:List Value):Prop where
 out:∃ AF cF AT cT PF PT cT2,aL wr ob 38 #[.slice AF i cF,.slice AT i cT]∧aJ wr PF 28 1 i (.slice AF i cF) (cells.take i)∧
  aJ wr PT 28 1 i (.slice AT i cT) cT2∧gJ (fun w cs r=>∃ A n c,cs=[.slice A n c]∧aJ w PT 85 3 n (.slice A n c) (aO r)) 1 wr cT2 (L.take i)∧pV cT2∧
  (∀ b,PF b→¬ PT b)∧(∀ b,PF b∨PT b→w0.heap.size≤b∧b<wr.heap.size∧¬ D b∧¬ Pg b∧b≠ob∧b≠rb)
end Go.Proofs.YtahdiiaadjdmcaaGreat
