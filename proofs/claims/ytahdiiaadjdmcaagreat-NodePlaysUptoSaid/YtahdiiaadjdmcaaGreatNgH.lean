import Derived.Test.YtahdiiaadjdmcaaGreatNgG
namespace Go.Proofs.YtahdiiaadjdmcaaGreat
open Go.RowKit
def Dv (K:NK) (a:aR):Nat→Nat→aY
 | 0=>qY (Ii K a) 1 (fT (S1 K a)).1
 | i+1=>qY (Dv K a i) (i+2) (fT (Ii K a (i+2))).1
theorem R_ (K:NK) (a:aR) {i:Nat} (hi:i<2):Dv K a i (i+2)=Ii K a (i+2):=by
 match i,hi with
 | 0,_=>rfl
 | 1,_=>rfl
theorem vp {K:NK} {a:aR} (ho:a.old=none) {L:Nat} (hL:L=if K.kind=3 then 2 else 0):Dv K a L 1=S1 K ⟨a.now,some a.now⟩∧(K.kind=3→Dv K a L 2=S2 K ⟨a.now,some a.now⟩)∧(K.kind=3→Dv K a L 3=S3 K ⟨a.now,some a.now⟩):=by
 have e:∀ S:aY,S.old=none→(fT S).1 = {S with old:=some S.rows}:=fun S h=>by unfold fT;rw [h]
 have h1:(fT (S1 K a)).1=S1 K ⟨a.now,some a.now⟩:=by rw [e _ (by unfold S1;rw [ho];rfl)];rfl
 have h2:(fT (S2 K a)).1=S2 K ⟨a.now,some a.now⟩:=by rw [e _ (by unfold S2;rw [ho];rfl)];rfl
 have h3:(fT (S3 K a)).1=S3 K ⟨a.now,some a.now⟩:=by rw [e _ (by unfold S3;rw [ho];rfl)];rfl
 by_cases hk:K.kind=3
 ·rw [if_pos hk] at hL
  subst hL
  exact ⟨by simp [Dv,qY,h1],fun _=>by simp [Dv,qY,Ii,h2],fun _=>by simp [Dv,qY,Ii,h3]⟩
 ·rw [if_neg hk] at hL
  subst hL
  exact ⟨by simp [Dv,qY,h1],fun h=>absurd h hk,fun h=>absurd h hk⟩
theorem ym (K:NK) (v:eT):(dM K v).length=if K.kind=3 then 2 else 0:=by unfold dM;split <;> rfl
theorem zaq {K:NK} {v:eT} {i x:Nat} (h:(dM K v)[i]?=some x):x=Ln v (i+2)∧i<2∧(K.kind=3∧(i+2=2∨i+2=3)):=by
 unfold dM at h
 by_cases hk:K.kind=3
 ·rw [if_pos hk] at h
  match i,h with
  | 0,h=>exact ⟨by simpa [Ln] using h.symm,by decide,hk,.inl rfl⟩
  | 1,h=>exact ⟨by simpa [Ln] using h.symm,by decide,hk,.inr rfl⟩
  | i+2,h=>simp at h
 ·rw [if_neg hk] at h;simp at h
theorem Sh {b:Nat} {xs:List Nat} {u:Value} {w:World} (h:oG b xs u w):∃ A c,u=.slice A xs.length c∧∀ (i x:Nat),xs[i]?=some x→∃ g,b≤g∧A=some ⟨g,0,none⟩∧aL w g 88 (lF xs).toArray:=by
 rcases h with ⟨rfl,rfl⟩ | ⟨h,g,hg,rfl,hb⟩
 ·exact ⟨none,0,rfl,fun i x hx=>by simp at hx⟩
 ·exact ⟨_,_,rfl,fun i x hx=>⟨g,hg,rfl,hb⟩⟩
theorem fD.openS {w:World} {lab:aP} {K:NK} {v:eT} {a:aR} {N:Nat} {S:aY} (h:fD w lab K v a S N):yJ w lab K v a (qY (Ii K a) 1 S) N:=⟨h.r.lt,h.r.part 0,h.s,h.r.part 2,h.r.part 3,h.r.part 4,h.r.part 5⟩
theorem ζ {K:NK} {a:aR} (ho:a.old=none) (j:Nat):(Ii K a j).old=none:=by
 unfold Ii
 split
 ·unfold S1;rw [ho];rfl
 ·split
  ·unfold S2;rw [ho];rfl
  ·unfold S3;rw [ho];rfl
theorem Zf {S:aY} (h:S.old=none):(fT S).2=0:=by unfold fT;rw [h]
section
variable {w:World} {lab:aP} {K:NK} {v:eT} {a:aR} {N:Nat}
set_option maxRecDepth 100000 in
theorem Mm (h:fD w lab K v a (S1 K a) N) {o:cR} (ho:a.old=some o) :
 Calls Tryz.prog 26 #[.pointer (some ⟨v.n,0,none⟩)] w fun e w'=>e=.returned (.int .i64 64)∧Iu w lab K v a (S1 K a) (N+1) w':=by
 have HB:=Bn h.s
 have hb:fT (S1 K a)=(S1 K a,64):=by unfold fT S1;rw [ho];rfl
 rw [hb] at HB
 have HB:=aA HB
 obtain ⟨n0,-⟩:=h.r.kind
 have a6:=h.r.rows6
 have HQ:=aA h
 clear h hb ho
 go_enter Tryz.func26,Tryz.ntmps26
 go_wp2_with ((with_reducible refine HB.out.mono ?_);rintro e w2 ⟨rfl,h2⟩;have T2:=aA (HQ.out.live (Nat.le_add_right N 1) h2);clear h2)
 go_ret
 exact ⟨rfl,T2.out⟩
set_option maxRecDepth 100000 in
set_option maxHeartbeats 2000000 in
theorem η (h:fD w lab K v a (S1 K a) N) (hK:fN K) (ho:a.old=none) :
 Calls Tryz.prog 26 #[.pointer (some ⟨v.n,0,none⟩)] w fun e w'=>e=.returned (.int .i64 0)∧∃ lab' v',v'.n=v.n∧fD w' lab' K v' ⟨a.now,some a.now⟩ (S1 K ⟨a.now,some a.now⟩) (N+3)∧eU w lab w' lab':=by
 have HB:=Bn h.s
 have hb:(fT (S1 K a)).2=0:=by unfold fT S1;rw [ho];rfl
 rw [hb] at HB
 have HB:=aA HB
 have zjx:=aA (fun j=>Zf (ζ (K:=K) ho j))
 obtain ⟨n0,-⟩:=h.r.kind
 have a6:=h.r.rows6
 have HQ:=aA h;have Ym:=aA (vp (K:=K) ho (ym K v));have yG:=aA hK
 have zkV:=Ca K v
 have zfp:=pD hK
 clear h hb ho
 go_enter Tryz.func26,Tryz.ntmps26
 go_upto_region 4 with ((with_reducible refine HB.out.mono ?_);rintro e w1 ⟨rfl,h2⟩;have T2:=aA (HQ.out.live (Nat.le_add_right N 1) h2);clear h2)
 obtain ⟨lab1,q1,st1⟩:=T2.out
 have Q1:=aA q1;have zjQ:=aA st1;have HD:=aA q1.dom
 obtain ⟨f,hm,hc⟩:=Bo q1.r hK
 have he:=(hc w1 (aD.refl w1)).1 #[.pointer (some ⟨v.k,0,none⟩)] w1
 have HS:=aA (hc w1 (aD.refl w1)).2
 have n1:=q1.r.kind.2.1
 clear T2 q1 st1 hc n0 a6 hK
 go_upto_region 5 with ((with_reducible refine HS.out.mono ?_);rintro e w2 ⟨u,rfl,hsts,hx⟩;obtain ⟨A,c,rfl,cV⟩:=Sh hsts;have HC:=aA cV;have X2:=aA hx;clear hx hsts cV)
 have zbp:=aA (Q1.out.openS.ext X2.out)
 clear HS hm he n1
 go_loopw [25] (fun s25 w'=>∃ (i:Nat) (lab4:aP),i≤(dM K v).length∧s25=.int .i64 i∧Hid (yJ w' lab4 K v a (Dv K a i) (N+1+i))∧Hid (eU w2 lab1 w' lab4)) (fun s25 _=>(dM K v).length - (intOf s25).toNat)
 case atStart=>exact ⟨0,lab1,by omega,rfl,zbp.out,wQ _ _⟩
 case round=>
  obtain ⟨i,lab4,hi,rfl,hQ,hSt⟩:=hrel
  by_cases j0:i<(dM K v).length
  ·obtain ⟨x,hx⟩ : ∃ x,(dM K v)[i]?=some x:=⟨_,List.getElem?_eq_getElem j0⟩
   have gE:=zaq hx
   obtain ⟨g,hg,hA,hb⟩:=HC.out i x hx
   subst hA
   have d_:(lF (dM K v))[i]?=some (.pointer (some ⟨x,0,none⟩)):=by unfold lF;rw [List.getElem?_map,hx];rfl
   have zU:=hSt.out.2.blk hb fun hd=>by have h2:=HD.out g hd;omega
   have e0:=zU.cell i
   rw [List.getElem?_toArray,d_] at e0
   have fI:=hQ.out.sti (.inr gE.2.2)
   rw [R_ K a gE.2.1] at fI
   have Vi:=Bn fI
   rw [zjx.out (i+2),← gE.1] at Vi
   have Vi:=aA Vi
   have Bu:=aA gE
   clear hx d_ hb zU fI gE
   go_wp2_with ((with_reducible refine Vi.out.mono ?_);rintro e w4 ⟨rfl,hs⟩;have S4:=aA hs;clear hs)
   go_roundw
   case rel=>
    obtain ⟨lab5,q5,st5⟩:=hQ.out.call (.inr Bu.out.2.2) (Nat.le_succ (N+1+i)) (Bu.out.1 ▸ S4.out)
    exact ⟨i+1,lab5,by omega,by go_num,q5,bB hSt.out st5⟩
   case measure=>simp [intOf];omega
  ·obtain rfl:i=(dM K v).length:=by omega
   obtain ⟨t1,t2,t3⟩:=Ym.out
   have n0:wr.cell? ⟨v.n,1,none⟩=some (.iface (cI K) (ptr v.k)):=hQ.out.p0.1.1.cell 1
   have zeb:=aA (bB zjQ.out (bB (cM X2.out) hSt.out))
   by_cases hk:K.kind=2
   ·have Zw:∀ v w,(Instr.typeAssert (.iface (cI K) v) 46 105 true).run Tryz.prog w=.ok (.tuple #[v,.bool true]) w:=fun v w=>by rw [pD yG.out v w,if_pos hk,decide_eq_true hk]
    have hb:=hQ.out.p0.2.2.1.1
    rw [(eI hk v).2] at hb
    have k1:wr.cell? ⟨v.k,1,none⟩=some (.map (some v.m1)):=hb.cell 1
    have uG:=aA hb
    have zh8:=aA (hQ.out.p4 hk)
    obtain ⟨p,oK,-⟩:=hQ.out.p5 hk
    have zki:=aA oK
    have qC:∃ n σ,n≤N+1+(dM K v).length∧Hid (jB wr v.m1 n σ)∧Hid (∀ own,yL K.width own→σ (n8 (pk own))=if bY a.now.ons a.now.cnt own=0 then none else some (.int .i64 (bY a.now.ons a.now.cnt own:Nat))):=zh8.out.2
    obtain ⟨n,σ,hn,hm,hs⟩:=qC
    have oR:=aA (Uj hm.out)
    clear zfp hb oK
    go_wp2_with ((with_reducible refine oR.out.mono ?_);rintro e w5 ⟨g,rfl,Nv,Mf,hm5,zz⟩;have M5:=aA hm5;have X5:=aA zz;have f2:=(uG.out.ext zz).frozen 2;have c2:=(uG.out.ext zz).cell 2;clear hm5 zz)
    go_ret
    have Vo:=uG.out.ext X5.out
    have e2:(jO K v).setIfInBounds 2 (.map (some g))=jO K {v with m1:=v.m1,m2:=.map (some g)}:=by rw [(eI hk v).2,(eI hk _).2];rfl
    obtain ⟨lab6,q6,d6,c6⟩:=(hQ.out.ext X5.out).trim hk (a':=⟨a.now,some a.now⟩) (g:=g) (j:=5) (i:=2) (m:=v.m1) (p2:=some g) (q:=p) (u:=.map (some g)) Mf
     (fun k jT=>by have:=zeb.out;have:=hQ.out.lt g k jT;omega) (.inr rfl) (by rw [← zki.out];exact Vo.cell 2) e2 t1
     (fun w' B hf hB _=>⟨hB _ zh8.out.1,n,σ,hn,(hm.out.ext X5.out).block (hf _ ((hm.out.ext X5.out).ne_blk Vo)),hs.out⟩)
     (fun w' B hf hB o ho=>by
      obtain rfl:a.now=o:=by injection ho
      exact ⟨g,rfl,hB rfl,n,σ,hn,M5.out.block (hf _ (M5.out.ne_blk Vo)),hs.out⟩)
    refine ⟨rfl,lab6,{v with m1:=v.m1,m2:=.map (some g)},rfl,q6.more (by omega),bB zeb.out ⟨fun b hb=>(d6 b hb).imp id fun e=>by omega,?_⟩⟩
    exact (aF.of X5.out).trans' c6
   ·have Zw:∀ v w,(Instr.typeAssert (.iface (cI K) v) 46 105 true).run Tryz.prog w=.ok (.tuple #[.pointer none,.bool false]) w:=fun v w=>by rw [pD yG.out v w,if_neg hk,decide_eq_false hk]
    clear zfp
    go_wp2_with fail
    go_ret
    exact ⟨rfl,lab4,v,rfl,(hQ.out.more (by omega)).shut t1 t2 t3 (fun h=>absurd h hk) (fun h=>absurd h hk),zeb.out⟩
end
theorem Np (K:NK) (a:aR):(fX (S1 K a)).1=S1 K (cX a).1∧(fX (S2 K a)).1=S2 K (cX a).1∧(fX (S3 K a)).1=S3 K (cX a).1:=by
 obtain ⟨n,o⟩:=a
 cases o <;> exact ⟨rfl,rfl,rfl⟩
theorem Y1 (K:NK) (a:aR):(qD (S1 K a)).1=S1 K (fS a).1∧(qD (S2 K a)).1=S2 K (fS a).1∧(qD (S3 K a)).1=S3 K (fS a).1:=by
 obtain ⟨n,o⟩:=a
 cases o <;> exact ⟨rfl,rfl,rfl⟩
theorem Uv (a:aR):(if a.old.isSome then (0:Int) else 65)=(cX a).2∧(if a.old.isSome then (0:Int) else 65)=(fS a).2:=by
 obtain ⟨n,o⟩:=a
 cases o <;> exact ⟨rfl,rfl⟩
section
variable {w:World} {lab:aP} {K:NK} {v:eT} {a:aR} {N:Nat}
set_option maxRecDepth 100000 in
theorem Li (h:fD w lab K v a (S1 K a) N) (hK:fN K) :
 Calls Tryz.prog 56 #[.pointer (some ⟨v.n,0,none⟩)] w fun e w'=>e=.returned (.int .i64 (cX a).2)∧Iu w lab K v (cX a).1 (S1 K (cX a).1) (N+3) w':=by
 have HE:=Kb h hK
 rw [(Uv a).1] at HE
 have HE:=aA HE
 clear h
 go_enter Tryz.func56,Tryz.ntmps56
 go_wp2_with ((with_reducible refine HE.out.mono ?_);rintro e w2 ⟨rfl,lab2,q2,st2⟩;have Q2:=aA q2;have fR:=aA st2;clear q2 st2)
 go_ret
 obtain ⟨c1,c2,c3⟩:=Np K a
 obtain ⟨d1,d2,d3⟩:=J4 K (fun S=>(fX S).1) (Ii K a)
 have hn:(cX a).1.now=a.now:=by unfold cX;split <;> rfl
 have ho:∀ o,(cX a).1.old=some o→a.old=some o:=fun o=>by unfold cX;split <;> simp
 refine ⟨rfl,lab2,Q2.out.shut (d1.trans c1) (fun hk=>(d2 hk).trans c2) (fun hk=>(d3 hk).trans c3) (fun hk=>by rw [hn];exact Q2.out.p4 hk) (fun hk=>?_),fR.out⟩
 obtain ⟨p,e,hp⟩:=Q2.out.p5 hk
 exact ⟨p,e,fun o h2=>hp o (ho o h2)⟩
set_option maxRecDepth 100000 in
set_option maxHeartbeats 1000000 in
theorem Dw (h:fD w lab K v a (S1 K a) N) (hK:fN K) (hN:N+3≤8796093022208) :
 Calls Tryz.prog 27 #[.pointer (some ⟨v.n,0,none⟩)] w fun e w'=>e=.returned (.int .i64 (fS a).2)∧∃ lab' v',v'.n=v.n∧fD w' lab' K v' (fS a).1 (S1 K (fS a).1) (N+3)∧eU w lab w' lab':=by
 have HE:=Uk h hK hN
 obtain ⟨c1,c2,c3⟩:=Y1 K a
 obtain ⟨d1,d2,d3⟩:=J4 K (fun S=>(qD S).1) (Ii K a)
 have T1:=aA (d1.trans c1);have T2:=aA (fun hk=>(d2 hk).trans c2);have T3:=aA (fun hk=>(d3 hk).trans c3)
 have yG:=aA hK
 clear h hN hK c1 c2 c3 d1 d2 d3
 cases ho:a.old with
 |none=>
  have hr:fS a=(a,65):=by unfold fS;rw [ho]
  rw [ho] at HE
  rw [hr] at T1 T2 T3 ⊢
  have HE:=aA HE
  clear ho hr
  have Zw:∀ v w,∃ u b,(Instr.typeAssert (.iface (cI K) v) 46 105 true).run Tryz.prog w=.ok (.tuple #[u,.bool b]) w:=fun v w=>⟨_,_,pD yG.out v w⟩
  obtain ⟨u,b,hb⟩ : ∃ u b,∀ w,(Instr.typeAssert (.iface (cI K) (ptr v.k)) 46 105 true).run Tryz.prog w=.ok (.tuple #[u,.bool b]) w:=⟨_,_,fun w=>pD yG.out _ w⟩
  clear Zw
  cases b <;> (
   go_enter Tryz.func27,Tryz.ntmps27
   go_wp2_with ((with_reducible refine HE.out.mono ?_);rintro e w2 ⟨rfl,lab2,q2,st2⟩;have Q2:=aA q2;have fR:=aA st2;have n1:w2.cell? ⟨v.n,1,none⟩=some (.iface (cI K) (ptr v.k)):=q2.p0.1.1.cell 1;clear q2 st2)
   go_ret
   exact ⟨rfl,lab2,v,rfl,Q2.out.shut T1.out T2.out T3.out Q2.out.p4 Q2.out.p5,fR.out⟩)
 |some o=>
  have hr:fS a=(⟨o,none⟩,0):=by unfold fS;rw [ho]
  rw [ho] at HE
  rw [hr] at T1 T2 T3 ⊢
  have HE:=aA HE
  have HO:=aA ho
  clear ho hr
  by_cases hk:K.kind=2
  ·have zfp:∀ v w,(Instr.typeAssert (.iface (cI K) v) 46 105 true).run Tryz.prog w=.ok (.tuple #[v,.bool true]) w:=fun v w=>by rw [pD yG.out v w,if_pos hk,decide_eq_true hk]
   go_enter Tryz.func27,Tryz.ntmps27
   go_upto_region 2 with ((with_reducible refine HE.out.mono ?_);rintro e w2 ⟨rfl,lab2,q2,st2⟩;have Q2:=aA q2;have fR:=aA st2;clear q2 st2)
   have n1:w2.cell? ⟨v.n,1,none⟩=some (.iface (cI K) (ptr v.k)):=Q2.out.p0.1.1.cell 1
   have hb:=Q2.out.p0.2.2.1.1
   rw [(eI hk v).2] at hb
   have uG:=aA hb
   have k1:w2.cell? ⟨v.k,1,none⟩=some (.map (some v.m1)):=hb.cell 1
   have f1:=hb.frozen 1
   have k2:w2.cell? ⟨v.k,2,none⟩=some v.m2:=hb.cell 2
   obtain ⟨p,hp,oK⟩:=Q2.out.p5 hk
   obtain ⟨b,rfl,zdk⟩:=oK o HO.out
   have HP:=aA hp;have Uw:=aA zdk
   rw [hp] at k2
   clear hb hp oK zdk
   go_wp2_with fail
   go_ret
   obtain ⟨hB5,n,σ,hn,hm,hs⟩:=Uw.out
   have e2:(jO K v).setIfInBounds 1 (.map (some b))=jO K {v with m1:=b,m2:=.map (some b)}:=by rw [(eI hk v).2,(eI hk _).2,HP.out];rfl
   obtain ⟨lab6,q6,d6,c6⟩:=Q2.out.trim hk (a':=⟨o,none⟩) (g:=b) (j:=4) (i:=1) (m:=b) (p2:=some b) (q:=some v.m1) (u:=.map (some b)) (Q2.out.lt b 5 hB5)
    (fun k jT=>by rw [show lab2 b=some 5 from hB5] at jT;injection jT with jT;exact jT.symm) (.inl rfl) (uG.out.cell 1) e2 T1.out
    (fun w' B hf _ hB=>⟨hB rfl,n,σ,hn,hm.block (hf _ (hm.ne_blk uG.out)),hs⟩)
    (fun w' B hf hB o ho=>by cases ho)
   refine ⟨rfl,lab6,{v with m1:=b,m2:=.map (some b)},rfl,q6,bB fR.out ⟨fun x hx=>.inl ((d6 x hx).elim id fun e=>e ▸ ⟨5,hB5⟩),c6⟩⟩
  ·have zfp:∀ v w,(Instr.typeAssert (.iface (cI K) v) 46 105 true).run Tryz.prog w=.ok (.tuple #[.pointer none,.bool false]) w:=fun v w=>by rw [pD yG.out v w,if_neg hk,decide_eq_false hk]
   go_enter Tryz.func27,Tryz.ntmps27
   go_wp2_with ((with_reducible refine HE.out.mono ?_);rintro e w2 ⟨rfl,lab2,q2,st2⟩;have Q2:=aA q2;have fR:=aA st2;have n1:w2.cell? ⟨v.n,1,none⟩=some (.iface (cI K) (ptr v.k)):=q2.p0.1.1.cell 1;clear q2 st2)
   go_ret
   exact ⟨rfl,lab2,v,rfl,Q2.out.shut T1.out T2.out T3.out (fun h=>absurd h hk) (fun h=>absurd h hk),fR.out⟩
end
section
variable {w:World} {lab:aP} {K:NK} {v:eT} {a:aR} {N:Nat}
theorem v_ (h:fD w lab K v a (S1 K a) N) (hK:fN K) (hO:iS K a.now) (hN:N+262145≤8796093022208) {r:List V} {A:Option Addr} {n:Nat} (c:Nat) (ha:bD w A n r) (hA:dR lab.dom A) :
 ∃ f, (∀ (u : Value) (w : World), (method 359 (cI K) u "osier/node.support").run Tryz.prog w = .ok (f, u) w) ∧ Enters Tryz.prog f ∧ Calls Tryz.prog f #[.pointer (some ⟨v.k, 0, none⟩), .slice A n c] w fun e w2 => e = .returned (.int .i64 (vG K a.now r)) ∧ Iu w lab K v a (S1 K a) (N + 2) w2 := by
 unfold cI
 rcases hK.kind with hk | hk | hk
 ·rw [if_neg (by omega),if_neg (by omega)]
  refine ⟨_,uR,enters_of Tryz.func168 (by kernel_rfl) rfl,(Z5 h hk hN c ha).mono ?_⟩
  rintro e w2 ⟨rfl,lab2,q,st⟩
  exact ⟨rfl,lab2,q.more (by omega),st⟩
 ·rw [if_pos hk]
  refine ⟨_,uW,enters_of Tryz.func163 (by kernel_rfl) rfl,(jd h hO hk (by omega) c ha hA).mono ?_⟩
  rintro e w2 ⟨rfl,lab2,q,st⟩
  exact ⟨rfl,lab2,q.more (by omega),st⟩
 ·rw [if_neg (by omega),if_pos hk]
  exact ⟨_,uJ,enters_of Tryz.func131 (by kernel_rfl) rfl,X0 h hk (by omega) c ha hA⟩
set_option maxRecDepth 100000 in
theorem Ig (h:fD w lab K v a (S1 K a) N) (hK:fN K) (hO:iS K a.now) (hN:N+262145≤8796093022208) {r:List V} {A:Option Addr} {n:Nat} (c:Nat) (ha:bD w A n r) (hA:dR lab.dom A) :
 Calls Tryz.prog 21 #[.pointer (some ⟨v.n,0,none⟩),.slice A n c] w fun e w'=>e=.returned (.int .i64 (vG K a.now r))∧Iu w lab K v a (S1 K a) (N+2) w':=by
 obtain ⟨f,hm,he,hc⟩:=v_ h hK hO hN c ha hA
 have HC:=aA hc
 have n1:=h.r.kind.2.1
 have he:=he #[.pointer (some ⟨v.k,0,none⟩),.slice A n c] w
 clear h ha hA hc hK hO
 go_enter Tryz.func21,Tryz.ntmps21
 go_wp2_with ((with_reducible refine HC.out.mono ?_);rintro e w2 ⟨rfl,h2⟩;have S2:=aA h2;clear h2)
 go_ret
 exact ⟨rfl,S2.out⟩
set_option maxRecDepth 100000 in
theorem Lt (h:fD w lab K v a (S1 K a) N) (hK:fN K) :
 Calls Tryz.prog 14 #[.pointer (some ⟨v.n,0,none⟩)] w fun e w'=>e=.returned (.int .i64 (nR K a.now:Nat))∧aD w w':=by
 have n1:=h.r.kind.2.1
 have n0:=h.r.kind.1
 have a6:=h.r.rows6
 have H1:=Qs h.s
 by_cases hk:K.kind=3
 ·have Zw:∀ v w,(Instr.typeAssert (.iface (cI K) v) 46 91 true).run Tryz.prog w=.ok (.tuple #[v,.bool true]) w:=fun v w=>by rw [Qi hK v w,if_pos hk,decide_eq_true hk]
  have H2:=Qs (h.r.part 2 hk)
  have k1:=(h.r.meet hk).2.1
  rw [show (S2 K a).rows.length=nR K a.now by unfold nR;rw [if_pos hk];rfl] at H2
  have H2:=aA H2
  clear h hK H1
  go_enter Tryz.func14,Tryz.ntmps14
  go_wp2_with ((with_reducible refine H2.out.mono ?_);rintro e w2 ⟨rfl,h2⟩;have S2:=aA h2;clear h2)
  go_ret
  exact ⟨rfl,S2.out⟩
 ·have Zw:∀ v w,(Instr.typeAssert (.iface (cI K) v) 46 91 true).run Tryz.prog w=.ok (.tuple #[.pointer none,.bool false]) w:=fun v w=>by rw [Qi hK v w,if_neg hk,decide_eq_false hk]
  rw [show (S1 K a).rows.length=nR K a.now by unfold nR;rw [if_neg hk];rfl] at H1
  have H1:=aA H1
  clear h hK
  go_enter Tryz.func14,Tryz.ntmps14
  go_wp2_with ((with_reducible refine H1.out.mono ?_);rintro e w2 ⟨rfl,h2⟩;have S2:=aA h2;clear h2)
  go_ret
  exact ⟨rfl,S2.out⟩
end
abbrev bU (P:Nat→Prop) (w w':World):Prop:=aF (fun b=>¬ P b) w w'
def And' (P:Nat→Prop) (a b:Nat):Nat→Prop:=fun g=>P g∨(a≤g∧g<b)
structure NP (w0 w:World) (n l:Nat) (K:NK) (a:aR) (N:Nat) (P:Nat→Prop):Prop where
 ok:fN K
 now:iS K a.now
 old:∀ o,a.old=some o→iS K o
 at_:∃ lab v,fD w lab K v a (S1 K a) N∧v.n=n∧v.l=l∧∀ b,lab.dom b→w0.heap.size≤b∧¬ P b
 ext0:aD w0 w
 lt:∀ b,P b→b<w.heap.size
section
variable {w0 w w':World} {n l:Nat} {K:NK} {a:aR} {N:Nat} {P Q:Nat→Prop}
theorem NP.of {B:Nat→Prop} (h:Vh w B n K a N) (hb:∀ b,B b→w0.heap.size≤b) (he:aD w0 w):∃ l,NP w0 w n l K a N fun _=>False:=by
 obtain ⟨lab,v,h1,h2,h3⟩:=h.at_
 exact ⟨v.l,h.ok,h.now,h.old,⟨lab,v,h1,h2,rfl,fun b hx=>⟨hb b (h3 b hx),id⟩⟩,he,fun b hx=>hx.elim⟩
theorem NP.mono (h:NP w0 w n l K a N P) (hq:∀ b,Q b→P b):NP w0 w n l K a N Q:=by
 obtain ⟨lab,v,h1,h2,h3,h4⟩:=h.at_
 exact ⟨h.ok,h.now,h.old,⟨lab,v,h1,h2,h3,fun b hb=>⟨(h4 b hb).1,fun hp=>(h4 b hb).2 (hq b hp)⟩⟩,h.ext0,fun b hb=>h.lt b (hq b hb)⟩
theorem NP.more (h:NP w0 w n l K a N P) {M:Nat} (hM:N≤M):NP w0 w n l K a M P:=by
 obtain ⟨lab,v,h1,h2,h3,h4⟩:=h.at_
 exact ⟨h.ok,h.now,h.old,⟨lab,v,h1.more hM,h2,h3,h4⟩,h.ext0,h.lt⟩
theorem NP.ext (h:NP w0 w n l K a N P) (hw:aD w w'):NP w0 w' n l K a N (And' P w.heap.size w'.heap.size):=by
 obtain ⟨lab,v,h1,h2,h3,h4⟩:=h.at_
 have hs:=hw.size
 exact ⟨h.ok,h.now,h.old,⟨lab,v,h1.ext hw,h2,h3,fun b hb=>⟨(h4 b hb).1,fun hp=>hp.elim (h4 b hb).2 fun hx=>by obtain ⟨i,hi⟩:=hb;have:=h1.r.lt b i hi;omega⟩⟩,h.ext0.trans hw,fun b hb=>hb.elim (fun hx=>Nat.lt_of_lt_of_le (h.lt b hx) hs) fun hx=>hx.2⟩
theorem NP.chgP (h:NP w0 w n l K a N P) (hc:aF Q w w') (hQ:∀ b,Q b→P b) (hQ0:∀ b,Q b→w0.heap.size≤b):NP w0 w' n l K a N (And' P w.heap.size w'.heap.size):=by
 obtain ⟨lab,v,h1,h2,h3,h4⟩:=h.at_
 have hs:=hc.size
 exact ⟨h.ok,h.now,h.old,⟨lab,v,h1.chg hc fun g hg hq=>(h4 g hg).2 (hQ g hq),h2,h3,fun b hb=>⟨(h4 b hb).1,fun hp=>hp.elim (h4 b hb).2 fun hx=>by obtain ⟨i,hi⟩:=hb;have:=h1.r.lt b i hi;omega⟩⟩,hc.ext h.ext0 hQ0,fun b hb=>hb.elim (fun hx=>Nat.lt_of_lt_of_le (h.lt b hx) hs) fun hx=>hx.2⟩
theorem NP.size0 (h:NP w0 w n l K a N P):w0.heap.size≤w.heap.size:=h.ext0.size
theorem NP.cell0 (h:NP w0 w n l K a N P):w.cell? ⟨n,0,none⟩=some (ptr l):=by
 obtain ⟨lab,v,h1,rfl,rfl,h4⟩:=h.at_
 exact h1.r.kind.1
theorem NP.step {lab:aP} {v':eT} {a':aR} {N':Nat} (h:NP w0 w n l K a N P) (hn:v'.n=n) (h4:∀ b,lab.dom b→w0.heap.size≤b∧¬ P b) (o1:iS K a'.now) (o2:∀ o,a'.old=some o→iS K o) {lab':aP} (hq:fD w' lab' K v' a' (S1 K a') N') (hs:eU w lab w' lab'):NP w0 w' n v'.l K a' N' P∧bU P w w':=by
 have h0:=h.size0
 exact ⟨⟨h.ok,o1,o2,⟨lab',v',hq,hn,rfl,fun b hb=>(hs.1 b hb).elim (h4 b) fun hx=>⟨by omega,fun hp=>by have:=h.lt b hp;omega⟩⟩,hs.2.ext h.ext0 fun g hg=>(h4 g hg).1,fun b hb=>Nat.lt_of_lt_of_le (h.lt b hb) hs.2.size⟩,hs.2.mono fun g hg _=>(h4 g hg).2⟩
theorem NP.stepT {lab:aP} {v:eT} {N':Nat} (h:NP w0 w n l K a N P) (hn:v.n=n) (hl:v.l=l) (h4:∀ b,lab.dom b→w0.heap.size≤b∧¬ P b) (hq:Iu w lab K v a (S1 K a) N' w'):NP w0 w' n l K a N' P∧bU P w w':=by
 obtain ⟨lab',h1,h2⟩:=hq
 subst hl
 exact h.step hn h4 h.now h.old h1 h2
theorem NP.stepM {lab:aP} {v:eT} {N' M:Nat} (h:NP w0 w n l K a N P) (hn:v.n=n) (hl:v.l=l) (h4:∀ b,lab.dom b→w0.heap.size≤b∧¬ P b) (hq:Ul w lab K v a (S1 K a) N' w' M):NP w0 w' n l K a N' (And' P M w'.heap.size)∧bU P w w'∧w.heap.size≤M:=by
 have hs:=h.stepT hn hl h4 hq.ndt
 obtain ⟨lab',h1,h2,h3,h5,h6⟩:=hq
 have h0:=h.size0
 refine ⟨⟨h.ok,h.now,h.old,⟨lab',v,h1,hn,hl,fun b hb=>⟨(h2.1 b hb).elim (fun hx=>(h4 b hx).1) fun hx=>by omega,fun hp=>hp.elim (fun hp=>(h2.1 b hb).elim (fun hx=>(h4 b hx).2 hp) fun hx=>by have:=h.lt b hp;omega) fun hx=>by have:=h3 b hb;omega⟩⟩,hs.1.ext0,fun b hb=>hb.elim (fun hx=>hs.1.lt b hx) fun hx=>hx.2⟩,hs.2,h5⟩
theorem NP.has (h:NP w0 w n l K a N P) (hN:N+1≤8796093022208) {r:List V} {A:Option Addr} {m:Nat} (c:Nat) (ha:bD w A m r) :
 Calls Tryz.prog 20 #[.pointer (some ⟨l,0,none⟩),.slice A m c] w fun e w'=>e=.returned (.bool (inB a.now.live r))∧NP w0 w' n l K a (N+1) P∧bU P w w':=by
 obtain ⟨lab,v,h1,h2,h3,h4⟩:=h.at_
 have hc:=qV h1 hN c ha
 rw [h3] at hc
 refine hc.mono ?_
 rintro e w' ⟨rfl,ht⟩
 exact ⟨rfl,h.stepT h2 h3 h4 ht⟩
theorem NP.rows (h:NP w0 w n l K a N P) :
 Calls Tryz.prog 13 #[.pointer (some ⟨l,0,none⟩)] w fun e w'=>∃ A c M,e=.returned (.slice A a.now.live.length c)∧eA M w' A a.now.live.length c a.now.live∧NP w0 w' n l K a (N+1) (And' P M w'.heap.size)∧bU P w w'∧w.heap.size≤M:=by
 obtain ⟨lab,v,h1,h2,h3,h4⟩:=h.at_
 have hc:=Rt h1
 rw [h3] at hc
 refine hc.mono ?_
 rintro e w' ⟨A,c,M,rfl,hm,ht⟩
 exact ⟨A,c,M,rfl,hm,h.stepM h2 h3 h4 ht⟩
theorem NP.group (h:NP w0 w n l K a N P) (hN:N+1≤8796093022208) {r:List V} {A:Option Addr} {m:Nat} (c:Nat) (ha:bD w A m r) :
 Calls Tryz.prog 49 #[.pointer (some ⟨l,0,none⟩),.slice A m c] w fun e w'=>∃ A' c' M,e=.returned (.slice A' (gY (S1 K a) 0 r).length c')∧eA M w' A' (gY (S1 K a) 0 r).length c' (gY (S1 K a) 0 r)∧NP w0 w' n l K a (N+1) (And' P M w'.heap.size)∧bU P w w'∧w.heap.size≤M:=by
 obtain ⟨lab,v,h1,h2,h3,h4⟩:=h.at_
 have hc:=Pu h1 hN rfl c ha
 rw [h3] at hc
 refine hc.mono ?_
 rintro e w' ⟨A,c,M,rfl,hm,ht⟩
 exact ⟨A,c,M,rfl,hm,h.stepM h2 h3 h4 ht⟩
def Gp (w0 w:World) (n l:Nat) (K:NK) (a:aR) (N:Nat) (P:Nat→Prop) (o:Option (List V)) (f:Value→Bool→Ending) (e:Ending) (w':World):Prop:=match o with
 | none=>e=f (.slice none 0 0) false∧NP w0 w' n l K a N P∧bU P w w'
 | some r=>∃ A c Q,e=f (.slice A r.length c) true∧aW w' A r.length r∧(∀ x,A=some x→Q x.block)∧(∀ b,P b→Q b)∧(∀ b,Q b→P b∨w.heap.size≤b)∧NP w0 w' n l K a N Q∧bU P w w'
theorem Gp.of {lab:aP} {v:eT} {N':Nat} {o:Option (List V)} {f:Value→Bool→Ending} {e:Ending} (h:NP w0 w n l K a N P) (hn:v.n=n) (hl:v.l=l) (h4:∀ b,lab.dom b→w0.heap.size≤b∧¬ P b) (hq:vw w lab K v a (S1 K a) N' o f e w'):Gp w0 w n l K a N' P o f e w':=by
 cases o with
 |none=>
  obtain ⟨rfl,ht⟩:=hq
  exact ⟨rfl,h.stepT hn hl h4 ht⟩
 |some r=>
  obtain ⟨A,c,M,rfl,ho,ht⟩:=hq
  obtain ⟨k1,k2,k3⟩:=h.stepM hn hl h4 ht
  refine ⟨A,c,_,rfl,aW.own ho,fun x hx=>.inr ?_,fun b hb=>.inl hb,fun b hb=>hb.imp id fun hx=>by omega,k1,k2⟩
  exact ho.lt x.block (by rw [hx];rfl)
theorem NP.first (h:NP w0 w n l K a N P) (hN:N+1≤8796093022208) {r:List V} {A:Option Addr} {m:Nat} (c:Nat) (ha:bD w A m r) :
 Calls Tryz.prog 71 #[.pointer (some ⟨l,0,none⟩),.slice A m c] w (Gp w0 w n l K a (N+1) P (gY (S1 K a) 0 r).head? Pd):=by
 obtain ⟨lab,v,h1,h2,h3,h4⟩:=h.at_
 have hc:=Oi h1 hN rfl c ha
 rw [h3] at hc
 exact hc.mono fun e w' hq=>Gp.of h h2 h3 h4 hq
def Qb (w0 w:World) (n l:Nat) (K:NK) (a:aR) (N:Nat) (P:Nat→Prop) (r:List V) (e:Ending) (w':World):Prop:=
 (inB a.now.live r=false∧e=.returned (.tuple #[.slice none 0 0,.bool false,.int .i64 62])∧NP w0 w' n l K a N P∧bU P w w')∨
 (inB a.now.live r=true∧∃ i,(gY (S1 K a) 0 (aE K.up r))[i]?=some r∧Gp w0 w n l K a N P (gY (S1 K a) 0 (aE K.up r))[i+1]? B_ e w')
theorem NP.next (h:NP w0 w n l K a N P) (hN:N+1≤8796093022208) {r:List V} {A:Option Addr} {m:Nat} (c:Nat) (ha:bD w A m r) :
 Calls Tryz.prog 72 #[.pointer (some ⟨l,0,none⟩),.slice A m c] w (Qb w0 w n l K a (N+1) P r):=by
 obtain ⟨lab,v,h1,h2,h3,h4⟩:=h.at_
 have hc:=Tk h1 hN rfl c ha
 rw [h3] at hc
 refine hc.mono ?_
 rintro e w' (⟨k1,k2,k3⟩ | ⟨k1,i,k2,k3⟩)
 ·exact .inl ⟨k1,k2,h.stepT h2 h3 h4 k3⟩
 ·exact .inr ⟨k1,i,k2,Gp.of h h2 h3 h4 k3⟩
theorem NP.support (h:NP w0 w n l K a N P) (hN:N+262145≤8796093022208) {r:List V} {A:Option Addr} {m:Nat} (c:Nat) (ha:bD w A m r) (hA:∀ x,A=some x→P x.block) :
 Calls Tryz.prog 21 #[.pointer (some ⟨n,0,none⟩),.slice A m c] w fun e w'=>e=.returned (.int .i64 (vG K a.now r))∧NP w0 w' n l K a (N+2) P∧bU P w w':=by
 obtain ⟨lab,v,h1,h2,h3,h4⟩:=h.at_
 have hc:=Ig h1 h.ok h.now hN c ha fun x hx hb=>(h4 _ hb).2 (hA x hx)
 rw [h2] at hc
 refine hc.mono ?_
 rintro e w' ⟨rfl,ht⟩
 exact ⟨rfl,h.stepT h2 h3 h4 ht⟩
theorem NP.stored (h:NP w0 w n l K a N P):Calls Tryz.prog 14 #[.pointer (some ⟨n,0,none⟩)] w fun e w'=>e=.returned (.int .i64 (nR K a.now:Nat))∧aD w w':=by
 obtain ⟨lab,v,h1,h2,h3,h4⟩:=h.at_
 have hc:=Lt h1 h.ok
 rw [h2] at hc
 exact hc
theorem NP.begin (h:NP w0 w n l K a N P):Calls Tryz.prog 26 #[.pointer (some ⟨n,0,none⟩)] w fun e w'=>e=.returned (.int .i64 (j7 a).2)∧∃ l',NP w0 w' n l' K (j7 a).1 (N+3) P∧bU P w w':=by
 obtain ⟨lab,v,h1,h2,h3,h4⟩:=h.at_
 cases ho:a.old with
 |some o=>
  have hc:=Mm h1 ho
  rw [h2] at hc
  have hb:j7 a=(a,64):=by unfold j7;rw [ho]
  rw [hb]
  refine hc.mono ?_
  rintro e w' ⟨rfl,ht⟩
  have:=h.stepT h2 h3 h4 ht
  exact ⟨rfl,l,this.1.more (by omega),this.2⟩
 |none=>
  have hc:=η h1 h.ok ho
  rw [h2] at hc
  have hb:j7 a=(⟨a.now,some a.now⟩,0):=by unfold j7;rw [ho]
  rw [hb]
  refine hc.mono ?_
  rintro e w' ⟨rfl,lab',v',hn,hq,hs⟩
  exact ⟨rfl,v'.l,h.step hn h4 h.now (fun o ho2=>(Option.some.inj ho2) ▸ h.now) hq hs⟩
theorem NP.commit (h:NP w0 w n l K a N P):Calls Tryz.prog 56 #[.pointer (some ⟨n,0,none⟩)] w fun e w'=>e=.returned (.int .i64 (cX a).2)∧NP w0 w' n l K (cX a).1 (N+3) P∧bU P w w':=by
 obtain ⟨lab,v,h1,h2,h3,h4⟩:=h.at_
 have hc:=Li h1 h.ok
 rw [h2] at hc
 refine hc.mono ?_
 rintro e w' ⟨rfl,lab',hq,hs⟩
 have hn:(cX a).1.now=a.now:=by unfold cX;split <;> rfl
 have ho:∀ o,(cX a).1.old=some o→a.old=some o:=fun o=>by unfold cX;split <;> simp
 subst h3
 exact ⟨rfl,h.step h2 h4 (by rw [hn];exact h.now) (fun o hx=>h.old o (ho o hx)) hq hs⟩
theorem NP.roll (h:NP w0 w n l K a N P) (hN:N+3≤8796093022208):Calls Tryz.prog 27 #[.pointer (some ⟨n,0,none⟩)] w fun e w'=>e=.returned (.int .i64 (fS a).2)∧∃ l',NP w0 w' n l' K (fS a).1 (N+3) P∧bU P w w':=by
 obtain ⟨lab,v,h1,h2,h3,h4⟩:=h.at_
 have hc:=Dw h1 h.ok hN
 rw [h2] at hc
 refine hc.mono ?_
 rintro e w' ⟨rfl,lab',v',hn,hq,hs⟩
 have hk:iS K (fS a).1.now∧∀ o,(fS a).1.old=some o→iS K o:=by
  cases ho:a.old with
  |none=>
   have hr:fS a=(a,65):=by unfold fS;rw [ho]
   rw [hr];exact ⟨h.now,h.old⟩
  |some o=>
   have hr:fS a=(⟨o,none⟩,0):=by unfold fS;rw [ho]
   rw [hr];exact ⟨h.old o ho,fun o hx=>by cases hx⟩
 exact ⟨rfl,v'.l,h.step hn h4 hk.1 hk.2 hq hs⟩
def eR (P:Nat→Prop) (T:Nat) (w:World) (F U:List (List V)) (y:Value):Prop:=
 ∃ A c A2 c2 X Y,y=.agg #[.slice A F.length c,.slice A2 U.length c2]∧gX w X A F.length c F∧gX w Y A2 U.length c2 U∧(∀ b,X b→¬ Y b)∧∀ b,X b∨Y b→P b∧T≤b
theorem eR.chg {C:Nat→Prop} {T:Nat} {F U:List (List V)} {y:Value} (h:eR P T w F U y) (hw:aF C w w') (hC:∀ b,P b→¬ C b) (hq:∀ b,P b→Q b):eR Q T w' F U y:=by
 obtain ⟨A,c,A2,c2,X,Y,e,h1,h2,h3,h4⟩:=h
 exact ⟨A,c,A2,c2,X,Y,e,h1.chg hw (fun b hb=>hC b (h4 b (.inl hb)).1) (fun _ h=>h),h2.chg hw (fun b hb=>hC b (h4 b (.inr hb)).1) (fun _ h=>h),h3,fun b hb=>⟨hq b (h4 b hb).1,(h4 b hb).2⟩⟩
theorem eR.keep {T:Nat} {F U:List (List V)} {y:Value} (h:eR P T w F U y) (hw:bU P w w') (hq:∀ b,P b→Q b):eR Q T w' F U y:=h.chg hw (fun _ hb hn=>hn hb) hq
theorem eR.ext {T:Nat} {F U:List (List V)} {y:Value} (h:eR P T w F U y) (hw:aD w w') (hq:∀ b,P b→Q b):eR Q T w' F U y:=h.keep (aF.of hw) hq
def xY (w0 w:World) (n l:Nat) (K:NK) (a:aR) (N:Nat) (P:Nat→Prop) (t:rE) (e:Ending) (w':World):Prop:=
 ∃ y Q,e=.returned (.tuple #[y,.int .i64 t.2.2.2])∧NP w0 w' n l K {a with now:=t.1} (N+1048576) Q∧bU P w w'∧(∀ b,P b→Q b)∧(∀ b,Q b→P b∨w.heap.size≤b)∧eR Q w.heap.size w' t.2.1 t.2.2.1 y
theorem xY.of {lab:aP} {v:eT} {t:rE} {e:Ending} (h:NP w0 w n l K a N P) (hn:v.n=n) (hl:v.l=l) (h4:∀ b,lab.dom b→w0.heap.size≤b∧¬ P b) (ho:iS K t.1) (hq:kI w lab K v a (N+1048576) t e w'):xY w0 w n l K a N P t e w':=by
 obtain ⟨y,lab',rfl,h1,h2,A,c,A2,c2,X,Y,rfl,m1,m2,m3,m4⟩:=hq
 have h0:=h.size0
 have hs:=h.step hn h4 (a':={a with now:=t.1}) ho h.old h1 h2
 obtain ⟨lab9,v9,-⟩:=hs.1.at_
 refine ⟨_,fun b=>P b∨(X b∨Y b),rfl,⟨h.ok,ho,h.old,⟨lab',v,h1,hn,hl,fun b hb=>⟨(h2.1 b hb).elim (fun hx=>(h4 b hx).1) fun hx=>by omega,fun hp=>hp.elim (fun hp=>(h2.1 b hb).elim (fun hx=>(h4 b hx).2 hp) fun hx=>by have:=h.lt b hp;omega) fun hx=>(m4 b hx).2.2 hb⟩⟩,hs.1.ext0,fun b hb=>hb.elim (hs.1.lt b) fun hx=>(m4 b hx).2.1⟩,hs.2,fun b hb=>.inl hb,fun b hb=>hb.imp id fun hx=>(m4 b hx).1,A,c,A2,c2,X,Y,rfl,m1,m2,m3,fun b hb=>⟨.inr hb,(m4 b hb).1⟩⟩
theorem NP.on (h:NP w0 w n l K a N P) (hN:N+1048576≤8796093022208) (from_:Int) {r:List V} {A:Option Addr} {m:Nat} (c:Nat) (ha:bD w A m r) (hA:∀ x,A=some x→P x.block) :
 Calls Tryz.prog 33 #[.pointer (some ⟨n,0,none⟩),.int .i64 from_,.slice A m c] w (xY w0 w n l K a N P (iE K a.now true from_ r)):=by
 obtain ⟨lab,v,h1,h2,h3,h4⟩:=h.at_
 have hc:=yl h1 h.ok h.now hN from_ c ha (fun x hx hb=>(h4 _ hb).2 (hA x hx)) fun x hx=>h.lt _ (hA x hx)
 rw [h2] at hc
 exact hc.mono fun e w' hq=>xY.of h h2 h3 h4 (Hj h.ok h.now true from_ ha.small ha.wf) hq
theorem NP.off (h:NP w0 w n l K a N P) (hN:N+1048576≤8796093022208) (from_:Int) {r:List V} {A:Option Addr} {m:Nat} (c:Nat) (ha:bD w A m r) (hA:∀ x,A=some x→P x.block) :
 Calls Tryz.prog 35 #[.pointer (some ⟨n,0,none⟩),.int .i64 from_,.slice A m c] w (xY w0 w n l K a N P (iE K a.now false from_ r)):=by
 obtain ⟨lab,v,h1,h2,h3,h4⟩:=h.at_
 have hc:=Xr h1 h.ok h.now hN from_ c ha (fun x hx hb=>(h4 _ hb).2 (hA x hx)) fun x hx=>h.lt _ (hA x hx)
 rw [h2] at hc
 exact hc.mono fun e w' hq=>xY.of h h2 h3 h4 (Hj h.ok h.now false from_ ha.small ha.wf) hq
end
end Go.Proofs.YtahdiiaadjdmcaaGreat
