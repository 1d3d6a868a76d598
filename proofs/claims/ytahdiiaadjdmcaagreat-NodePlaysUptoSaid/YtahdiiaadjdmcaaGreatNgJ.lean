import Derived.Test.YtahdiiaadjdmcaaGreatNgI
namespace Go.Proofs.YtahdiiaadjdmcaaGreat
open Go.RowKit
def Ds (md:Region.Mode) (ops:Array Oper):List (Nat × Bool)→Array Bool→Bool
 | [],listed=>(Region.ready md ops listed).isEmpty
 | (k,true) :: ks,listed=>(Region.ready md ops listed).contains k && Region.free md ops listed k && Ds md ops ks (listed.setIfInBounds k true)
 | (k,false) :: ks,listed=>decide (Region.ready md ops listed=[k]) && Ds md ops ks (listed.setIfInBounds k true)
def zdg (ops:Array Oper) (ks:List (Nat × Bool)):Bool:=decide (ks.length=ops.size) && Region.noSelect ops && Ds .any ops ks (Array.replicate ops.size false)
def dO (P:Program) (ops:Array Oper) (Q:Exit→Act→World→Prop) (St:World→Prop):List (Nat × Bool)→Act→World→Prop
 | [],a,w=>Q .normal a w
 | (k,true) :: ks,a,w=>∃ o,ops[k]?=some o∧∃ v,YieldsIf P ops St o v a∧∀ K:Act→Prop,(∀ a,dO P ops Q St ks a w→K a)→K (a.put o.dst v)
 | (k,false) :: ks,a,w=>∃ o,ops[k]?=some o∧wpList P ops (kB Q St (dO P ops Q St ks)) [o] a w
section
variable {P:Program} {ops:Array Oper} {md:Region.Mode} {Q:Exit→Act→World→Prop} {St:World→Prop}
theorem nS (hQ:∀ c (d:Tmp) v (a:Act) w,Q (.panic c) (a.put (some d) v) w→Q (.panic c) a w) (hns:Region.noSelect ops=true) :
 ∀ (ks:List (Nat × Bool)) (listed:Array Bool) (a:Act) (w:World),Ds md ops ks listed=true→St w→dO P ops Q St ks a w→wpAnyH P md ops Q St ks.length listed a w
 |[],listed,a,w,hB,hS,h=>by
  simp only [Ds,List.isEmpty_iff] at hB
  exact ⟨hB,h⟩
 |(k,true) :: ks,listed,a,w,hB,hS,⟨o,h0,v,hv,h⟩=>by
  simp only [Ds,Bool.and_eq_true] at hB
  obtain ⟨⟨hr,hf⟩,hB'⟩:=hB
  exact wpAnyH_take h0 hns hf hr (fun c a w=>by cases o.dst with | none=>exact id | some d=>exact hQ c d v a w) hv hS (nS hQ hns ks _ _ w hB' hS (h (fun a=>dO P ops Q St ks a w) fun a h=>h))
 |(k,false) :: ks,listed,a,w,hB,hS,⟨o,h0,h⟩=>by
  simp only [Ds,Bool.and_eq_true,decide_eq_true_eq] at hB
  refine wpAnyH_all hB.1 (by simp) fun i hi=>?_
  obtain rfl:=List.mem_singleton.1 hi
  refine wpOp_mono (fun a2 w2 h5=>⟨h5.1,?_⟩) (Gi h h0)
  exact nS hQ hns ks _ _ w2 hB.2 h5.1 h5.2
theorem bW {id:Nat} {a:Act} {w:World} {l:List Oper} (ks:List (Nat × Bool)) (St:World→Prop) (hm:P.follows .mixedOrders=true) (hB:zdg l.toArray ks=true) (hQ:∀ c (d:Tmp) v (a:Act) w,Q (.panic c) (a.put (some d) v) w→Q (.panic c) a w) (hSt:∀ w',aD w w'→St w')
 (h:∀ w',aD w w'→dO P l.toArray Q St ks a w'):(Code.region id l.toArray true).wp P Q a w:=by
 simp only [zdg,Bool.and_eq_true,decide_eq_true_eq] at hB
 obtain ⟨⟨cZ,hns⟩,hB⟩:=hB
 refine wp_region_held (S:=St) hm ?_
 have aT:aD w {w with drawn:=w.drawn+1}:=aD.drew w
 have h1:=nS hQ hns ks _ a _ hB (hSt _ aT) (h _ aT)
 rw [cZ] at h1
 exact h1
end
set_option maxRecDepth 100000 in
theorem Ie (n:Int) (w:World):Calls Tryz.prog 34 #[.int .i64 n] w fun e w'=>e=.returned (.agg #[.int .i64 1,.int .i64 n,.string ⟨#[]⟩])∧aD w w':=by
 have HE:=aA ((aD.alloc w (.cells #[.int .i64 1,.int .i64 n,.string ⟨#[]⟩] 85)))
 go_enter Tryz.func34,Tryz.ntmps34
 go_wp2_with fail
 refine bodyPost_ret (v:=.agg #[.int .i64 1,.int .i64 n,.string ⟨#[]⟩]) (by simp [results,Tryz.results34,go_sem]) rfl ?_
 exact ⟨rfl,HE.out⟩
def zb9:SP:=⟨1,1,[],[],[],1⟩
def zjH:Cv:=⟨none,0,none,0,none,0⟩
def Ru:List V:=[⟨1,3,.empty⟩]
theorem xu (w:World):j9 w zb9 zjH:=⟨⟨rfl,Sl.nil w none 1⟩,⟨rfl,Sl.nil w none 1⟩,⟨rfl,Sl.nil w none 1⟩,by decide,by decide,by decide⟩
theorem wj:zb9.good=true:=by kernel_rfl
theorem wh:iE (dN zb9) fH.now true 1 Ru=(⟨[Ru],[],[],[Ru]⟩,[Ru],[Ru],0):=by kernel_rfl
theorem Wd (w:World):bD (w.alloc (.cells #[.int .i64 1,.int .i64 3,.string ⟨#[]⟩] 85)) (some ⟨w.heap.size,0,none⟩) 1 Ru:=by
 refine ⟨aW.lit w Ru 85,by decide,?_,?_⟩
 ·intro v hv
  obtain rfl:=List.mem_singleton.1 hv
  decide
 ·intro v hv
  obtain rfl:=List.mem_singleton.1 hv
  decide
set_option maxRecDepth 100000 in
set_option maxHeartbeats 4000000 in
theorem Jt (w:World):Calls Tryz.prog 10 #[] w fun e w'=>e=.returned (.bool true)∧aD w w':=by
 have HN:=aA (show Calls Tryz.prog 30 #[.agg #[.int .i64 1,.int .i64 1,.slice none 0 0,.slice none 0 0,.slice none 0 0,.int .i64 1]] w fun e w'=>∃ n l,e=.returned (.tuple #[.pointer (some ⟨n,0,none⟩),.int .i64 0])∧NP w w' n l (dN zb9) fH 262144 fun _=>False from (Qe (xu w)).mono fun e w' hh=>by
  obtain ⟨h1,⟨h2,-⟩ | ⟨-,n,B,h3,h4,h5,-⟩⟩:=hh
  ·rw [wj] at h2;cases h2
  ·obtain ⟨l,hl⟩:=NP.of h4 h5 h1
   exact ⟨n,l,h3,hl⟩)
 go_enter Tryz.func10,Tryz.ntmps10
 go_upto_region 4 with ((with_reducible refine HN.out.mono ?_);rintro e w1 ⟨n,l,rfl,h1⟩;have N1:=aA h1;clear h1)
 have HM:=aA (Ie 3 w1)
 go_upto_region 5 with ((with_reducible refine HM.out.mono ?_);rintro e w2 ⟨rfl,x2⟩;have X2:=aA x2;clear x2)
 have HO:=aA ((((N1.out.ext X2.out).ext (aD.alloc w2 (.cells #[.int .i64 1,.int .i64 3,.string ⟨#[]⟩] 85))).on (by decide) 1 1 (Wd w2) (fun x hx=>by obtain rfl:=Option.some.inj hx;exact .inr ⟨Nat.le_refl _,by simp⟩)).mono (R':=fun e w'=>∃ A c A2 c2 Q,e=.returned (.tuple #[.agg #[.slice A 1 c,.slice A2 1 c2],.int .i64 0])∧NP w w' n l (dN zb9) ⟨⟨[Ru],[],[],[Ru]⟩,none⟩ 1310720 Q) fun e w' hh=>by
  rw [wh] at hh
  obtain ⟨y,Q,rfl,h1,-,-,-,A,c,A2,c2,X,Y,rfl,-⟩:=hh
  exact ⟨A,c,A2,c2,Q,rfl,h1⟩)
 refine HO.out.mono ?_
 rintro e w4 ⟨A,c,A2,c2,Q,rfl,h4⟩
 have N4:=aA h4
 clear h4 HO N1 HM HN X2
 obtain ⟨g,hg⟩ : ∃ g,w4.heap.size=g:=⟨_,rfl⟩
 have HG:=aA hg
 have hb:=aL.new w4 38 #[.slice A 1 c,.slice A2 1 c2]
 have he:=aD.alloc w4 (.cells #[.slice A 1 c,.slice A2 1 c2] 38)
 have zks:=aA (show And' Q w4.heap.size (w4.alloc (.cells #[.slice A 1 c,.slice A2 1 c2] 38)).heap.size g from .inr ⟨by omega,by simp;omega⟩)
 rw [hg] at hb
 clear hg
 go_upto_region 5 with fail
 rw [HG.out]
 have N5:=aA (N4.out.ext he)
 have B5:=aA hb
 clear hb he N4 HG
 generalize w4.alloc (.cells #[.slice A 1 c,.slice A2 1 c2] 38)=w5 at *
 generalize And' Q w4.heap.size w5.heap.size=Q5 at *
 refine bW [(0,true),(1,true),(2,true),(3,true),(4,true),(5,true),(6,true),(7,true),(8,true),(9,true),(10,true),(11,true),(12,true),(13,true),(14,true),(15,true),(16,true),(17,true),(18,true),(19,false),(20,false),(21,false),(22,true),(23,true),(24,true),(25,false),(26,true),(27,true),(28,true),(29,true),(30,true),(31,true),(32,true),(33,false),(34,true),(35,true),(36,true),(37,true)] (fun w'=>w'.cell? ⟨g,0,none⟩=some (.slice A 1 c)∧w'.cell? ⟨g,1,none⟩=some (.slice A2 1 c2)∧w'.cell? ⟨n,0,none⟩=some (ptr l)) (by kernel_rfl) (by kernel_rfl) (fun _ _ _ _ _ h=>h) ?_ ?_
 ·exact fun w' hw'=>⟨(B5.out.ext hw').cell 0,(B5.out.ext hw').cell 1,hw'.cell N5.out.cell0⟩
 intro wq hwq
 have NQ:=aA (N5.out.ext hwq)
 iterate 19
  unfold dO
  refine ⟨_,rfl,?_⟩
  apply Exists.intro
  refine ⟨.inl ⟨by rfl,fun w9 h9=>?_⟩,fun K hK=>?_⟩
  ·go_simp;first | done | rfl
  go_simp;refine hK _ ?_;clear hK K
 have nC:=aA (show ∀ w' Q N,NP w w' n l (dN zb9) ⟨⟨[Ru],[],[],[Ru]⟩,none⟩ N Q→aL w' g 38 #[.slice A 1 c,.slice A2 1 c2]→w'.cell? ⟨g,0,none⟩=some (.slice A 1 c)∧w'.cell? ⟨g,1,none⟩=some (.slice A2 1 c2)∧w'.cell? ⟨n,0,none⟩=some (ptr l) from fun w' Q N h1 h2=>⟨h2.cell 0,h2.cell 1,h1.cell0⟩)
 have BQ:=aA (B5.out.ext hwq)
 have zhv:=aA (show And' Q5 w5.heap.size wq.heap.size g from .inl (zks.out))
 have HM:=aA (Ie 3 wq)
 unfold dO
 refine ⟨_,rfl,?_⟩
 go_wp2_with ((with_reducible refine HM.out.mono ?_);rintro e w6 ⟨rfl,x6⟩;have X6:=aA x6;clear x6)
 simp only [kB]
 refine ⟨nC.out _ _ _ (NQ.out.ext X6.out) (BQ.out.ext X6.out),?_⟩
 have Pz:=aA (Wd w6)
 have E7:=aA (aD.alloc w6 (.cells #[.int .i64 1,.int .i64 3,.string ⟨#[]⟩] 85))
 unfold dO
 refine ⟨_,rfl,?_⟩
 go_wp2_with fail
 simp only [kB]
 refine ⟨nC.out _ _ _ ((NQ.out.ext X6.out).ext E7.out) ((BQ.out.ext X6.out).ext E7.out),?_⟩
 have hh:=((NQ.out.ext X6.out).ext E7.out).has (by decide) 1 Pz.out
 rw [show inB [Ru] Ru=true by kernel_rfl] at hh
 have HH:=aA hh
 have B7:=aA ((BQ.out.ext X6.out).ext E7.out)
 have xg:=aA (show And' (And' (And' Q5 w5.heap.size wq.heap.size) wq.heap.size w6.heap.size) w6.heap.size (w6.alloc (.cells #[.int .i64 1,.int .i64 3,.string ⟨#[]⟩] 85)).heap.size g from .inl (.inl zhv.out))
 clear hh NQ BQ Pz E7 X6 HM hwq zhv
 generalize w6.alloc (.cells #[.int .i64 1,.int .i64 3,.string ⟨#[]⟩] 85)=w7 at *
 generalize And' (And' (And' Q5 w5.heap.size wq.heap.size) wq.heap.size w6.heap.size) w6.heap.size w7.heap.size=Q7 at *
 unfold dO
 refine ⟨_,rfl,?_⟩
 go_wp2_with ((with_reducible refine HH.out.mono ?_);rintro e w8 ⟨rfl,h8,k8⟩;have N8:=aA h8;have B8:=aA (k8.blk B7.out (fun hn=>hn xg.out));clear h8 k8)
 simp only [kB]
 refine ⟨nC.out _ _ _ N8.out B8.out,?_⟩
 have zdw:=aA N8.out.stored
 iterate 3
  unfold dO
  refine ⟨_,rfl,?_⟩
  apply Exists.intro
  refine ⟨.inl ⟨by rfl,fun w9 h9=>?_⟩,fun K hK=>?_⟩
  ·go_simp;first | done | rfl
  go_simp;refine hK _ ?_;clear hK K
 unfold dO
 refine ⟨_,rfl,?_⟩
 go_wp2_with ((with_reducible refine zdw.out.mono ?_);rintro e w9 ⟨rfl,x9⟩;have X9:=aA x9;clear x9)
 simp only [kB]
 refine ⟨nC.out _ _ _ (N8.out.ext X9.out) (B8.out.ext X9.out),?_⟩
 have yM:=aA (N8.out.ext X9.out).rows
 have zkb:=aA (show And' Q7 w8.heap.size w9.heap.size g from .inl xg.out)
 have B9:=aA (B8.out.ext X9.out)
 iterate 7
  unfold dO
  refine ⟨_,rfl,?_⟩
  apply Exists.intro
  refine ⟨.inl ⟨by rfl,fun w9 h9=>?_⟩,fun K hK=>?_⟩
  ·go_simp;first | done | rfl
  go_simp;refine hK _ ?_;clear hK K
 unfold dO
 refine ⟨_,rfl,?_⟩
 go_wp2_with ((with_reducible refine yM.out.mono ?_);rintro e w10 ⟨zkQ,c10,Vu,rfl,-,yQ,k10,-⟩;have zh9:=aA yQ;have zi7:=aA (k10.blk B9.out (fun hn=>hn zkb.out));clear yQ k10)
 simp only [kB]
 refine ⟨nC.out _ _ _ zh9.out zi7.out,?_⟩
 iterate 4
  unfold dO
  refine ⟨_,rfl,?_⟩
  apply Exists.intro
  refine ⟨.inl ⟨by rfl,fun w9 h9=>?_⟩,fun K hK=>?_⟩
  ·go_simp;first | done | rfl
  go_simp;refine hK _ ?_;clear hK K
 unfold dO
 go_wp2_with fail
 go_ret
 exact ⟨rfl,zh9.out.ext0⟩
def wM (w:World) (B:Nat→Prop) (A:Option Addr) (n c:Nat):Prop:=∃ xs,aJ w B 85 3 n (.slice A n c) xs
theorem wM.any {w:World} {B:Nat→Prop} {A:Option Addr} {n c:Nat} (h:wM w B A n c) (b j:Nat) (u:Value):wM (w.setCell ⟨b,j,none⟩ u) B A n c:=by
 obtain ⟨xs,h⟩:=h
 rcases h.own.2 with h1 | ⟨g,cap,cur,h1,h2,h3,h4,h5,h6,h7⟩
 ·exact ⟨xs,⟨h.own.1,.inl h1⟩,h.inB⟩
 ·have hb:aL w g 85 cur:=h3
  have Lr:n*3≤cap*3:=Nat.mul_le_mul_right _ h4
  by_cases hg:g=b
  ·subst hg
   refine ⟨(cur.setIfInBounds j u).toList.take (n*3),⟨?_,.inr ⟨g,cap,_,h1,h2,hb.set_ j u,h4,h5,by rw [Array.size_setIfInBounds];exact h6,rfl⟩⟩,h.inB⟩
   rw [List.length_take,Array.length_toList,Array.size_setIfInBounds,h6];omega
  ·exact ⟨xs,⟨h.own.1,.inr ⟨g,cap,cur,h1,h2,hb.far (p:=⟨b,j,none⟩) hg u,h4,h5,h6,h7⟩⟩,h.inB⟩
theorem wM.chg {w w':World} {B C:Nat→Prop} {A:Option Addr} {n c:Nat} (h:wM w B A n c) (hw:aF C w w') (hC:∀ g,B g→¬ C g):wM w' B A n c:=by
 obtain ⟨xs,h⟩:=h
 exact ⟨xs,h.chg hw hC⟩
theorem wM.ext {w w':World} {B:Nat→Prop} {A:Option Addr} {n c:Nat} (h:wM w B A n c) (hw:aD w w'):wM w' B A n c:=h.chg (C:=fun _=>False) (aF.of hw) fun _ _ x=>x
theorem wM.at3 {w:World} {B:Nat→Prop} {A:Option Addr} {n c:Nat} (h:wM w B A n c) {i:Nat} (hi:i<n):∃ g u0 u1 u2,A=some ⟨g,0,none⟩∧B g∧w.cell? ⟨g,i*3,none⟩=some u0∧w.cell? ⟨g,i*3+1,none⟩=some u1∧w.cell? ⟨g,i*3+2,none⟩=some u2∧
 w.frozen? ⟨g,i*3,none⟩=false∧w.frozen? ⟨g,i*3+1,none⟩=false∧w.frozen? ⟨g,i*3+2,none⟩=false:=by
 obtain ⟨xs,h⟩:=h
 rcases h.own.2 with ⟨-,h1⟩ | ⟨g,cap,cur,k1,k2,k3,k4,k5,k6,k7⟩
 ·omega
 ·injection k1 with k1
  subst k1
  have hb:aL w g 85 cur:=k3
  have bC:i*3+2<cur.size:=by rw [k6];omega
  exact ⟨g,cur[i*3],cur[i*3+1],cur[i*3+2],rfl,h.inB g rfl,by rw [hb.cell];exact Array.getElem?_eq_getElem (by omega),by rw [hb.cell];exact Array.getElem?_eq_getElem (by omega),by rw [hb.cell];exact Array.getElem?_eq_getElem (by omega),hb.frozen _,hb.frozen _,hb.frozen _⟩
theorem eR.tight {P:Nat→Prop} {T:Nat} {w:World} {F U:List (List V)} {y:Value} (h:eR P T w F U y):eR (fun b=>P b∧T≤b) T w F U y:=by
 obtain ⟨A,c,A2,c2,X,Y,e,h1,h2,h3,h4⟩:=h
 exact ⟨A,c,A2,c2,X,Y,e,h1,h2,h3,fun b hb=>⟨h4 b hb,(h4 b hb).2⟩⟩
theorem eR.low {P:Nat→Prop} {T S:Nat} {w:World} {F U:List (List V)} {y:Value} (h:eR P T w F U y) (hS:S≤T):eR P S w F U y:=by
 obtain ⟨A,c,A2,c2,X,Y,e,h1,h2,h3,h4⟩:=h
 exact ⟨A,c,A2,c2,X,Y,e,h1,h2,h3,fun b hb=>⟨(h4 b hb).1,Nat.le_trans hS (h4 b hb).2⟩⟩
theorem eR.two {P:Nat→Prop} {T:Nat} {w:World} {F U:List (List V)} {y:Value} (h:eR P T w F U y):∃ A1 n1 c1 A2 n2 c2,y=.agg #[.slice A1 n1 c1,.slice A2 n2 c2]:=by
 obtain ⟨A,c,A2,c2,X,Y,e,-⟩:=h
 exact ⟨_,_,_,_,_,_,e⟩
set_option maxRecDepth 100000 in
set_option maxHeartbeats 4000000 in
theorem Jm {w0 w:World} {n l:Nat} {K:NK} {a:aR} {N:Nat} {P:Nat→Prop} (h:NP w0 w n l K a N P) (hN:N+1048576≤8796093022208) (kind from_:Int) {r:List V} {A:Option Addr} {m:Nat} (c:Nat) (ha:bD w0 A m r) :
 Calls Tryz.prog 11 #[.pointer (some ⟨n,0,none⟩),.agg #[.int .i64 kind,.int .i64 from_,.slice A m c]] w (xY w0 w n l K a N P (iE K a.now (decide (kind=1)) from_ r)):=by
 obtain ⟨g,hg⟩ : ∃ g,w.heap.size=g:=⟨_,rfl⟩
 obtain ⟨w1,aT⟩ : ∃ w1,(w.alloc (.cells #[.int .i64 kind,.int .i64 from_,.slice A m c] 30)).alloc (.cells #[.slice none 0 0,.slice none 0 0] 38)=w1:=⟨_,rfl⟩
 have hb:=(aL.new w 30 #[.int .i64 kind,.int .i64 from_,.slice A m c]).ext (aD.alloc _ (.cells #[.slice none 0 0,.slice none 0 0] 38))
 have hz:=aL.new (w.alloc (.cells #[.int .i64 kind,.int .i64 from_,.slice A m c] 30)) 38 #[.slice none 0 0,.slice none 0 0]
 have he:=(aD.alloc w (.cells #[.int .i64 kind,.int .i64 from_,.slice A m c] 30)).alloc' (.cells #[.slice none 0 0,.slice none 0 0] 38)
 rw [World.size_alloc] at hz
 rw [aT] at hb he hz
 rw [hg] at hb hz
 have HE:=aA he;have HZ:=aA hz;have HB:=aA hb;have lT:=aA hg
 have b2:w1.cell? ⟨g,2,none⟩=some (.slice A m c):=hb.cell 2
 have zaF:=aA h
 obtain ⟨z,eO⟩ : ∃ z,decide (kind=1)=z:=⟨_,rfl⟩
 rw [eO]
 have zcD:=aA eO
 obtain ⟨t,ht⟩ : ∃ t,iE K a.now z from_ r=t:=⟨_,rfl⟩
 rw [ht]
 have HT:=aA ht
 clear ht eO
 have hl:=ha.len
 have yR:=aA (uZ r A m c w1 ((ha.ext h.ext0).ext he).at_ (by omega))
 have HA:=aA ha
 clear h hb he hz ha
 go_enter Tryz.func11,Tryz.ntmps11
 go_upto_region 2 with ((with_reducible refine yR.out.mono ?_);rintro e w2 ⟨A2,c2,rfl,h2,x2⟩;have O2:=aA h2;have X2:=aA x2;clear h2 x2)
 obtain ⟨g7,Pi⟩ : ∃ g7,w2.heap.size=g7:=⟨_,rfl⟩
 obtain ⟨w3,hw3⟩ : ∃ w3,w2.alloc (.cells #[.slice none 0 0,.slice none 0 0] 38)=w3:=⟨_,rfl⟩
 have qm:=aL.new w2 38 #[.slice none 0 0,.slice none 0 0]
 have Ol:=aD.alloc w2 (.cells #[.slice none 0 0,.slice none 0 0] 38)
 rw [hw3] at qm Ol
 rw [Pi] at qm
 have yS:=aA qm;have X3:=aA Ol
 have Vp:=HB.out.ext (X2.out.trans Ol)
 have zih:=aA Vp
 have o0:w3.cell? ⟨g,0,none⟩=some (.int .i64 kind):=Vp.cell 0
 have o1:w3.cell? ⟨g,1,none⟩=some (.int .i64 from_):=Vp.cell 1
 have zia:=(HE.out.trans X2.out).trans Ol
 have zdX:=zaF.out.ext zia
 have Mc:=aA (fun b (hb:w.heap.size≤b∧b<w3.heap.size)=>(show And' P w.heap.size w3.heap.size b from .inr hb))
 have HP3':=aA (show ∀ b,And' P w.heap.size w3.heap.size b→P b∨w.heap.size≤b from fun b hb=>hb.imp id And.left)
 have Θ:=aA (show ∀ b,P b→And' P w.heap.size w3.heap.size b from fun b hb=>.inl hb)
 obtain ⟨P3,hP3⟩ : ∃ P3,And' P w.heap.size w3.heap.size=P3:=⟨_,rfl⟩
 rw [hP3] at zdX Mc HP3' Θ
 have zif:=aA zdX
 have xq:=aA (show w.heap.size≤g∧g+2≤g7∧w1.heap.size=g+2∧w3.heap.size=g7+1 from by
  have h1:=X2.out.size
  have h2:w1.heap.size=g+2:=by rw [← aT];simp;omega
  have h3:w3.heap.size=g7+1:=by rw [← hw3];simp;omega
  omega)
 have bE:bD w3 A2 m r:=⟨aW.own (iL O2.out Ol),hl,HA.out.small,HA.out.wf⟩
 have Rh:=aA bE
 have zaI:=aA (show ∀ x,A2=some x→w1.heap.size≤x.block∧x.block<g7 from fun x hx=>Pi ▸ O2.out.lt x.block (by rw [hx];rfl))
 have ziT:=aA (show wM w3 (fun b=>w1.heap.size≤b∧b<g7) A2 m c2 from ⟨_,iL (dS O2.out (Nat.zero_le _)) Ol,fun g hg=>Pi ▸ O2.out.lt g hg⟩)
 have zcy:=aA (show Calls Tryz.prog (if z then 33 else 35) #[.pointer (some ⟨n,0,none⟩),.int .i64 from_,.slice A2 m c2] w3 (xY w0 w3 n l K a N P3 t) from by
  have e:=HT.out
  subst e
  have hA:∀ x,A2=some x→P3 x.block:=fun x hx=>Mc.out _ (by have:=zaI.out x hx;have:=xq.out;omega)
  cases z
  ·exact zdX.off hN from_ c2 bE hA
  ·exact zdX.on hN from_ c2 bE hA)
 clear qm Ol Vp zia zdX hP3 bE yR
 have xg:=aA Pi;have To:=aA hw3
 clear hw3 Pi aT
 go_upto_region 3 with fail
 rw [xg.out,To.out]
 clear b2 To
 clear HB
 cases z
 case' true=>
  obtain rfl:kind=1:=of_decide_eq_true zcD.out
  simp only [if_true] at zcy
  go_upto_region 5 with fail
  refine zcy.out.mono ?_
  rintro e w4 ⟨y,Q,rfl,h1,h2,h3,h4,h5⟩
  obtain ⟨Ay,ny,cy,Az,nz,cz,rfl⟩:=h5.two
  have N4:=aA h1;have K4:=aA h2;have PQ:=aA h3;have QP:=aA h4;have M4:=aA h5
  clear h1 h2 h3 h4 h5 zcy
  have B4:=aA (K4.out.blk yS.out (fun hn=>hn (Mc.out _ (by have:=xq.out;omega))))
  have c70:w4.cell? ⟨g7,0,none⟩=some (.slice none 0 0):=B4.out.cell 0
  have c71:w4.cell? ⟨g7,1,none⟩=some (.slice none 0 0):=B4.out.cell 1
  have f70:=B4.out.frozen 0
  have f71:=B4.out.frozen 1
  go_upto_region 6 with fail
 case' false=>
  have oI:(kind == 1)=false:=by have:=of_decide_eq_false zcD.out;simpa using this
  simp only [if_false,Bool.false_eq_true] at zcy
  go_upto_region 6 with fail
  refine zcy.out.mono ?_
  rintro e w4 ⟨y,Q,rfl,h1,h2,h3,h4,h5⟩
  obtain ⟨Ay,ny,cy,Az,nz,cz,rfl⟩:=h5.two
  have N4:=aA h1;have K4:=aA h2;have PQ:=aA h3;have QP:=aA h4;have M4:=aA h5
  clear h1 h2 h3 h4 h5 zcy
  have B4:=aA (K4.out.blk yS.out (fun hn=>hn (Mc.out _ (by have:=xq.out;omega))))
  have c70:w4.cell? ⟨g7,0,none⟩=some (.slice none 0 0):=B4.out.cell 0
  have c71:w4.cell? ⟨g7,1,none⟩=some (.slice none 0 0):=B4.out.cell 1
  have f70:=B4.out.frozen 0
  have f71:=B4.out.frozen 1
  go_upto_region 6 with fail
 all_goals (
  have B5:=aA ((B4.out.set_ 0 (.slice Ay ny cy)).set_ 1 (.slice Az nz cz))
  have C5:=aA ((aF.refl (fun b=>b=g7) w4).setCell (p:=⟨g7,0,none⟩) (.inl rfl) (.slice Ay ny cy) |>.setCell (p:=⟨g7,1,none⟩) (.inl rfl) (.slice Az nz cz))
  generalize (w4.setCell ⟨g7,0,none⟩ (.slice Ay ny cy)).setCell ⟨g7,1,none⟩ (.slice Az nz cz)=w5 at *
  have B5:=aA (show aL w5 g7 38 #[.slice Ay ny cy,.slice Az nz cz] from B5.out)
  have Pi:=xq.out
  have N5:=aA (N4.out.chgP C5.out (fun b hb=>PQ.out b (Mc.out b (by omega))) (fun b hb=>by have:=zaF.out.size0;omega))
  have M5:=aA (M4.out.tight.chg C5.out (fun b hb hn=>by have:=hb.2;omega) (Q:=Q) fun b hb=>hb.1)
  have zcK:bD w5 A2 m r:=(Rh.out.chg (fun x hx hn=>hn (Mc.out _ (by have:=zaI.out x hx;omega))) K4.out).chg (fun x hx hn=>by have:=zaI.out x hx;omega) C5.out
  have zcS:=aA ((ziT.out.chg K4.out (fun b hb hn=>hn (Mc.out _ (by omega)))).chg C5.out (fun b hb hn=>by omega))
  have zbM:=aA (oN r r A2 A m m c2 c w5 zcK.at_ (HA.out.ext N5.out.ext0).at_ (by omega))
  rw [bH] at zbM
  have zz:=(K4.out.blk (zih.out) (fun hn=>hn (Mc.out _ (by omega))))
  have zz:=C5.out.blk zz (by omega)
  have o2:w5.cell? ⟨g,2,none⟩=some (.slice A m c):=zz.cell 2
  clear zcK zz Pi c70 c71 f70 f71
  go_upto_region 8 with ((with_reducible refine zbM.out.mono ?_);rintro e w6 ⟨rfl,x6⟩;have X6:=aA x6;clear x6)
  have N6:=aA (N5.out.ext X6.out)
  have M6:=aA (M5.out.ext X6.out (Q:=And' (And' Q w4.heap.size w5.heap.size) w5.heap.size w6.heap.size) fun b hb=>.inl (.inl hb))
  have R6:=aA (zcS.out.ext X6.out)
  have zhU:aL w6 (g+1) 38 #[.slice none 0 0,.slice none 0 0]:=(C5.out.blk (K4.out.blk (HZ.out.ext (X2.out.trans X3.out)) (fun hn=>hn (Mc.out _ (by have:=xq.out;omega)))) (by have:=xq.out;omega)).ext X6.out
  have Z6:=aA zhU
  have B6:=aA (B5.out.ext X6.out)
  have zko:=aA (show ∀ b,And' (And' Q w4.heap.size w5.heap.size) w5.heap.size w6.heap.size b→P b∨w.heap.size≤b from fun b hb=>by
   have h1:=K4.out.size;have h2:=C5.out.size;have h3:=xq.out
   rcases hb with (hb | hb) | hb
   ·exact (QP.out b hb).elim (fun hx=>HP3'.out b hx) fun hx=>.inr (by omega)
   ·exact .inr (by omega)
   ·exact .inr (by omega))
  have qw:=aA (show ∀ b,P3 b→And' (And' Q w4.heap.size w5.heap.size) w5.heap.size w6.heap.size b from fun b hb=>.inl (.inl (PQ.out b hb)))
  have KK:=aA (show bU P w w6 from by
   refine (aF.of ((HE.out.trans X2.out).trans X3.out)).trans (C:=fun b=>¬ P b) ?_ fun b hb _=>hb
   refine (K4.out.mono fun b hb _ hp=>hb (Θ.out b hp)).trans (C:=fun b=>¬ P b) ?_ fun b hb _=>hb
   refine (C5.out.mono fun b hb _ hp=>?_).trans (aF.of X6.out) fun b hb _=>hb
   have:=zaF.out.lt b hp;have:=xq.out;omega)
  clear zhU N5 M5 C5 K4 N4 M4 B4 B5 zcS Rh ziT zih o2 zbM PQ QP
  generalize And' (And' Q w4.heap.size w5.heap.size) w5.heap.size w6.heap.size=Q6 at *
  go_wp2_with fail
  go_loopw [9,41] (fun _ s41 w'=>∃ i:Nat,i≤m∧s41=.int .i64 i∧Hid (wM w' (fun b=>w1.heap.size≤b∧b<g7) A2 m c2)∧Hid (aF (fun b=>w1.heap.size≤b∧b<g7) w6 w')) (fun _ s41 _=>m - (intOf s41).toNat)
  case atStart=>exact ⟨0,by omega,rfl,R6,aF.refl _ _⟩
  case round=>
   clear R6
   obtain ⟨i,him,rfl,hR,hC⟩:=hrel
   by_cases hi:i<m
   ·have zbT:(i:Int)<(m:Int):=by omega
    have zkI:=aA (Ie 1099511627776 wr)
    go_upto_region 12 with ((with_reducible refine zkI.out.mono ?_);rintro e w7 ⟨rfl,x7⟩;have R7:=aA (hR.out.ext x7);have C7:=aA (hC.out.trans (aF.of x7) fun _ h _=>h);clear x7;obtain ⟨gk,u0,u1,u2,hA,hB,k0,k1,k2,f0,f1,f2⟩:=R7.out.at3 hi;subst hA)
    have R8:=aA (((R7.out.any gk (i*3) (.int .i64 1)).any gk (i*3+1) (.int .i64 1099511627776)).any gk (i*3+2) (.string ⟨#[]⟩))
    have C8:=aA (((C7.out.setCell (p:=⟨gk,i*3,none⟩) (.inl hB) (.int .i64 1)).setCell (p:=⟨gk,i*3+1,none⟩) (.inl hB) (.int .i64 1099511627776)).setCell (p:=⟨gk,i*3+2,none⟩) (.inl hB) (.string ⟨#[]⟩))
    clear R7 C7 hR hC k0 k1 k2 f0 f1 f2 hB
    go_wp2_with fail
    go_roundw
    case rel=>exact ⟨i+1,by omega,by go_num,R8,C8⟩
    case measure=>simp [intOf];omega
   ·obtain rfl:i=m:=by omega
    have h3:=xq.out
    have NR:=aA (N6.out.chgP hC.out (fun b hb=>qw.out b (Mc.out b (by omega))) (fun b hb=>by have:=zaF.out.size0;omega))
    have MR:=aA (M6.out.tight.chg hC.out (fun b hb hn=>by have:=hb.2;omega) (Q:=And' Q6 w6.heap.size wr.heap.size) fun b hb=>.inl hb.1)
    have ZR:=aA (hC.out.blk Z6.out (by omega))
    have BR:=aA (hC.out.blk B6.out (by omega))
    have KR:=aA (show bU P w wr from KK.out.trans (C:=fun b=>¬ P b) (hC.out.mono fun b hb _ hp=>by have:=zaF.out.lt b hp;omega) fun b hb _=>hb)
    have iZ:=aA (show w6.heap.size≤wr.heap.size∧w3.heap.size≤w6.heap.size∧w.heap.size≤wr.heap.size from ⟨hC.out.size,by
     have h1:=N6.out.lt
     have:=h1 g7 (qw.out g7 (Mc.out g7 (by omega)))
     omega,KR.out.size⟩)
    have c70:wr.cell? ⟨g7,0,none⟩=some (.slice Ay ny cy):=BR.out.cell 0
    have c71:wr.cell? ⟨g7,1,none⟩=some (.slice Az nz cz):=BR.out.cell 1
    have z0:wr.cell? ⟨g+1,0,none⟩=some (.slice none 0 0):=ZR.out.cell 0
    have z1:wr.cell? ⟨g+1,1,none⟩=some (.slice none 0 0):=ZR.out.cell 1
    have f0:=ZR.out.frozen 0
    have f1:=ZR.out.frozen 1
    clear hC hR h3
    go_wp2_with fail
    have R:=aU ZR.out (.slice Ay ny cy) (.slice Az nz cz)
    have r0:=R.cell 0
    have r1:=R.cell 1
    refine bodyPost_ret (v:=.tuple #[.agg #[.slice Ay ny cy,.slice Az nz cz],.int .i64 t.2.2.2]) (by simp [results,Tryz.results11,go_sem,r0,r1]) rfl ?_
    have h3:=xq.out;have h4:=iZ.out;have Nv:=lT.out
    have C9:=aA ((aF.refl (fun b=>b=g+1) wr).setCell (p:=⟨g+1,0,none⟩) (.inl rfl) (.slice Ay ny cy) |>.setCell (p:=⟨g+1,1,none⟩) (.inl rfl) (.slice Az nz cz))
    generalize (wr.setCell ⟨g+1,0,none⟩ (.slice Ay ny cy)).setCell ⟨g+1,1,none⟩ (.slice Az nz cz)=w9 at C9 ⊢
    have N9:=NR.out.chgP C9.out (fun b hb=>.inl (qw.out b (Mc.out b (by omega)))) (fun b hb=>by have:=zaF.out.size0;omega)
    have M9:=MR.out.tight.chg C9.out (fun b hb hn=>by have:=hb.2;omega) (Q:=And' (And' Q6 w6.heap.size wr.heap.size) wr.heap.size w9.heap.size) fun b hb=>.inl hb.1
    refine ⟨_,_,rfl,N9,?_,?_,?_,M9.low (by omega)⟩
    ·exact KR.out.trans (C:=fun b=>¬ P b) (C9.out.mono fun b hb _ hp=>by have:=zaF.out.lt b hp;omega) fun b hb _=>hb
    ·exact fun b hb=>.inl (.inl (qw.out b (Θ.out b hb)))
    ·rintro b ((hb | hb) | hb)
     ·exact zko.out b hb
     ·exact .inr (by omega)
     ·exact .inr (by omega))
end Go.Proofs.YtahdiiaadjdmcaaGreat
