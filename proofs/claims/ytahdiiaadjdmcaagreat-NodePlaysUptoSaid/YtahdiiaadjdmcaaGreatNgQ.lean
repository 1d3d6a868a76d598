import Derived.Test.YtahdiiaadjdmcaaGreatNgP
namespace Go.Proofs.YtahdiiaadjdmcaaGreat
open Go.RowKit
section
variable {w0 w w':World} {n l d:Nat} {K:NK} {a:aR} {N:Nat} {P Q:Nat→Prop}
theorem Gp.val {o:Option (List V)} {f:Value→Bool→Ending} {e:Ending} (h:Gp w0 w n l K a N P o f e w'):∃ A c Q,e=f (.slice A (o.getD []).length c) o.isSome∧aW w' A (o.getD []).length (o.getD [])∧(∀ x,A=some x→Q x.block)∧(∀ b,P b→Q b)∧(∀ b,Q b→P b∨w.heap.size≤b)∧NP w0 w' n l K a N Q∧bU P w w':=by
 cases o with
 |none=>
  obtain ⟨he,h1,h2⟩:=h
  exact ⟨none,0,P,he,aW.nil _ _,fun x hx=>(by cases hx),fun _ h=>h,fun _ h=>.inl h,h1,h2⟩
 |some r=>
  obtain ⟨A,c,Q,he,h1,h2,h3,h4,h5,h6⟩:=h
  exact ⟨A,c,Q,he,h1,h2,h3,h4,h5,h6⟩
def jK (K:NK) (s:cR) (r:List V):List V × Bool × Int:=if inB s.live r=true then ((((l7 K s (aE K.up r))[(jW r (l7 K s (aE K.up r))).getD 0+1]?).getD [],((l7 K s (aE K.up r))[(jW r (l7 K s (aE K.up r))).getD 0+1]?).isSome,0)) else ([],false,62)
theorem Zo {r:List V}:∀ {l:List (List V)},l.Nodup→∀ {i:Nat},l[i]?=some r→jW r l=some i:=fun {l} hn {i} hi=>by
 obtain ⟨p,hp⟩:=mQ (List.mem_of_getElem? hi)
 have oK:=iC hp
 have h1:=(List.getElem?_eq_some_iff.1 hi)
 have h2:=(List.getElem?_eq_some_iff.1 oK)
 obtain ⟨a1,b1⟩:=h1
 obtain ⟨a2,b2⟩:=h2
 have zck:=List.pairwise_iff_getElem.1 hn
 have:i=p:=by
  rcases Nat.lt_trichotomy i p with h | h | h
  ·exact absurd (b1.trans b2.symm) (zck i p a1 a2 h)
  ·exact h
  ·exact absurd (b2.trans b1.symm) (zck p i a2 a1 h)
 rw [this];exact hp
theorem Lj {s:cR} (hn:s.live.Nodup) {r:List V} {i:Nat} (hl:inB s.live r=true) (hi:(l7 K s (aE K.up r))[i]?=some r):jK K s r=(((l7 K s (aE K.up r))[i+1]?).getD [],((l7 K s (aE K.up r))[i+1]?).isSome,0):=by
 unfold jK
 rw [if_pos hl,Zo (show (l7 K s (aE K.up r)).Nodup from hn.filter _) hi]
 rfl
theorem Qb.val {r:List V} {e:Ending} (h:Qb w0 w n l K a N P r e w') (hn:a.now.live.Nodup):∃ A c Q,e=.returned (.tuple #[.slice A (jK K a.now r).1.length c,.bool (jK K a.now r).2.1,.int .i64 (jK K a.now r).2.2])∧aW w' A (jK K a.now r).1.length (jK K a.now r).1∧(∀ x,A=some x→Q x.block)∧(∀ b,P b→Q b)∧(∀ b,Q b→P b∨w.heap.size≤b)∧NP w0 w' n l K a N Q∧bU P w w':=by
 rcases h with ⟨h1,h2,h3,h4⟩ | ⟨h1,i,h2,h3⟩
 ·have hv:jK K a.now r=([],false,62):=by unfold jK;rw [if_neg (by rw [h1];decide)]
  rw [hv]
  exact ⟨none,0,P,h2,aW.nil _ _,fun x hx=>(by cases hx),fun _ h=>h,fun _ h=>.inl h,h3,h4⟩
 ·obtain ⟨A,c,Q,he,k⟩:=h3.val
  rw [Cm] at h2
  rw [Cm] at he k
  rw [Lj hn h1 h2]
  exact ⟨A,c,Q,he,k⟩
theorem Qu.val {s:cR} {r:List V} {e:Ending} (h:Qu K s r e w') (hn:s.live.Nodup):∃ A c,e=.returned (.tuple #[.slice A (jK K s r).1.length c,.bool (jK K s r).2.1,.int .i64 (jK K s r).2.2])∧aW w' A (jK K s r).1.length (jK K s r).1:=by
 rcases h with ⟨h1,h2⟩ | ⟨h1,p,h2,h3⟩
 ·have hv:jK K s r=([],false,62):=by unfold jK;rw [if_neg (by rw [h1];decide)]
  rw [hv]
  exact ⟨none,0,h2,aW.nil _ _⟩
 ·rw [Lj hn h1 h2]
  rcases h3 with ⟨h3,h4⟩ | ⟨q,A,c,h3,h4,h5⟩
  ·rw [h3]
   exact ⟨none,0,h4,aW.nil _ _⟩
  ·rw [h3]
   exact ⟨A,c,h4,h5⟩
structure PD (w0:World) (n l d:Nat) (K:NK) (a:aR) (N:Nat) (P:Nat→Prop) (w:World):Prop where
 np:NP w0 w n l K a N P
 doc:oT w P d K a
 new:∀ b,P b→w0.heap.size≤b
theorem oT.keep (h:oT w P d K a) (hw:bU P w w') (hq:∀ b,P b→Q b) (hQ:∀ b,Q b→b<w'.heap.size):oT w' Q d K a:=by
 obtain ⟨U,h⟩:=h
 exact ⟨U,h.keep_ hw hq hQ⟩
theorem PD.ask {N':Nat} (h:PD w0 n l d K a N P w) (hn:NP w0 w' n l K a N' Q) (hk:bU P w w') (hq:∀ b,P b→Q b) (J3:∀ b,Q b→P b∨w.heap.size≤b):PD w0 n l d K a N' Q w':=
 ⟨hn,h.doc.keep hk hq hn.lt,fun b hb=>(J3 b hb).elim (h.new b) fun h1=>by have:=h.np.size0;omega⟩
theorem PD.ext (h:PD w0 n l d K a N P w) (hw:aD w w'):PD w0 n l d K a N (And' P w.heap.size w'.heap.size) w':=
 h.ask (h.np.ext hw) (aF.of hw) (fun _ hb=>.inl hb) fun _ hb=>hb.imp id And.left
theorem PD.cell0 (h:PD w0 n l d K a N P w):w.cell? ⟨n,0,none⟩=some (ptr l):=h.np.cell0
theorem PD.docB (h:PD w0 n l d K a N P w):∃ U,vV w P d K a.now a.old.isSome U:=by
 obtain ⟨U,h⟩:=h.doc
 exact ⟨U,h.base⟩
end
section
variable {w0 w w1 w2:World} {n l d:Nat} {K:NK} {a:aR} {N N':Nat} {P Q Q2:Nat→Prop} {A:Option Addr} {m:Nat} {r:List V}
structure PK (w0 w:World) (P:Nat→Prop) (n l d:Nat) (K:NK) (a:aR) (N:Nat) (Q:Nat→Prop) (w':World):Prop where
 pd:PD w0 n l d K a N Q w'
 keep:bU P w w'
 sub:∀ b,P b→Q b
theorem PK.ask (h:PK w0 w P n l d K a N Q w1) (hn:NP w0 w2 n l K a N' Q2) (hk:bU Q w1 w2) (hq:∀ b,Q b→Q2 b) (J3:∀ b,Q2 b→Q b∨w1.heap.size≤b):PK w0 w P n l d K a N' Q2 w2:=
 ⟨h.pd.ask hn hk hq J3,h.keep.after hk h.sub,fun b hb=>hq b (h.sub b hb)⟩
theorem PK.same (h:PK w0 w P n l d K a N Q w1) (hn:NP w0 w2 n l K a N' Q) (hk:bU Q w1 w2):PK w0 w P n l d K a N' Q w2:=h.ask hn hk (fun _ hb=>hb) fun _ hb=>.inl hb
theorem PK.ext (h:PK w0 w P n l d K a N Q w1) (hw:aD w1 w2):PK w0 w P n l d K a N (And' Q w1.heap.size w2.heap.size) w2:=
 h.ask (h.pd.np.ext hw) (aF.of hw) (fun _ hb=>.inl hb) fun _ hb=>hb.imp id And.left
theorem PK.np (h:PK w0 w P n l d K a N Q w1):NP w0 w1 n l K a N P:=h.pd.np.mono h.sub
def VP (Q:Nat→Prop) (A:Option Addr) (r:List V) (w:World):Prop:=aW w A r.length r∧∀ x,A=some x→Q x.block
theorem VP.keep (h:VP Q A r w1) (hw:bU Q w1 w2) (hq:∀ b,Q b→Q2 b):VP Q2 A r w2:=⟨⟨h.1.1,h.1.2.chg hw fun a ha hn=>hn (h.2 a ha)⟩,fun x hx=>hq _ (h.2 x hx)⟩
theorem Oj (G:List (List V)):(G.head?.isSome=false∧G.length=0∧G.head?.getD []=[])∨(G.head?.isSome=true∧0<G.length∧G[0]?=some (G.head?.getD [])):=by
 cases G with
 | nil=>exact .inl ⟨rfl,rfl,rfl⟩
 | cons g G=>exact .inr ⟨rfl,Nat.succ_pos _,rfl⟩
theorem U3 (h:Nz K a.now) (r:List V):(jK K a.now r).1.length≤30:=by
 unfold jK
 split
 ·cases hq:(l7 K a.now (aE K.up r))[(jW r (l7 K a.now (aE K.up r))).getD 0+1]? with
  | none=>exact Nat.zero_le _
  | some q=>exact h.live.2 q (List.mem_filter.1 (List.mem_of_getElem? hq)).1
 ·exact Nat.zero_le _
end
set_option maxRecDepth 100000 in
set_option maxHeartbeats 8000000 in
theorem Kn {w0 w:World} {n l d:Nat} {K:NK} {a:aR} {N:Nat} {P:Nat→Prop} (h:PD w0 n l d K a N P w) (hN:N+262151≤8796093022208) {r:List V} {Ar:Option Addr} {m:Nat} (c:Nat) (hr:∀ w',aD w0 w'→bU P w w'→bD w' Ar m r) :
 Calls Tryz.prog 48 #[.pointer (some ⟨n,0,none⟩),.pointer (some ⟨d,0,none⟩),.slice Ar m c] w fun e w'=>e=.returned (.bool true)∧NP w0 w' n l K a (N+6) P∧bU P w w':=by
 have P0:=aA (show PK w0 w P n l d K a N P w from ⟨h,aF.refl _ _,fun _ hb=>hb⟩)
 have c0:=h.cell0
 have HR:=aA hr
 have vX:=h.np.ok;have wV:=h.np.now
 obtain ⟨U0,hU0⟩:=h.docB
 have oZ:=hU0.sz
 have zcv:=aA (fun (w':World) (Q:Nat→Prop) (N':Nat) (hp:PK w0 w P n l d K a N' Q w')=>hU0.keep_ hp.keep hp.sub hp.pd.np.lt)
 obtain ⟨nl,lP⟩ : ∃ nl,a.now.live.length=nl:=⟨_,rfl⟩
 have Nu:=aA lP
 have ST:=aA (fun (w':World) (Q:Nat→Prop) (N':Nat) (hp:PK w0 w P n l d K a N' Q w')=>(show w'.cell? ⟨n,0,none⟩=some (ptr l)∧w'.cell? ⟨d,9,none⟩=some (.slice U0.a.lA nl U0.a.lC) from ⟨hp.pd.cell0,by rw [← lP];exact (hU0.keep_ hp.keep hp.sub hp.pd.np.lt).blk.cell 9⟩))
 have iZ:=aA oZ;have xK:=aA vX;have xp:=aA wV
 clear h hr vX wV oZ hU0 lP
 go_enter Tryz.func48,Tryz.ntmps48
 go_upto_region 1 with fail
 refine bW [(0,true),(1,true),(2,true),(3,true),(4,true),(5,false),(6,false),(7,true),(8,true),(9,true),(10,true),(11,true)] (fun w'=>w'.cell? ⟨n,0,none⟩=some (ptr l)) (by kernel_rfl) (by kernel_rfl) (fun _ _ _ _ _ h=>h) ?_ ?_
 ·exact fun w' hw'=>hw'.cell c0
 intro wq hwq
 have PQ:=aA (P0.out.ext hwq)
 have yR:=aA (oP (c:=c) (HR.out wq PQ.out.pd.np.ext0 PQ.out.keep))
 clear P0 c0 hwq
 iterate 5
  unfold dO
  refine ⟨_,rfl,?_⟩
  apply Exists.intro
  refine ⟨.inl ⟨by rfl,fun w9 h9=>?_⟩,fun K hK=>?_⟩
  ·go_simp;first | done | rfl
  go_simp;refine hK _ ?_;clear hK K
 unfold dO
 refine ⟨_,rfl,?_⟩
 go_wp2_with ((with_reducible refine yR.out.mono ?_);rintro e w1 ⟨A1,c1,rfl,ha1,oY,x1⟩;have P1:=aA (PQ.out.ext x1);have HF:=aA (NP.first (PQ.out.ext x1).pd.np (by omega) c1 ha1);clear ha1 oY x1)
 simp only [kB]
 refine ⟨P1.out.pd.cell0,?_⟩
 clear yR PQ
 obtain ⟨G,hG⟩ : ∃ G,l7 K a.now r=G:=⟨_,rfl⟩
 have zfV:=Oj G
 have zd3:=aA (HF.out.mono fun e w' hh=>Gp.val hh)
 rw [Cm,hG] at zd3
 obtain ⟨fv,hfv⟩ : ∃ fv,G.head?.getD []=fv:=⟨_,rfl⟩
 obtain ⟨okb,hokb⟩ : ∃ okb,G.head?.isSome=okb:=⟨_,rfl⟩
 rw [hfv,hokb] at zd3 zfV
 have zff:=aA zfV;have HG:=aA hG
 unfold Pd at zd3
 clear hG zfV hfv hokb HF
 unfold dO
 refine ⟨_,rfl,?_⟩
 go_wp2_with ((with_reducible refine zd3.out.mono ?_);rintro e w2 ⟨A2,c2,Q2,rfl,hf1,hf2,hq1,J3,sD,jT⟩;have P2:=aA (P1.out.ask sD jT hq1 J3);have V2:=aA (show VP Q2 A2 fv w2 from ⟨hf1,hf2⟩);clear hf1 hf2 hq1 J3 sD jT)
 simp only [kB]
 refine ⟨P2.out.pd.cell0,?_⟩
 clear P1 zd3
 iterate 5
  unfold dO
  refine ⟨_,rfl,?_⟩
  apply Exists.intro
  refine ⟨.inl ⟨by rfl,fun w9 h9=>?_⟩,fun K hK=>?_⟩
  ·go_simp;first | done | rfl
  go_simp;refine hK _ ?_;clear hK K
 unfold dO
 obtain ⟨U,hU⟩:=P2.out.pd.docB
 have It:=xA hU c (HR.out w2 P2.out.pd.np.ext0 P2.out.keep).at_
 rw [HG.out] at It
 have zbo:=aA It
 clear It hU
 go_upto_region 3 with ((with_reducible refine zbo.out.mono ?_);rintro e w3 ⟨A3,c3,rfl,t3,x3⟩;have P3:=aA (P2.out.ext x3);have V3:=aA (V2.out.keep (aF.of x3) (Q2:=And' Q2 w2.heap.size w3.heap.size) fun b hb=>.inl hb);have TG:=aA (t3.ext (aD.refl _) (Q:=And' Q2 w2.heap.size w3.heap.size) fun b hb=>hb);clear t3 x3)
 clear zbo V2 P2
 generalize And' Q2 w2.heap.size w3.heap.size=Q3 at *
 have c0:=P3.out.pd.cell0
 refine bW [(0,true),(1,true),(2,true),(3,true),(4,true),(5,false),(6,false),(7,true),(8,true),(9,true),(10,true),(11,true),(12,true),(13,true)] (fun w'=>w'.cell? ⟨n,0,none⟩=some (ptr l)) (by kernel_rfl) (by kernel_rfl) (fun _ _ _ _ _ h=>h) ?_ ?_
 ·exact fun w' hw'=>hw'.cell c0
 intro wq2 hwq2
 have PQ:=aA (P3.out.ext hwq2)
 have VQ:=aA (V3.out.keep (aF.of hwq2) (Q2:=And' Q3 w3.heap.size wq2.heap.size) fun b hb=>.inl hb)
 have TQ:=aA (TG.out.ext hwq2 (Q:=And' Q3 w3.heap.size wq2.heap.size) fun b hb=>.inl hb)
 have yR:=aA (oP (c:=c) (HR.out wq2 PQ.out.pd.np.ext0 PQ.out.keep))
 generalize And' Q3 w3.heap.size wq2.heap.size=Q4 at *
 clear P3 c0 hwq2 V3 TG
 iterate 5
  unfold dO
  refine ⟨_,rfl,?_⟩
  apply Exists.intro
  refine ⟨.inl ⟨by rfl,fun w9 h9=>?_⟩,fun K hK=>?_⟩
  ·go_simp;first | done | rfl
  go_simp;refine hK _ ?_;clear hK K
 unfold dO
 refine ⟨_,rfl,?_⟩
 go_wp2_with ((with_reducible refine yR.out.mono ?_);rintro e w4 ⟨A4,c4,rfl,ha4,zU,x4⟩;have P4:=aA (PQ.out.ext x4);have V4:=aA (VQ.out.keep (aF.of x4) (Q2:=And' Q4 wq2.heap.size w4.heap.size) fun b hb=>.inl hb);have T4:=aA (TQ.out.ext x4 (Q:=And' Q4 wq2.heap.size w4.heap.size) fun b hb=>.inl hb);have HX:=aA (NP.next (PQ.out.ext x4).pd.np (by omega) c4 ha4);clear ha4 zU x4)
 simp only [kB]
 refine ⟨P4.out.pd.cell0,?_⟩
 clear yR PQ VQ TQ
 generalize And' Q4 wq2.heap.size w4.heap.size=Q5 at *
 have zeU:=aA (HX.out.mono fun e w' hh=>Qb.val hh xp.out.lnd)
 have Gh:=U3 iZ.out r
 obtain ⟨t,ht⟩ : ∃ t,jK K a.now r=t:=⟨_,rfl⟩
 rw [ht] at zeU Gh
 obtain ⟨xv,yb,z⟩:=t
 have HT:=aA ht;have l_:=aA Gh
 dsimp only at zeU l_
 clear HX ht Gh
 unfold dO
 refine ⟨_,rfl,?_⟩
 go_wp2_with ((with_reducible refine zeU.out.mono ?_);rintro e w5 ⟨A5,c5,Q6,rfl,hf1,hf2,hq1,J3,Si,Vo⟩;have P5:=aA (P4.out.ask Si Vo hq1 J3);have V5:=aA (V4.out.keep Vo hq1);have T5:=aA (T4.out.keep Vo hq1);have X5:=aA hf1;clear hf1 hf2 hq1 J3 Si Vo)
 simp only [kB]
 refine ⟨P5.out.pd.cell0,?_⟩
 clear P4 V4 T4 zeU
 iterate 7
  unfold dO
  refine ⟨_,rfl,?_⟩
  apply Exists.intro
  refine ⟨.inl ⟨by rfl,fun w9 h9=>?_⟩,fun K hK=>?_⟩
  ·go_simp;first | done | rfl
  go_simp;refine hK _ ?_;clear hK K
 unfold dO
 obtain ⟨U5,hU5⟩:=P5.out.pd.docB
 have zij:=(Xj hU5 c (HR.out w5 P5.out.pd.np.ext0 P5.out.keep).at_ (HR.out w5 P5.out.pd.np.ext0 P5.out.keep).len).mono (R':=fun e w'=>(∃ A c,e=.returned (.tuple #[.slice A xv.length c,.bool yb,.int .i64 z])∧aW w' A xv.length xv)∧aD w5 w') fun e w' hh=>⟨by
  have h1:=Qu.val hh.1 xp.out.lnd
  rw [HT.out] at h1
  exact h1,hh.2⟩
 have oU:=aA zij
 clear zij hU5
 go_upto_region 5 with ((with_reducible refine oU.out.mono ?_);rintro e w6 ⟨⟨A6,c6,rfl,hr6⟩,x6⟩;have P6:=aA (P5.out.ext x6);have V6:=aA (V5.out.1.ext x6);have T6:=aA (T5.out.ext x6 (Q:=And' Q6 w5.heap.size w6.heap.size) fun b hb=>.inl hb);have X6:=aA (X5.out.ext x6);have Y6:=aA hr6;clear hr6 x6)
 clear oU P5 V5 T5 X5
 generalize And' Q6 w5.heap.size w6.heap.size=Q7 at *
 have nD:G.length≤131072:=by rw [← HG.out];have:=uK K a.now r;have:=iZ.out.live.1;omega
 have O0:∀ q∈G,q.length≤30:=fun q hq=>by rw [← HG.out] at hq;exact iZ.out.live.2 q (List.mem_filter.1 hq).1
 obtain ⟨gl,hgl2⟩ : ∃ gl,G.length=gl:=⟨_,rfl⟩
 rw [hgl2] at nD T6 zff
 have tP:=aA O0;have Vf:=aA hgl2
 rw [hgl2]
 clear O0 hgl2
 have zeW:=aA (fun (w7:World) (x7:aD w6 w7)=>oN xv xv A5 A6 xv.length xv.length c5 c6 w7 (X6.out.ext x7) (Y6.out.ext x7) (by have:=l_.out;omega))
 rw [bH] at zeW
 clear nD
 have yB:fv.length≤30:=by
  rcases zff.out with ⟨-,-,h3⟩ | ⟨-,-,h3⟩
  ·rw [h3];exact Nat.zero_le _
  ·exact tP.out fv (List.mem_of_getElem? h3)
 rcases zff.out with ⟨h1,h2,h3⟩ | ⟨h1,zdY,kY⟩
 case' inl=>
  subst h1 h2 h3
  go_upto_region 7 with ((with_reducible refine (zeW.out w6 (aD.refl _)).mono ?_);rintro e w7 ⟨rfl,x7⟩;have P7:=aA (P6.out.ext x7);have T7:=aA (T6.out.ext x7 (Q:=And' Q7 w6.heap.size w7.heap.size) fun b hb=>.inl hb);clear x7)
 case' inr=>
  subst h1
  obtain ⟨b3,o3,A9,c9,hA9,hc9,hr9⟩:=T6.out.arg kY
  subst hA9
  rw [Nat.add_zero] at hc9
  have zc3:(0:Int)<(gl:Int):=by omega
  have zgE:=aA (oN fv fv A2 A9 fv.length fv.length c2 c9 w6 V6.out hr9 (by omega))
  rw [bH] at zgE
  clear hr9 kY zdY
  go_upto_region 7 with (first
   | ((with_reducible refine zgE.out.mono ?_);rintro e w5' ⟨rfl,x5'⟩;have X5':=aA x5';clear x5')
   | ((with_reducible refine (zeW.out w5' X5'.out).mono ?_);rintro e w7 ⟨rfl,x7⟩;have P7:=aA (P6.out.ext (X5'.out.trans x7));have T7:=aA (T6.out.ext (X5'.out.trans x7) (Q:=And' Q7 w6.heap.size w7.heap.size) fun b hb=>.inl hb);clear x7))
  clear zc3 hc9 zgE X5'
 all_goals (
  clear yB P6 V6 T6 X6 Y6 zeW zff l_
  generalize And' Q7 w6.heap.size w7.heap.size=Q8 at *
  obtain ⟨c9',c0'⟩:=ST.out w7 _ _ P7.out
  refine bW [(0,true),(1,true),(2,true),(3,true),(4,true),(7,true),(8,true),(9,true),(10,true),(11,true),(12,true),(5,false),(6,false),(13,false),(14,true),(15,true),(16,true),(17,true),(20,true),(21,true),(18,false),(19,false),(22,false),(23,true),(24,true),(25,true),(26,true),(27,true),(28,true),(29,true),(30,true),(33,true),(31,false),(32,false),(34,false),(35,true),(36,true)] (fun w'=>w'.cell? ⟨n,0,none⟩=some (ptr l)∧w'.cell? ⟨d,9,none⟩=some (.slice U0.a.lA nl U0.a.lC)) (by kernel_rfl) (by kernel_rfl) (fun _ _ _ _ _ h=>h) ?_ ?_
  ·exact fun w' hw'=>ST.out _ _ _ (P7.out.ext hw')
  intro wr zed
  have PR:=aA (P7.out.ext zed)
  have TR:=aA (T7.out.ext zed (Q:=And' Q8 w7.heap.size wr.heap.size) fun b hb=>.inl hb)
  have yR:=aA (oP (c:=c) (HR.out wr PR.out.pd.np.ext0 PR.out.keep))
  clear P7 T7 zed c9' c0'
  generalize And' Q8 w7.heap.size wr.heap.size=Q9 at *
  iterate 11
   unfold dO
   refine ⟨_,rfl,?_⟩
   apply Exists.intro
   refine ⟨.inl ⟨by rfl,fun w9 h9=>?_⟩,fun K hK=>?_⟩
   ·go_simp;first | done | rfl
   go_simp;refine hK _ ?_;clear hK K
  unfold dO
  refine ⟨_,rfl,?_⟩
  go_wp2_with ((with_reducible refine yR.out.mono ?_);rintro e w8 ⟨A8,c8,rfl,ha8,fQ,x8⟩;have P8:=aA (PR.out.ext x8);have T8:=aA (TR.out.ext x8 (Q:=And' Q9 wr.heap.size w8.heap.size) fun b hb=>.inl hb);have HH:=aA (NP.has (PR.out.ext x8).pd.np (by omega) c8 ha8);clear ha8 fQ x8)
  simp only [kB]
  refine ⟨ST.out _ _ _ P8.out,?_⟩
  clear yR PR TR
  generalize And' Q9 wr.heap.size w8.heap.size=zhz at *
  obtain ⟨bx,hbx⟩ : ∃ bx,inB a.now.live r=bx:=⟨_,rfl⟩
  rw [hbx] at HH
  have zkh:=aA hbx
  clear hbx
  unfold dO
  refine ⟨_,rfl,?_⟩
  go_wp2_with ((with_reducible refine HH.out.mono ?_);rintro e w9 ⟨rfl,hn9,hk9⟩;have P9:=aA (P8.out.same hn9 hk9);have T9:=aA (T8.out.keep hk9 fun _ h=>h);clear hn9 hk9)
  simp only [kB]
  refine ⟨ST.out _ _ _ P9.out,?_⟩
  clear P8 T8 HH
  have W_:=yZ a.now.live r U0.a.lA Ar a.now.live.length m U0.a.lC c w9 (zcv.out _ _ _ P9.out).now.live.lat (HR.out w9 P9.out.pd.np.ext0 P9.out.keep).at_ (by have:=iZ.out.live.1;omega) (fun q hq=>by have:=iZ.out.live.2 q hq;omega)
  rw [zkh.out,Nu.out] at W_
  have Mg:=aA W_
  clear W_
  unfold dO
  refine ⟨_,rfl,?_⟩
  go_wp2_with ((with_reducible refine Mg.out.mono ?_);rintro e w10 ⟨rfl,x10⟩;have qv:=aA (P9.out.ext x10);have zf:=aA (T9.out.ext x10 (Q:=And' zhz w9.heap.size w10.heap.size) fun b hb=>.inl hb);clear x10)
  simp only [kB]
  refine ⟨ST.out _ _ _ qv.out,?_⟩
  clear P9 T9 Mg
  generalize And' zhz w9.heap.size w10.heap.size=ziy at *
  have yR:=aA (oP (c:=c) (HR.out w10 qv.out.pd.np.ext0 qv.out.keep))
  iterate 6
   unfold dO
   refine ⟨_,rfl,?_⟩
   apply Exists.intro
   refine ⟨.inl ⟨by rfl,fun w9 h9=>?_⟩,fun K hK=>?_⟩
   ·go_simp;first | done | rfl
   go_simp;refine hK _ ?_;clear hK K
  unfold dO
  refine ⟨_,rfl,?_⟩
  go_wp2_with ((with_reducible refine yR.out.mono ?_);rintro e w11 ⟨zii,c11,rfl,ha11,hb11,x11⟩;have zfx:=aA (qv.out.ext x11);have xj:=aA (zf.out.ext x11 (Q:=And' ziy w10.heap.size w11.heap.size) fun b hb=>.inl hb);have zgh:=NP.support (qv.out.ext x11).pd.np (by omega) c11 ha11 (fun x hx=>.inr (hb11 x hx));rw [zbS xp.out] at zgh;have zcz:=aA zgh;clear ha11 hb11 x11 zgh)
  simp only [kB]
  refine ⟨ST.out _ _ _ zfx.out,?_⟩
  clear yR qv zf
  generalize And' ziy w10.heap.size w11.heap.size=ziL at *
  obtain ⟨sv,hsv⟩ : ∃ sv,eL K a.now r=sv:=⟨_,rfl⟩
  rw [hsv] at zcz
  have zjC:=aA hsv
  clear hsv
  unfold dO
  refine ⟨_,rfl,?_⟩
  go_wp2_with ((with_reducible refine zcz.out.mono ?_);rintro e w12 ⟨rfl,hn12,hk12⟩;have J_:=aA (zfx.out.same hn12 hk12);have zh4:=aA (xj.out.keep hk12 fun _ h=>h);clear hn12 hk12)
  simp only [kB]
  refine ⟨ST.out _ _ _ J_.out,?_⟩
  clear zfx xj zcz
  have Xm:=nJ (zcv.out _ _ _ J_.out) c (HR.out w12 J_.out.pd.np.ext0 J_.out.keep).at_ (HR.out w12 J_.out.pd.np.ext0 J_.out.keep).len
  rw [zjC.out] at Xm
  have o_:=aA Xm
  clear Xm
  unfold dO
  refine ⟨_,rfl,?_⟩
  go_wp2_with ((with_reducible refine o_.out.mono ?_);rintro e w13 ⟨rfl,x13⟩;have zcr:=aA (J_.out.ext x13);have zeF:=aA (zh4.out.ext x13 (Q:=And' ziL w12.heap.size w13.heap.size) fun b hb=>.inl hb);clear x13)
  simp only [kB]
  refine ⟨ST.out _ _ _ zcr.out,?_⟩
  clear J_ zh4 o_
  generalize And' ziL w12.heap.size w13.heap.size=ziN at *
  have yR:=aA (oP (c:=c) (HR.out w13 zcr.out.pd.np.ext0 zcr.out.keep))
  iterate 9
   unfold dO
   refine ⟨_,rfl,?_⟩
   apply Exists.intro
   refine ⟨.inl ⟨by rfl,fun w9 h9=>?_⟩,fun K hK=>?_⟩
   ·go_simp;first | done | rfl
   go_simp;refine hK _ ?_;clear hK K
  unfold dO
  refine ⟨_,rfl,?_⟩
  go_wp2_with ((with_reducible refine yR.out.mono ?_);rintro e w14 ⟨zkW,c14,rfl,ha14,hb14,x14⟩;have zgf:=aA (zcr.out.ext x14);have zgj:=aA (zeF.out.ext x14 (Q:=And' ziN w13.heap.size w14.heap.size) fun b hb=>.inl hb);have zbD:=NP.group (zcr.out.ext x14).pd.np (by omega) c14 ha14;rw [Cm,HG.out] at zbD;have ze0:=aA zbD;clear ha14 hb14 x14 zbD)
  simp only [kB]
  refine ⟨ST.out _ _ _ zgf.out,?_⟩
  clear yR zcr zeF
  generalize And' ziN w13.heap.size w14.heap.size=ziY at *
  unfold dO
  refine ⟨_,rfl,?_⟩
  go_wp2_with ((with_reducible refine ze0.out.mono ?_);rintro e w15 ⟨zgr,c15,zkS,rfl,hm15,hn15,hk15,hM15⟩;have zgu:=aA (zgf.out.ask hn15 hk15 (fun _ hb=>.inl hb) fun b hb=>hb.imp id fun h=>Nat.le_trans hM15 h.1);have zjT:=aA (zgj.out.keep hk15 (Q:=ziY) fun _ h=>h);have μ:=aA (mP G G zgr _ _ _ c15 c3 w15 (eA.toldA hm15 (P:=fun _=>True) fun _ _ _=>trivial).lat (zgj.out.keep hk15 (Q:=ziY) fun _ h=>h).lat (by have h1:=iZ.out.live.1;have h2:=uK K a.now r;rw [HG.out] at h2;omega) (fun q hq=>by have:=tP.out q hq;omega));clear hm15 hn15 hk15 hM15)
  simp only [kB]
  refine ⟨ST.out _ _ _ zgu.out,?_⟩
  rw [fY.2 rfl] at μ
  clear zgf zgj ze0
  unfold dO
  refine ⟨_,rfl,?_⟩
  go_wp2_with ((with_reducible refine μ.out.mono ?_);rintro e w16 ⟨rfl,x16⟩;have zf6:=aA (zgu.out.ext x16);clear x16)
  simp only [kB]
  refine ⟨ST.out _ _ _ zf6.out,?_⟩
  iterate 2
   unfold dO
   refine ⟨_,rfl,?_⟩
   apply Exists.intro
   refine ⟨.inl ⟨by rfl,fun w9 h9=>?_⟩,fun K hK=>?_⟩
   ·go_simp;first | done | rfl
   go_simp;refine hK _ ?_;clear hK K
  unfold dO
  clear zgu zjT μ
  go_wp2_with fail
  go_ret
  exact ⟨rfl,zf6.out.np.more (by omega),zf6.out.keep⟩)
theorem PD.back {w0 w w':World} {n l d:Nat} {K:NK} {a:aR} {N N':Nat} {P:Nat→Prop} (h:PD w0 n l d K a N P w) (hn:NP w0 w' n l K a N' P) (hk:bU P w w'):PK w0 w P n l d K a N' P w':=
 ⟨⟨hn,h.doc.keep hk (fun _ hb=>hb) hn.lt,h.new⟩,hk,fun _ hb=>hb⟩
theorem Ov {K:NK} {s:cR} (h:iS K s):nR K s=s.ons.length:=by
 unfold nR
 split
 ·rfl
 ·rename_i h3;rw [h.plain h3]
theorem qz {w:World} {r:List V} {g:List Nat} {A B:Option Addr} {n m:Nat} (c d:Nat) (ha:aW w A n r) (hb:cB w B m (g.map Int.ofNat)) (hn:n≤1048576) (hm:m≤1048576) :
 Calls Tryz.prog 18 #[.slice A n c,.slice B m d] w fun e w'=>∃ A' c',e=.returned (.tuple #[.slice A' (aE g r).length c',.int .i64 (dZ r (g.map Int.ofNat)).2])∧w'.ownsRow w.heap.size 85 3 (.slice A' (aE g r).length c') (aE g r).length (aO (aE g r))∧aD w w':=vJ r _ A B n m c d w ha hb hn hm
set_option maxRecDepth 100000 in
set_option maxHeartbeats 8000000 in
theorem J9 {w0 w:World} {n l d:Nat} {K:NK} {a:aR} {N:Nat} {P:Nat→Prop} (h:PD w0 n l d K a N P w) (hN:N+1048576≤8796093022208) :
 Calls Tryz.prog 25 #[.pointer (some ⟨n,0,none⟩),.pointer (some ⟨d,0,none⟩)] w fun e w'=>e=.returned (.bool true)∧NP w0 w' n l K a (N+1048576) P∧bU P w w':=by
 obtain ⟨U0,hU0⟩:=h.docB
 have oZ:=hU0.sz
 have HH:=aA h
 have zcv:=aA (fun (w':World) (Q:Nat→Prop) (N':Nat) (hp:PK w0 w P n l d K a N' Q w')=>hU0.keep_ hp.keep hp.sub hp.pd.np.lt)
 obtain ⟨nl,lP⟩ : ∃ nl,a.now.live.length=nl:=⟨_,rfl⟩
 obtain ⟨no,j8⟩ : ∃ no,a.now.ons.length=no:=⟨_,rfl⟩
 obtain ⟨oA,hoA⟩ : ∃ oA,U0.a.oA=oA:=⟨_,rfl⟩
 have Nu:=aA lP;have Nq:=aA j8;have zje:=aA hoA
 have ST:=aA (fun (w':World) (Q:Nat→Prop) (N':Nat) (hp:PK w0 w P n l d K a N' Q w')=>(show w'.cell? ⟨n,0,none⟩=some (ptr l)∧w'.cell? ⟨d,9,none⟩=some (.slice U0.a.lA nl U0.a.lC)∧w'.cell? ⟨d,6,none⟩=some (.slice oA no U0.a.oC)∧w'.cell? ⟨d,4,none⟩=some (.slice U0.uA K.up.length U0.uC) from ⟨hp.pd.cell0,by rw [← lP];exact (hU0.keep_ hp.keep hp.sub hp.pd.np.lt).blk.cell 9,by rw [← j8,← hoA];exact (hU0.keep_ hp.keep hp.sub hp.pd.np.lt).blk.cell 6,(hU0.keep_ hp.keep hp.sub hp.pd.np.lt).blk.cell 4⟩))
 have P0:=aA (show PK w0 w P n l d K a N P w from ⟨h,aF.refl _ _,fun _ hb=>hb⟩)
 have vX:=h.np.ok;have wV:=h.np.now
 have iZ:=aA oZ;have xK:=aA vX;have xp:=aA wV
 obtain ⟨c0,c9,c6,-⟩:=ST.out w _ _ P0.out
 have zgS:=oZ.ons.1
 rw [j8] at zgS
 clear h vX wV oZ hU0 lP j8 hoA
 go_enter Tryz.func25,Tryz.ntmps25
 go_upto_region 1 with fail
 refine bW [(0,true),(1,true),(2,true),(3,true),(5,true),(6,true),(7,true),(8,true),(9,true),(4,false),(10,false),(11,true),(12,true),(13,true),(15,true),(16,true),(17,true),(18,true),(19,true),(20,true),(14,false),(21,true),(22,true)] (fun w'=>w'.cell? ⟨n,0,none⟩=some (ptr l)∧w'.cell? ⟨d,9,none⟩=some (.slice U0.a.lA nl U0.a.lC)∧w'.cell? ⟨d,6,none⟩=some (.slice oA no U0.a.oC)) (by kernel_rfl) (by kernel_rfl) (fun _ _ _ _ _ h=>h) ?_ ?_
 ·exact fun w' hw'=>⟨hw'.cell c0,hw'.cell c9,hw'.cell c6⟩
 intro wq hwq
 have PQ:=aA (P0.out.ext hwq)
 have Pc:=PQ.out.pd.np.rows
 rw [Nu.out] at Pc
 have Md:=aA Pc
 clear hwq c0 c9 c6 Pc
 generalize And' P w.heap.size wq.heap.size=Q1 at *
 iterate 9
  unfold dO
  refine ⟨_,rfl,?_⟩
  apply Exists.intro
  refine ⟨.inl ⟨by rfl,fun w9 h9=>?_⟩,fun K hK=>?_⟩
  ·go_simp;first | done | rfl
  go_simp;refine hK _ ?_;clear hK K
 unfold dO
 refine ⟨_,rfl,?_⟩
 go_wp2_with ((with_reducible refine Md.out.mono ?_);rintro e w1 ⟨A1,c1,M1,rfl,nM,m7,oI,Jl⟩;have P1:=aA (PQ.out.ask m7 oI (fun _ hb=>.inl hb) fun b hb=>hb.imp id fun h=>Nat.le_trans Jl h.1);have μ:=aA (mP a.now.live a.now.live A1 U0.a.lA nl nl c1 U0.a.lC w1 (eA.toldA nM (P:=fun _=>True) fun _ _ _=>trivial).lat (by have h:=(zcv.out _ _ _ (PQ.out.ask m7 oI (fun _ hb=>.inl hb) fun b hb=>hb.imp id fun h=>Nat.le_trans Jl h.1)).now.live.lat;rw [Nu.out] at h;exact h) (by have h1:=iZ.out.live.1;rw [Nu.out] at h1;omega) (fun q hq=>by have:=iZ.out.live.2 q hq;omega));clear nM m7 oI Jl)
 simp only [kB]
 have gG:=ST.out _ _ _ P1.out
 refine ⟨⟨gG.1,gG.2.1,gG.2.2.1⟩,?_⟩
 rw [fY.2 rfl] at μ
 clear PQ Md gG
 unfold dO
 refine ⟨_,rfl,?_⟩
 go_wp2_with ((with_reducible refine μ.out.mono ?_);rintro e w2 ⟨rfl,x2⟩;have P2:=aA (P1.out.ext x2);clear x2)
 simp only [kB]
 have gG:=ST.out _ _ _ P2.out
 refine ⟨⟨gG.1,gG.2.1,gG.2.2.1⟩,?_⟩
 clear P1 μ gG
 have fI:=P2.out.pd.np.stored
 rw [Ov xp.out,Nq.out] at fI
 have nC:=aA fI
 clear fI
 iterate 9
  unfold dO
  refine ⟨_,rfl,?_⟩
  apply Exists.intro
  refine ⟨.inl ⟨by rfl,fun w9 h9=>?_⟩,fun K hK=>?_⟩
  ·go_simp;first | done | rfl
  go_simp;refine hK _ ?_;clear hK K
 unfold dO
 refine ⟨_,rfl,?_⟩
 go_wp2_with ((with_reducible refine nC.out.mono ?_);rintro e w3 ⟨rfl,x3⟩;have P3:=aA (P2.out.ext x3);clear x3)
 simp only [kB]
 have gG:=ST.out _ _ _ P3.out
 refine ⟨⟨gG.1,gG.2.1,gG.2.2.1⟩,?_⟩
 have PB:=aA (HH.out.back P3.out.np P3.out.keep)
 clear P2 nC gG P3
 iterate 2
  unfold dO
  refine ⟨_,rfl,?_⟩
  apply Exists.intro
  refine ⟨.inl ⟨by rfl,fun w9 h9=>?_⟩,fun K hK=>?_⟩
  ·go_simp;first | done | rfl
  go_simp;refine hK _ ?_;clear hK K
 unfold dO
 obtain ⟨-,-,c6,-⟩:=ST.out _ _ _ PB.out
 go_wp2_with fail
 go_loopw [6,7,8,38] (fun _ _ _ s38 w'=>∃ (j N':Nat),j≤no∧s38=.int .i64 j∧Hid (PK w0 w P n l d K a N' P w')∧Hid (N'≤N+1+8*j)) (fun _ _ _ s38 _=>no - (intOf s38).toNat)
 case atStart=>exact ⟨0,_,by omega,rfl,PB.out,aA (by omega)⟩
 case round=>
  clear PB c6
  obtain ⟨j,N',zcC,rfl,hP,hB⟩:=hrel
  by_cases hj:j<no
  ·have Fz:(j:Int)<(no:Int):=by omega
   have hD:=zcv.out _ _ _ hP.out
   obtain ⟨x,hx⟩ : ∃ x,a.now.ons[j]?=some x:=⟨_,List.getElem?_eq_getElem (by have:=Nq.out;omega)⟩
   have dW:=xp.out.ons x (List.mem_of_getElem? hx)
   have Zl:=iZ.out.ons.2 x (List.mem_of_getElem? hx)
   obtain ⟨b,off,A9,c9,hA9,hc9,hap⟩:=hD.now.ons.argP hx (by omega) dW.2.1 dW.2.2
   have j2:=i7 dW.1 dW.2.1 dW.2.2 xK.out.up.1 xK.out.up.2
   obtain ⟨-,-,-,c4⟩:=ST.out _ _ _ hP.out
   rw [zje.out] at hA9
   subst hA9
   have zcI:=aA (qz c9 U0.uC hap.1.at_ hD.up.num (by omega) (by have:=xK.out.up.1;omega))
   obtain ⟨key,yK⟩ : ∃ key,aE K.up x=key:=⟨_,rfl⟩
   obtain ⟨z,hz⟩ : ∃ z,(dZ x (K.up.map Int.ofNat)).2=z:=⟨_,rfl⟩
   have Ix:=Gz K.up x
   rw [yK] at zcI j2 Ix
   rw [hz] at zcI
   have zgW:key.length≤30:=Nat.le_trans Ix xK.out.up.1
   have zgT:=aA (show key.length≤1048576∧dP key∧uH key from ⟨by omega,j2.small,j2.wf⟩)
   have zw:=aA hap
   obtain ⟨xl,Gh⟩ : ∃ xl,x.length=xl:=⟨_,rfl⟩
   rw [Gh] at zcI hc9 zw
   clear hx dW Zl hap j2 Ix zgW yK hz Gh hD
   go_upto_region 7 with ((with_reducible refine zcI.out.mono ?_);rintro e w4 ⟨A4,c4',rfl,o4,x4⟩;have P4:=aA (hP.out.ext x4);have zjg:=aA (zw.out.ext x4 (Q:=And' P wr.heap.size w4.heap.size) fun b hb=>.inl hb);have zj2:=aA (show AP w4 (And' P wr.heap.size w4.heap.size) A4 key.length key from ⟨⟨aW.own o4,zgT.out.1,zgT.out.2.1,zgT.out.2.2⟩,fun y hy=>.inr (o4.lt y.block (by rw [hy];rfl))⟩);clear o4 x4)
   clear zcI c4 hc9 zw
   generalize And' P wr.heap.size w4.heap.size=Q4 at *
   have lY:=aA (Kn P4.out.pd (by have:=hB.out;omega) c9 fun w' _ hk=>(zjg.out.keep hk fun _ h=>h).1)
   obtain ⟨G,hG⟩ : ∃ G,l7 K a.now key=G:=⟨_,rfl⟩
   have Vf:=aA (show G.length≤131072∧∀ q∈G,q.length≤30 from by
    rw [← hG]
    exact ⟨Nat.le_trans (uK K a.now key) iZ.out.live.1,fun q hq=>iZ.out.live.2 q (List.mem_filter.1 hq).1⟩)
   have HG:=aA hG
   clear hG
   go_wp2_with (first
    | ((with_reducible refine lY.out.mono ?_);rintro e w5 ⟨rfl,Si,Vo⟩;have P5:=aA (P4.out.same Si Vo);have zhW:=aA (zj2.out.keep Vo fun _ h=>h);have c0:=P5.out.pd.cell0;have zbD:=NP.group P5.out.pd.np (by have:=hB.out;omega) c4' zhW.out.1;rw [Cm,HG.out] at zbD;have ze0:=aA zbD;clear Si Vo zbD)
    | ((with_reducible refine ze0.out.mono ?_);rintro e w6 ⟨A6,c6,M6,rfl,hm6,hn6,zcb,hM6⟩;have P6:=aA (P5.out.ask hn6 zcb (fun _ hb=>.inl hb) fun b hb=>hb.imp id fun h=>Nat.le_trans hM6 h.1);have L6:=aA (eA.toldA hm6 (P:=fun _=>True) fun _ _ _=>trivial).lat;have nK:=xA (zcv.out _ _ _ P6.out) c4' (zhW.out.keep zcb (Q:=Q4) fun _ h=>h).1.at_;rw [HG.out] at nK;have Pj:=aA nK;clear hm6 hn6 zcb hM6 nK c0)
    | ((with_reducible refine Pj.out.mono ?_);rintro e w7 ⟨A7,c7,rfl,t7,x7⟩;have P7:=aA (P6.out.ext x7);have zfO:=mP G G A6 A7 G.length G.length c6 c7 w7 (L6.out.ext nW.stab x7) t7.lat (by have:=Vf.out.1;omega) (fun q hq=>by have:=Vf.out.2 q hq;omega);rw [fY.2 rfl] at zfO;have μ:=aA zfO;clear t7 x7 zfO)
    | ((with_reducible refine μ.out.mono ?_);rintro e w8 ⟨rfl,x8⟩;have P8:=aA (P7.out.ext x8);clear x8))
   have PB:=aA (HH.out.back P8.out.np P8.out.keep)
   go_roundw
   case rel=>exact ⟨j+1,_,by omega,by go_num,PB.out,aA (by have:=hB.out;omega)⟩
   case measure=>simp [intOf];omega
  ·obtain rfl:j=no:=by omega
   have zg5:=hP.out
   have HE:=aA (zg5.np.more (M:=N+1048576) (by have:=hB.out;omega))
   have HK:=aA zg5.keep
   clear hP zg5
   go_wp2_with fail
   go_ret
   exact ⟨rfl,HE.out,HK.out⟩
end Go.Proofs.YtahdiiaadjdmcaaGreat
