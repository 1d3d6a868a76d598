import Derived.Test.YtahdiiaadjdmcaaGreatNgF
import Derived.ArgAppend
import Derived.Test.YtahdiiaadjdmcaaGreatStoZ
import Derived.MapKept
namespace Go.Proofs.YtahdiiaadjdmcaaGreat
open Go.RowKit
theorem zby:(Tryz.prog.info? 88).map (fun i=>(i.zero,i.size,i.bytes))=some (some (.pointer none),1,8):=by kernel_rfl
def dM (K:NK) (v:eT):List Nat:=if K.kind=3 then [v.x2,v.x3] else []
def mV (K:NK) (v:eT):List Nat:=dM K v ++ [v.x1]
def oG (b:Nat) (xs:List Nat) (u:Value) (w:World):Prop:=(xs=[]∧u=.slice none 0 0)∨(xs≠[]∧∃ g,b≤g∧u=.slice (some ⟨g,0,none⟩) xs.length xs.length∧aL w g 88 (lF xs).toArray)
theorem oG.ext {b:Nat} {xs:List Nat} {u:Value} {w w':World} (h:oG b xs u w) (hw:aD w w'):oG b xs u w':=by
 rcases h with h | ⟨h,g,hg,e,hb⟩
 ·exact .inl h
 ·exact .inr ⟨h,g,hg,e,hb.ext hw⟩
theorem oG.base {b c:Nat} {xs:List Nat} {u:Value} {w:World} (h:oG c xs u w) (hb:b≤c):oG b xs u w:=by
 rcases h with h | ⟨h,g,hg,e,vS⟩
 ·exact .inl h
 ·exact .inr ⟨h,g,by omega,e,vS⟩
section
variable {w:World} {lab:aP} {K:NK} {v:eT} {a:aR} {N:Nat}
set_option maxRecDepth 100000 in
theorem Lp (k:Nat) (w:World):Calls Tryz.prog 167 #[.pointer (some ⟨k,0,none⟩)] w fun e w'=>e=.returned (.slice none 0 0)∧aD w w':=by
 go_enter Tryz.func167,Tryz.ntmps167
 go_wp2_with fail
 go_ret
 exact ⟨rfl,aD.refl _⟩
set_option maxRecDepth 100000 in
theorem Jy (k:Nat) (w:World):Calls Tryz.prog 162 #[.pointer (some ⟨k,0,none⟩)] w fun e w'=>e=.returned (.slice none 0 0)∧aD w w':=by
 go_enter Tryz.func162,Tryz.ntmps162
 go_wp2_with fail
 go_ret
 exact ⟨rfl,aD.refl _⟩
set_option maxRecDepth 100000 in
theorem Kp (h:jD w lab K v a N) (hk:K.kind=3):Calls Tryz.prog 130 #[.pointer (some ⟨v.k,0,none⟩)] w fun e w'=>∃ u,e=.returned u∧oG w.heap.size [v.x2,v.x3] u w'∧aD w w':=by
 obtain ⟨-,k1,k2⟩:=h.meet hk
 clear h
 go_enter Tryz.func130,Tryz.ntmps130
 go_upto_region 1 with fail
 have k1:=aB k1
 have k2:=aB k2
 refine aC 10 (by kernel_rfl) (by kernel_rfl) (by kernel_rfl) ?_
 iterate 8
  refine aK (by kernel_rfl) (by kernel_rfl) ?_
  apply Exists.intro
  refine ⟨fun w1 aT=>?_,fun K hK=>?_⟩
  ·go_simp;first | done | rfl
  go_simp;refine hK _ _ ?_;clear hK K
 refine cU [] (oG w.heap.size [v.x2,v.x3]) (fun u w1 w2 _ h2 h=>h.ext h2) rfl (by kernel_rfl) (fun w1 aT=>?_) ?_
 ·clear k1 k2
  simp only [cN]
  go_simp
  exact ⟨aD.alloc _ _,.inr ⟨by simp,_,aT.size,rfl,aL.new _ _ _⟩⟩
 refine cU [11] (oG w.heap.size [v.x2,v.x3]) (fun u w1 w2 _ h2 h=>h.ext h2) rfl (by kernel_rfl) (fun w1 aT=>?_) ?_
 ·clear k1 k2
  simp only [cN]
  intro u hu
  have hu:=hu _ rfl
  go_simp
  exact ⟨aD.refl _,hu⟩
 refine aH ⟨rfl,by kernel_rfl,fun wq hwq=>?_⟩
 simp only [bL,List.drop]
 intro u hu u2 hu2
 clear k1 k2
 refine wpList_nil ?_
 have HU:=aA hu;have X:=aA hwq
 clear hu hu2 hwq
 go_wp2_with fail
 go_ret
 exact ⟨_,rfl,HU.out,X.out⟩
theorem F1 {P:Program} {w w':World} {a:Act} {ops:Array Oper} {o:Oper} {s x:Operand} {t:TypeId} {u1 u2 v':Value} {G:Value→World→Prop} (hw:Region.wanted o (yielded ops a.tmps)=true) (ho:o.op=.call {callee:=.builtin .append,args:=#[s,x],argTypes:=#[t,t]})
 (hs:a.eval s=u1) (hx:a.eval x=u2) (rG:(Builtin.append_ #[t,t] o.type #[u1,u2]).run P w=.ok v' w') (hG:aD w w'∧G v' w'):if Region.wanted o (yielded ops a.tmps)=true then uM P w (.p G) ((execOp a.eval o).run P w) else G undef w:=by
 rw [if_pos hw]
 unfold execOp
 simp only [ho,resolve,invoke,builtin,Sem.run_bind,Sem.run_pure,Result.andThen_ok,List.map_toArray,List.map_cons,List.map_nil,hs,hx,rG]
 exact hG
theorem Sy (w:World) (xs:List Nat) (ty:TypeId) (x1:Nat) {u:Value} {bs:Nat} (hu:oG bs xs u w) {gn:Nat} (hb:aL w gn 88 #[ptr x1]) (hl:xs.length≤2) :
 ∃ v' w',(Builtin.append_ #[103,103] ty #[u,.slice (some ⟨gn,0,none⟩) 1 1]).run Tryz.prog w=.ok v' w'∧w'.ownsRow w.heap.size 88 1 v' (xs ++ [x1]).length (lF (xs ++ [x1]))∧aD w w':=by
 obtain ⟨i0,eQ,hz0,hz1,eO⟩:=info_parts zby
 have hx:lF (xs ++ [x1])=lF xs ++ [ptr x1]:=by unfold lF;rw [List.map_append];rfl
 rw [hx,List.length_append,List.length_singleton]
 rcases hu with ⟨rfl,rfl⟩ | ⟨aZ,g,-,rfl,hg⟩
 ·obtain ⟨v',w',h1,h2,h3,h4⟩:=oB (P:=Tryz.prog) w w.heap.size 103 ty 88 i0 _ 1 8 Tryz.underlying103 eQ hz0 hz1 eO rfl (by omega) (.slice none 0 0) 0 [] (World.ownsRow_nil _ _ _ _) (some ⟨gn,0,none⟩) 1 1 [ptr x1] (hb.sl rfl) (fun v hv=>by obtain rfl:=List.mem_singleton.1 hv;rfl) (by unfold maxLen;omega) (by omega) (Nat.le_refl _)
  exact ⟨v',w',h1,h2,Below.grown (aD.refl w) h3 (Nat.le_refl _) (fun k hk=>by cases hk)⟩
 ·obtain ⟨v',w',h1,h2,h3⟩:=run_append_arg_grows (P:=Tryz.prog) w 103 ty 88 i0 _ 1 8 Tryz.underlying103 eQ hz0 hz1 eO rfl (by omega) ⟨g,0,none⟩ xs.length xs.length (lF xs) (by unfold lF;simp)
   (fun j u hj=>by rw [kO,Nat.zero_add,hg.cell];simpa using hj) ⟨gn,0,none⟩ 1 1 [ptr x1] rfl (fun j u hj=>by rw [kO,Nat.zero_add,hb.cell];simpa using hj) (by omega) (by unfold maxLen;omega) (by omega)
  exact ⟨v',w',h1,h2,Below.grown (aD.refl w) h3 (Nat.le_refl _) (fun k hk=>by cases hk)⟩
def Eo (b:Nat) (xs:List Nat) (u:Value) (w:World):Prop:=∃ A c,u=.slice A xs.length c∧w.ownsRow b 88 1 (.slice A xs.length c) xs.length (lF xs)
theorem Eo.ext {b:Nat} {xs:List Nat} {u:Value} {w w':World} (h:Eo b xs u w) (hw:aD w w'):Eo b xs u w':=by
 obtain ⟨A,c,e,h⟩:=h
 exact ⟨A,c,e,dX h hw⟩
theorem Ca (K:NK) (v:eT):(dM K v).length≤2:=by unfold dM;split <;> simp
theorem Bo (h : jD w lab K v a N) (hK : fN K) : ∃ f, (∀ (u : Value) (w : World), (method 359 (cI K) u "osier/node.stores").run Tryz.prog w = .ok (f, u) w) ∧ ∀ w', aD w w' → Enters Tryz.prog f ∧ Calls Tryz.prog f #[.pointer (some ⟨v.k, 0, none⟩)] w' fun e w2 => ∃ u, e = .returned u ∧ oG w'.heap.size (dM K v) u w2 ∧ aD w' w2 := by
 unfold cI dM
 rcases hK.kind with hk | hk | hk
 ·rw [if_neg (by omega),if_neg (by omega),if_neg (by omega)]
  refine ⟨_,xB,fun w' hw=>⟨enters_of Tryz.func167 (by kernel_rfl) rfl,(Lp v.k w').mono ?_⟩⟩
  rintro e w2 ⟨rfl,hx⟩
  exact ⟨_,rfl,.inl ⟨rfl,rfl⟩,hx⟩
 ·rw [if_pos hk,if_neg (by omega)]
  refine ⟨_,xH,fun w' hw=>⟨enters_of Tryz.func162 (by kernel_rfl) rfl,(Jy v.k w').mono ?_⟩⟩
  rintro e w2 ⟨rfl,hx⟩
  exact ⟨_,rfl,.inl ⟨rfl,rfl⟩,hx⟩
 ·rw [if_neg (by omega),if_pos hk,if_pos hk]
  exact ⟨_,xD,fun w' hw=>⟨enters_of Tryz.func130 (by kernel_rfl) rfl,Kp (h.ext hw) hk⟩⟩
set_option maxRecDepth 100000 in
theorem Qg (h:jD w lab K v a N) (hK:fN K):Calls Tryz.prog 76 #[.pointer (some ⟨v.n,0,none⟩)] w fun e w'=>∃ u,e=.returned u∧Eo w.heap.size (mV K v) u w'∧aD w w':=by
 obtain ⟨n0,n1,-⟩:=h.kind
 have a6:=h.rows6
 obtain ⟨f,hm,hc⟩:=Bo h hK
 have HC:=aA hc
 clear h hc
 go_enter Tryz.func76,Tryz.ntmps76
 go_upto_region 1 with fail
 have n0:=aB n0
 have n1:=aB n1
 have a6:=aB a6
 refine aC 15 (by kernel_rfl) (by kernel_rfl) (by kernel_rfl) ?_
 iterate 4
  refine aK (by kernel_rfl) (by kernel_rfl) ?_
  apply Exists.intro
  refine ⟨fun w1 aT=>?_,fun K hK=>?_⟩
  ·go_simp;first | done | rfl
  go_simp;refine hK _ _ ?_;clear hK K
 refine cU [] (oG w.heap.size (dM K v)) (fun u w1 w2 _ h2 h=>h.ext h2) rfl (by kernel_rfl) (fun w1 aT=>?_) ?_
 ·clear n0 n1 a6
  simp only [cN]
  have he:=(HC.out w1 aT).1 #[.pointer (some ⟨v.k,0,none⟩)] w1
  go_simp
  exact ⟨aD.refl _,((HC.out w1 aT).2).mono fun e w2 ⟨u,h1,h2,h3⟩=>⟨u,h1,h3,h2.base aT.size⟩⟩
 iterate 7
  refine aK (by kernel_rfl) (by kernel_rfl) ?_
  apply Exists.intro
  refine ⟨fun w1 aT=>?_,fun K hK=>?_⟩
  ·go_simp;first | done | rfl
  go_simp;refine hK _ _ ?_;clear hK K
 refine cU [] (fun u w1=>∃ gn,u=.slice (some ⟨gn,0,none⟩) 1 1∧aL w1 gn 88 #[.pointer (some ⟨v.x1,0,none⟩)]) (fun u w1 w2 _ h2 ⟨gn,h3,h4⟩=>⟨gn,h3,h4.ext h2⟩) rfl (by kernel_rfl) (fun w1 aT=>?_) ?_
 ·clear n0 n1 a6
  simp only [cN]
  go_simp
  exact ⟨aD.alloc _ _,aL.new _ _ _⟩
 refine cU [7,15] (Eo w.heap.size (mV K v)) (fun u w1 w2 _ h2 h=>h.ext h2) rfl (by kernel_rfl) (fun w1 aT=>?_) ?_
 ·clear n0 n1 a6
  simp only [cN]
  intro u1 zcd u2 hu2
  have zcd:=zcd _ rfl
  obtain ⟨gn,rfl,hb⟩:=hu2 _ rfl
  clear hu2
  obtain ⟨v',w',rG,ho,hX⟩:=Sy w1 (dM K v) _ v.x1 zcd hb (Ca K v)
  have hv:∃ A' c',v'=.slice A' (dM K v ++ [v.x1]).length c':=by
   rcases ho.2 with ⟨h5,h6⟩ | ⟨g,cap,cur,h5,_⟩
   ·exact ⟨none,0,by rw [h5,h6]⟩
   ·exact ⟨_,_,h5⟩
  obtain ⟨zgr,c15,rfl⟩:=hv
  exact F1 (s:=.tmp 7) (x:=.tmp 15) (t:=103) (by go_simp) rfl rfl rfl rG ⟨hX,zgr,c15,rfl,dI ho aT.size⟩
 refine cU [16] (Eo w.heap.size (mV K v)) (fun u w1 w2 _ h2 h=>h.ext h2) rfl (by kernel_rfl) (fun w1 aT=>?_) ?_
 ·clear n0 n1 a6
  simp only [cN]
  intro u hu
  have hu:=hu _ rfl
  go_simp
  exact ⟨aD.refl _,hu⟩
 refine aH ⟨rfl,by kernel_rfl,fun wq hwq=>?_⟩
 simp only [bL,List.drop]
 clear n0 n1 a6
 intro u hu u2 hu2 u3 hu3 u4 hu4
 refine wpList_nil ?_
 have HU:=aA hu;have X:=aA hwq
 clear hu hu2 hu3 hu4 hwq HC
 go_wp2_with fail
 go_ret
 exact ⟨_,rfl,HU.out,X.out⟩
end
structure yJ (w:World) (lab:aP) (K:NK) (v:eT) (a:aR) (T:Nat→aY) (N:Nat):Prop where
 lt:∀ b i,lab b=some i→b<w.heap.size
 p0:jF w (lab.own 0) K v a N 0
 s1:kK w (lab.own 1) v.x1 (T 1) N
 s2:K.kind=3→kK w (lab.own 2) v.x2 (T 2) N
 s3:K.kind=3→kK w (lab.own 3) v.x3 (T 3) N
 p4:jF w (lab.own 4) K v a N 4
 p5:jF w (lab.own 5) K v a N 5
def Ii (K:NK) (a:aR):Nat→aY:=fun j=>if j=1 then S1 K a else if j=2 then S2 K a else S3 K a
theorem fD.open_ {w:World} {lab:aP} {K:NK} {v:eT} {a:aR} {N:Nat} (h:fD w lab K v a (S1 K a) N):yJ w lab K v a (Ii K a) N:=⟨h.r.lt,h.r.part 0,h.s,h.r.part 2,h.r.part 3,h.r.part 4,h.r.part 5⟩
theorem yJ.shut {w:World} {lab:aP} {K:NK} {v:eT} {a a':aR} {T:Nat→aY} {N:Nat} (h:yJ w lab K v a T N) (h1:T 1=S1 K a') (h2:K.kind=3→T 2=S2 K a') (h3:K.kind=3→T 3=S3 K a') (h4:jF w (lab.own 4) K v a' N 4) (h5:jF w (lab.own 5) K v a' N 5):fD w lab K v a' (S1 K a') N:=by
 refine ⟨⟨h.lt,fun i=>?_⟩,h1 ▸ h.s1⟩
 match i with
 | 0=>exact h.p0
 | 1=>exact trivial
 | 2=>exact fun hk=>h2 hk ▸ h.s2 hk
 | 3=>exact fun hk=>h3 hk ▸ h.s3 hk
 | 4=>exact h4
 | 5=>exact h5
 | _+6=>exact trivial
theorem yJ.chg {w w':World} {C:Nat→Prop} {lab:aP} {K:NK} {v:eT} {a:aR} {T:Nat→aY} {N:Nat} (h:yJ w lab K v a T N) (hw:aF C w w') (hC:∀ g,lab.dom g→¬ C g):yJ w' lab K v a T N:=
 ⟨fun b i hb=>Nat.lt_of_lt_of_le (h.lt b i hb) hw.size,i8 hw (fun g hg=>hC g ⟨0,hg⟩) 0 h.p0,h.s1.chg hw fun g hg=>hC g ⟨1,hg⟩,fun hk=>(h.s2 hk).chg hw fun g hg=>hC g ⟨2,hg⟩,fun hk=>(h.s3 hk).chg hw fun g hg=>hC g ⟨3,hg⟩,i8 hw (fun g hg=>hC g ⟨4,hg⟩) 4 h.p4,i8 hw (fun g hg=>hC g ⟨5,hg⟩) 5 h.p5⟩
theorem yJ.ext {w w':World} {lab:aP} {K:NK} {v:eT} {a:aR} {T:Nat→aY} {N:Nat} (h:yJ w lab K v a T N) (hw:aD w w'):yJ w' lab K v a T N:=h.chg (C:=fun _=>False) (aF.of hw) fun _ _ x=>x
theorem yJ.more {w:World} {lab:aP} {K:NK} {v:eT} {a:aR} {T:Nat→aY} {N M:Nat} (h:yJ w lab K v a T N) (hM:N≤M):yJ w lab K v a T M:=
 ⟨h.lt,h.p0,h.s1.more hM,fun hk=>(h.s2 hk).more hM,fun hk=>(h.s3 hk).more hM,dV (fun _ h=>h) hM 4 h.p4,dV (fun _ h=>h) hM 5 h.p5⟩
def qY (T:Nat→aY) (j:Nat) (S:aY):Nat→aY:=fun i=>if i=j then S else T i
theorem Xn {w w':World} {lab:aP} (bC:∀ b i,lab b=some i→b<w.heap.size) (j:Nat) {B':Nat→Prop} (hB:∀ b,B' b→lab.own j b∨w.heap.size≤b) (hl:∀ b,B' b→b<w'.heap.size) (hC:aF (lab.own j) w w') :
 ∃ lab':aP,(∀ b i,lab' b=some i→b<w'.heap.size)∧(∀ b,B' b→lab'.own j b)∧(∀ i,i≠j→lab'.own i=lab.own i)∧eU w lab w' lab':=by
 have wE:∀ b i,lab.grow w.heap.size j B' b=some i→b<w'.heap.size:=fun b i hb=>by
  unfold aP.grow at hb
  split at hb
  ·have:=hC.size;omega
  ·split at hb
   ·exact hl b (by assumption)
   ·cases hb
 refine ⟨lab.grow w.heap.size j B',wE,fun b hb=>?_,fun i hi=>?_,fun b hb=>?_,hC.mono fun g hg _=>⟨j,hg⟩⟩
 ·show lab.grow w.heap.size j B' b=some j
  unfold aP.grow
  rcases hB b hb with h1 | h1
  ·rw [if_pos (bC b _ h1)];exact h1
  ·rw [if_neg (by omega),if_pos hb]
 ·funext b
  unfold aP.own aP.grow
  apply propext
  split
  ·exact Iff.rfl
  ·split
   ·constructor
    ·intro h1;injection h1 with h1;exact absurd h1.symm hi
    ·intro h1;have:=bC b _ h1;omega
   ·constructor
    ·intro h1;cases h1
    ·intro h1;have:=bC b _ h1;omega
 ·obtain ⟨i,hi⟩:=hb
  unfold aP.grow at hi
  split at hi
  ·exact .inl ⟨i,hi⟩
  ·right;omega
def Ln (v:eT) (j:Nat):Nat:=if j=1 then v.x1 else if j=2 then v.x2 else v.x3
theorem yJ.sti {w:World} {lab:aP} {K:NK} {v:eT} {a:aR} {T:Nat→aY} {N:Nat} (h:yJ w lab K v a T N) {j:Nat} (hj:j=1∨(K.kind=3∧(j=2∨j=3))):kK w (lab.own j) (Ln v j) (T j) N:=by
 rcases hj with rfl | ⟨hk,rfl | rfl⟩
 ·exact h.s1
 ·exact h.s2 hk
 ·exact h.s3 hk
theorem yJ.call {w w':World} {lab:aP} {K:NK} {v:eT} {a:aR} {T:Nat→aY} {N M:Nat} (h:yJ w lab K v a T N) {j:Nat} (hj:j=1∨(K.kind=3∧(j=2∨j=3))) (hM:N≤M) {S':aY} (hs:pA w (lab.own j) (Ln v j) S' M w'):∃ lab',yJ w' lab' K v a (qY T j S') M∧eU w lab w' lab':=by
 obtain ⟨B',h1,h2,h3,h4⟩:=hs
 obtain ⟨lab',r1,r2,r3,r4⟩:=Xn h.lt j h2 h3 h4
 have Zq:0≠j:=by omega
 have zhD:4≠j:=by omega
 have ziV:5≠j:=by omega
 have fI:∀ i,(i=1∨(K.kind=3∧(i=2∨i=3)))→kK w' (lab'.own i) (Ln v i) (qY T j S' i) M:=fun i hi=>by
  unfold qY
  by_cases e:i=j
  ·subst e
   rw [if_pos rfl]
   exact h1.mono r2
  ·rw [if_neg e,r3 i e]
   exact ((h.sti hi).chg h4 (iA e)).more hM
 refine ⟨lab',⟨r1,?_,fI 1 (.inl rfl),fun hk=>fI 2 (.inr ⟨hk,.inl rfl⟩),fun hk=>fI 3 (.inr ⟨hk,.inr rfl⟩),?_,?_⟩,r4⟩
 ·rw [r3 0 Zq];exact i8 h4 (iA Zq) 0 h.p0
 ·rw [r3 4 zhD];exact dV (fun _ h=>h) hM 4 (i8 h4 (iA zhD) 4 h.p4)
 ·rw [r3 5 ziV];exact dV (fun _ h=>h) hM 5 (i8 h4 (iA ziV) 5 h.p5)
def rJ (K:NK) (i:Nat):Nat:=if K.kind=3 then if i=0 then 2 else if i=1 then 3 else 1 else 1
theorem Wm {K:NK} {v:eT} {i x:Nat} (h:(mV K v)[i]?=some x):x=Ln v (rJ K i)∧(rJ K i=1∨(K.kind=3∧(rJ K i=2∨rJ K i=3))):=by
 unfold mV dM at h
 unfold rJ Ln
 by_cases hk:K.kind=3
 ·rw [if_pos hk] at h
  rw [if_pos hk]
  match i,h with
  | 0,h=>exact ⟨by simpa using h.symm,.inr ⟨hk,.inl rfl⟩⟩
  | 1,h=>exact ⟨by simpa using h.symm,.inr ⟨hk,.inr rfl⟩⟩
  | 2,h=>exact ⟨by simpa using h.symm,.inl rfl⟩
  | i+3,h=>simp at h
 ·rw [if_neg hk] at h
  rw [if_neg hk]
  match i,h with
  | 0,h=>exact ⟨by simpa using h.symm,.inl rfl⟩
  | i+1,h=>simp at h
theorem rO (K:NK) (v:eT):(mV K v).length=if K.kind=3 then 3 else 1:=by unfold mV dM;split <;> rfl
def mR (K:NK) (f:aY→aY) (T:Nat→aY):Nat→Nat→aY
 | 0=>T
 | i+1=>qY (mR K f T i) (rJ K i) (f (T (rJ K i)))
theorem Qf (K:NK) (f:aY→aY) (T:Nat→aY) {i:Nat} (hi:i<if K.kind=3 then 3 else 1):mR K f T i (rJ K i)=T (rJ K i):=by
 by_cases hk:K.kind=3
 ·rw [if_pos hk] at hi
  match i,hi with
  | 0,_=>rfl
  | 1,_=>simp [mR,qY,rJ,hk]
  | 2,_=>simp [mR,qY,rJ,hk]
 ·rw [if_neg hk] at hi
  obtain rfl:i=0:=by omega
  rfl
theorem J4 (K:NK) (f:aY→aY) (T:Nat→aY):mR K f T (if K.kind=3 then 3 else 1) 1=f (T 1)∧(K.kind=3→mR K f T (if K.kind=3 then 3 else 1) 2=f (T 2))∧(K.kind=3→mR K f T (if K.kind=3 then 3 else 1) 3=f (T 3)):=by
 by_cases hk:K.kind=3
 ·rw [if_pos hk]
  exact ⟨by simp [mR,qY,rJ,hk],fun _=>by simp [mR,qY,rJ,hk],fun _=>by simp [mR,qY,rJ,hk]⟩
 ·rw [if_neg hk]
  exact ⟨by simp [mR,qY,rJ,hk],fun h=>absurd h hk,fun h=>absurd h hk⟩
set_option maxRecDepth 100000 in
set_option maxHeartbeats 1000000 in
theorem Kb {w:World} {lab:aP} {K:NK} {v:eT} {a:aR} {N:Nat} (h:fD w lab K v a (S1 K a) N) (hK:fN K) :
 Calls Tryz.prog 53 #[.pointer (some ⟨v.n,0,none⟩),.func (.func 77) #[] #[]] w fun e w'=>e=.returned (.int .i64 (if a.old.isSome then 0 else 65))∧∃ lab',yJ w' lab' K v a (mR K (fun S=>(fX S).1) (Ii K a) (if K.kind=3 then 3 else 1)) (N+3)∧eU w lab w' lab':=by
 have HA:=aA (Qg h.r hK)
 have HO:=aA h.open_;have HD:=aA h.dom
 have zbx:=aA (show ∀ j,(fX (Ii K a j)).2=if a.old.isSome then 0 else 65 from fun j=>by
  unfold Ii
  have h1:∀ S:aY,S.old.isSome=a.old.isSome→(fX S).2=if a.old.isSome then 0 else 65:=fun S hs=>by
   unfold fX
   cases ho:S.old with
   | none=>rw [ho] at hs;rw [← hs];rfl
   | some o=>rw [ho] at hs;rw [← hs];rfl
  split
  ·exact h1 _ (by unfold S1;simp)
  ·split
   ·exact h1 _ (by unfold S2;simp)
   ·exact h1 _ (by unfold S3;simp))
 generalize hz:(if a.old.isSome then (0:Int) else 65)=z at *
 clear h hz
 have zas:=aA (rO K v)
 have zj4:(mV K v).length≤3∧0<(mV K v).length:=by rw [rO];split <;> omega
 rw [← rO K v]
 go_enter Tryz.func53,Tryz.ntmps53
 go_wp2_with ((with_reducible refine HA.out.mono ?_);rintro e w1 ⟨u,rfl,⟨A,c,rfl,hr⟩,hx⟩;have HR:=aA hr;have X1:=aA hx;clear hr hx)
 have ql:=aA (HO.out.ext X1.out)
 go_loopw [4,6,10] (fun s4 _ s10 w'=>∃ (i:Nat) (lab4:aP),i≤(mV K v).length∧s10=.int .i64 i∧s4=.int .i64 (if i=0 then 0 else z)∧Hid (yJ w' lab4 K v a (mR K (fun S=>(fX S).1) (Ii K a) i) (N+i))∧Hid (eU w1 lab w' lab4)) (fun _ _ s10 _=>(mV K v).length - (intOf s10).toNat)
 case atStart=>exact ⟨0,lab,by omega,rfl,rfl,ql.out,wQ _ _⟩
 case round=>
  obtain ⟨i,lab4,hi,rfl,rfl,hQ,hSt⟩:=hrel
  by_cases j0:i<(mV K v).length
  ·obtain ⟨x,hx⟩ : ∃ x,(mV K v)[i]?=some x:=⟨_,List.getElem?_eq_getElem j0⟩
   have gE:=Wm hx
   have d_:(lF (mV K v))[i]?=some (.pointer (some ⟨x,0,none⟩)):=by unfold lF;rw [List.getElem?_map,hx];rfl
   have dY:=hSt.out.2.own HR.out fun g hg hd=>by have h1:=(HR.out.lt g hg).1;have h2:=HD.out g hd;omega
   obtain ⟨b,off,hA,hc⟩:=(Sl.own dY).2 (by omega)
   subst hA
   have e0:=hc i _ d_
   have fI:=hQ.out.sti gE.2
   rw [Qf K _ _ (by rw [← zas.out];exact j0)] at fI
   have HC:=Us fI
   rw [zbx.out (rJ K i),← gE.1] at HC
   have HC:=aA HC
   have Bu:=aA gE
   clear hx d_ dY hc fI gE
   go_wp2_with ((with_reducible refine HC.out.mono ?_);rintro e w4 ⟨rfl,hs⟩;have S4:=aA hs;clear hs)
   go_roundw
   case rel=>
    obtain ⟨lab5,q5,st5⟩:=hQ.out.call Bu.out.2 (Nat.le_succ (N+i)) (Bu.out.1 ▸ S4.out)
    exact ⟨i+1,lab5,by omega,by go_num,by simp,q5,bB hSt.out st5⟩
   case measure=>simp [intOf];omega
  ·obtain rfl:i=(mV K v).length:=by omega
   go_wp2_with fail
   go_ret
   refine ⟨?_,lab4,hQ.out.more (by omega),bB (cM X1.out) hSt.out⟩
   first | rfl | (rw [if_neg (by omega)];rfl) | rw [if_neg (by omega)]
set_option maxRecDepth 100000 in
set_option maxHeartbeats 1000000 in
theorem Uk {w:World} {lab:aP} {K:NK} {v:eT} {a:aR} {N:Nat} (h:fD w lab K v a (S1 K a) N) (hK:fN K) (hN:N+3≤8796093022208) :
 Calls Tryz.prog 53 #[.pointer (some ⟨v.n,0,none⟩),.func (.func 54) #[] #[]] w fun e w'=>e=.returned (.int .i64 (if a.old.isSome then 0 else 65))∧∃ lab',yJ w' lab' K v a (mR K (fun S=>(qD S).1) (Ii K a) (if K.kind=3 then 3 else 1)) (N+3)∧eU w lab w' lab':=by
 have HA:=aA (Qg h.r hK)
 have HO:=aA h.open_;have HD:=aA h.dom
 have zbx:=aA (show ∀ j,(qD (Ii K a j)).2=if a.old.isSome then 0 else 65 from fun j=>by
  unfold Ii
  have h1:∀ S:aY,S.old.isSome=a.old.isSome→(qD S).2=if a.old.isSome then 0 else 65:=fun S hs=>by
   unfold qD
   cases ho:S.old with
   | none=>rw [ho] at hs;rw [← hs];rfl
   | some o=>rw [ho] at hs;rw [← hs];rfl
  split
  ·exact h1 _ (by unfold S1;simp)
  ·split
   ·exact h1 _ (by unfold S2;simp)
   ·exact h1 _ (by unfold S3;simp))
 generalize hz:(if a.old.isSome then (0:Int) else 65)=z at *
 clear h hz
 have zas:=aA (rO K v)
 have zj4:(mV K v).length≤3∧0<(mV K v).length:=by rw [rO];split <;> omega
 rw [← rO K v]
 go_enter Tryz.func53,Tryz.ntmps53
 go_wp2_with ((with_reducible refine HA.out.mono ?_);rintro e w1 ⟨u,rfl,⟨A,c,rfl,hr⟩,hx⟩;have HR:=aA hr;have X1:=aA hx;clear hr hx)
 have ql:=aA (HO.out.ext X1.out)
 go_loopw [4,6,10] (fun s4 _ s10 w'=>∃ (i:Nat) (lab4:aP),i≤(mV K v).length∧s10=.int .i64 i∧s4=.int .i64 (if i=0 then 0 else z)∧Hid (yJ w' lab4 K v a (mR K (fun S=>(qD S).1) (Ii K a) i) (N+i))∧Hid (eU w1 lab w' lab4)) (fun _ _ s10 _=>(mV K v).length - (intOf s10).toNat)
 case atStart=>exact ⟨0,lab,by omega,rfl,rfl,ql.out,wQ _ _⟩
 case round=>
  obtain ⟨i,lab4,hi,rfl,rfl,hQ,hSt⟩:=hrel
  by_cases j0:i<(mV K v).length
  ·obtain ⟨x,hx⟩ : ∃ x,(mV K v)[i]?=some x:=⟨_,List.getElem?_eq_getElem j0⟩
   have gE:=Wm hx
   have d_:(lF (mV K v))[i]?=some (.pointer (some ⟨x,0,none⟩)):=by unfold lF;rw [List.getElem?_map,hx];rfl
   have dY:=hSt.out.2.own HR.out fun g hg hd=>by have h1:=(HR.out.lt g hg).1;have h2:=HD.out g hd;omega
   obtain ⟨b,off,hA,hc⟩:=(Sl.own dY).2 (by omega)
   subst hA
   have e0:=hc i _ d_
   have fI:=hQ.out.sti gE.2
   rw [Qf K _ _ (by rw [← zas.out];exact j0)] at fI
   have HC:=Ka fI (by omega)
   rw [zbx.out (rJ K i),← gE.1] at HC
   have HC:=aA HC
   have Bu:=aA gE
   clear hx d_ dY hc fI gE
   go_wp2_with ((with_reducible refine HC.out.mono ?_);rintro e w4 ⟨rfl,hs⟩;have S4:=aA hs;clear hs)
   go_roundw
   case rel=>
    obtain ⟨lab5,q5,st5⟩:=hQ.out.call Bu.out.2 (Nat.le_succ (N+i)) (Bu.out.1 ▸ S4.out)
    exact ⟨i+1,lab5,by omega,by go_num,by simp,q5,bB hSt.out st5⟩
   case measure=>simp [intOf];omega
  ·obtain rfl:i=(mV K v).length:=by omega
   go_wp2_with fail
   go_ret
   refine ⟨?_,lab4,hQ.out.more (by omega),bB (cM X1.out) hSt.out⟩
   first | rfl | (rw [if_neg (by omega)];rfl) | rw [if_neg (by omega)]
def j7 (a:aR):aR × Int:=match a.old with
 | none=>(⟨a.now,some a.now⟩,0)
 | some _=>(a,64)
def cX (a:aR):aR × Int:=match a.old with
 | none=>(a,65)
 | some _=>(⟨a.now,none⟩,0)
def fS (a:aR):aR × Int:=match a.old with
 | none=>(a,65)
 | some o=>(⟨o,none⟩,0)
theorem Sr {P:Program} {w:World} {r:Nat} {es:Array MapEntry} {clock:Nat} (t:TypeId) (hb:w.heap[r]?=some (.map es clock)) :
 (Extern.MapsClone.clone #[.iface t (.map (some r))]).run P w=.ok (.iface t (.map (some w.heap.size))) (w.alloc (.map es clock)):=by
 have e:Extern.MapsClone.clone #[.iface t (.map (some r))]=(getObj r >>= fun o=>match o with
  | .map entries clock=>(newObj (.map entries clock) >>= fun n=>pure (.iface t (.map (some n))))
  | _ => stuck "maps.clone: a map expected") := rfl
 rw [e]
 simp [MapKept.run_getObj_map hb,Result.andThen,go_sem]
theorem Cn (d:Nat) (p:Option Nat) (w:World):(Op.equalIn (d+1) 107 (.map p) (.map none)).run Tryz.prog w=.ok p.isNone w:=by
 cases p <;> simp [Op.equalIn,run_underlying Tryz.underlying107]
theorem Oy (p:Option Nat) (w:World):(binOp .eql 107 (.map p) (.map none)).run Tryz.prog w=.ok (.bool p.isNone) w:=by
 simp only [binOp]
 simp [show Op.equal 107 (.map p) (.map none)=Op.equalIn (9999+1) 107 (.map p) (.map none) from rfl,Cn 9999 p w]
theorem zbm (v:Value) (w:World):(Instr.typeAssert (.iface 107 v) 20 107 false).run Tryz.prog w=.ok v w:=by kernel_rfl
theorem Kt (v:Value) (w:World):(Instr.typeAssert (.iface 105 v) 46 105 true).run Tryz.prog w=.ok (.tuple #[v,.bool true]) w:=by kernel_rfl
theorem Ip (v:Value) (w:World):(Instr.typeAssert (.iface 117 v) 46 105 true).run Tryz.prog w=.ok (.tuple #[.pointer none,.bool false]) w:=by kernel_rfl
theorem Fu (v:Value) (w:World):(Instr.typeAssert (.iface 91 v) 46 105 true).run Tryz.prog w=.ok (.tuple #[.pointer none,.bool false]) w:=by kernel_rfl
theorem Gf (v:Value) (w:World):(Instr.typeAssert (.iface 105 v) 46 91 true).run Tryz.prog w=.ok (.tuple #[.pointer none,.bool false]) w:=by kernel_rfl
theorem Ft (v:Value) (w:World):(Instr.typeAssert (.iface 117 v) 46 91 true).run Tryz.prog w=.ok (.tuple #[.pointer none,.bool false]) w:=by kernel_rfl
theorem Ki (v:Value) (w:World):(Instr.typeAssert (.iface 91 v) 46 91 true).run Tryz.prog w=.ok (.tuple #[v,.bool true]) w:=by kernel_rfl
theorem pD {K:NK} (hK:fN K) (v:Value) (w:World):(Instr.typeAssert (.iface (cI K) v) 46 105 true).run Tryz.prog w=.ok (.tuple #[if K.kind=2 then v else .pointer none,.bool (decide (K.kind=2))]) w:=by
 unfold cI
 rcases hK.kind with hk | hk | hk
 ·rw [if_neg (by omega),if_neg (by omega),if_neg (by omega),decide_eq_false (by omega)];exact Ip v w
 ·rw [if_pos hk,if_pos hk,decide_eq_true hk];exact Kt v w
 ·rw [if_neg (by omega),if_pos hk,if_neg (by omega),decide_eq_false (by omega)];exact Fu v w
theorem Qi {K:NK} (hK:fN K) (v:Value) (w:World):(Instr.typeAssert (.iface (cI K) v) 46 91 true).run Tryz.prog w=.ok (.tuple #[if K.kind=3 then v else .pointer none,.bool (decide (K.kind=3))]) w:=by
 unfold cI
 rcases hK.kind with hk | hk | hk
 ·rw [if_neg (by omega),if_neg (by omega),if_neg (by omega),decide_eq_false (by omega)];exact Ft v w
 ·rw [if_pos hk,if_neg (by omega),decide_eq_false (by omega)];exact Gf v w
 ·rw [if_neg (by omega),if_pos hk,if_pos hk,decide_eq_true hk];exact Ki v w
set_option maxRecDepth 100000 in
set_option maxHeartbeats 1000000 in
theorem Uj {w:World} {b n:Nat} {σ:lX} (h:jB w b n σ) :
 Calls Tryz.prog 52 #[.map (some b)] w fun e w'=>∃ g,e=.returned (.map (some g))∧w.heap.size≤g∧g<w'.heap.size∧jB w' g n σ∧aD w w':=by
 obtain ⟨D,⟨es,clock,hb,h3⟩,h2⟩:=h
 have hq:=fun w=>Oy (some b) w
 have HM:=aA (show jB (w.alloc (.map es clock)) w.heap.size n σ from ⟨D,⟨es,clock,(MapKept.heap_alloc w _).1,h3⟩,h2⟩)
 clear h3 h2
 go_enter Tryz.func52,Tryz.ntmps52
 go_wp2
 rw [run_callFunc_extern Tryz.func75 (by kernel_rfl) (by kernel_rfl) (by kernel_rfl) (e:=Extern.MapsClone.clone) (by kernel_rfl),Sr 107 hb]
 simp only [Result.andThen]
 rw [Oper.upon_value]
 go_wp2
 rw [zbm]
 simp only [Result.andThen]
 rw [Oper.upon_value]
 go_wp2
 go_ret
 exact ⟨_,rfl,Nat.le_refl _,by rw [World.size_alloc];omega,HM.out,aD.alloc _ _⟩
theorem jX.setMap {w:World} {B:Nat→Prop} {A:Option Addr} {n:Nat} {xs:List Int} (h:jX w B A n xs) {p:Addr} {q:Option Nat} (hp:w.cell? p=some (.map q)) (u:Value):jX (w.setCell p u) B A n xs:=by
 refine ⟨⟨h.1.1,h.1.2.1,fun hn=>?_⟩,h.2⟩
 obtain ⟨b,off,hA,hc⟩:=h.1.2.2 hn
 refine ⟨b,off,hA,fun j x hx=>?_⟩
 have h1:=hc j x hx
 refine (World.cell?_setCell_other _ _ _ _ fun e=>?_).trans h1
 rw [e,h1] at hp
 rw [List.getElem?_map] at hx
 cases hz:xs[j]? with
 | none=>rw [hz] at hx;cases hx
 | some z=>rw [hz] at hx;injection hx with hx;rw [← hx] at hp;injection hp with hp;cases hp
def vE (lab:aP) (g j:Nat):aP:=fun b=>if b=g then some j else lab b
theorem Su {lab:aP} {g j i:Nat} (hg:∀ k,lab g=some k→k≠i) (hi:i≠j):(vE lab g j).own i=lab.own i:=by
 funext b
 unfold aP.own vE
 apply propext
 split
 ·rename_i e
  subst e
  constructor
  ·intro h;injection h with h;exact absurd h.symm hi
  ·intro h;exact absurd rfl (hg i h)
 ·exact Iff.rfl
theorem Fm (lab:aP) (g j:Nat):(vE lab g j).own j g:=by unfold aP.own vE;rw [if_pos rfl]
theorem Es {lab:aP} {g j b:Nat} (h:(vE lab g j).dom b):lab.dom b∨b=g:=by
 obtain ⟨i,hi⟩:=h
 unfold vE at hi
 split at hi
 ·right;assumption
 ·exact .inl ⟨i,hi⟩
theorem yJ.trim {w:World} {lab:aP} {K:NK} {v:eT} {a a':aR} {T:Nat→aY} {N:Nat} (h:yJ w lab K v a T N) (hk:K.kind=2) {g j i m:Nat} {p2:Option Nat} {q:Option Nat} {u:Value} (hg:g<w.heap.size) (hl:∀ k,lab g=some k→k=5) (hj:j=4∨j=5)
 (hp:w.cell? ⟨v.k,i,none⟩=some (.map q)) (hc:(jO K v).setIfInBounds i u=jO K {v with m1:=m,m2:=.map p2}) (h1:T 1=S1 K a')
 (h4:∀ w' B,(∀ b,b≠v.k→w'.heap[b]?=w.heap[b]?)→(∀ b,lab.own 4 b→B b)→(j=4→B g)→gB w' B K m N a'.now)
 (h5:∀ w' B,(∀ b,b≠v.k→w'.heap[b]?=w.heap[b]?)→(j=5→B g)→∀ o,a'.old=some o→∃ b,p2=some b∧gB w' B K b N o) :
 ∃ lab',fD (w.setCell ⟨v.k,i,none⟩ u) lab' K {v with m1:=m,m2:=.map p2} a' (S1 K a') N∧(∀ b,lab'.dom b→lab.dom b∨b=g)∧aF lab.dom w (w.setCell ⟨v.k,i,none⟩ u):=by
 obtain ⟨⟨n1,n2⟩,⟨l1,l2⟩,⟨k1,k2⟩,hkA,hsA,huA⟩:=h.p0
 have hC:aF (lab.own 0) w (w.setCell ⟨v.k,i,none⟩ u):=aF.setCell (B:=lab.own 0) (aF.refl _ w) (p:=⟨v.k,i,none⟩) (.inl k2) u
 have r7:∀ b,b≠v.k→(w.setCell ⟨v.k,i,none⟩ u).heap[b]?=w.heap[b]?:=fun b hb=>Below.heap_setCell w ⟨v.k,i,none⟩ u b hb
 have own:∀ x,x<4→(vE lab g j).own x=lab.own x:=fun x hx=>Su (fun k hk=>by have:=hl k hk;omega) (by omega)
 refine ⟨vE lab g j,⟨⟨fun b x hb=>?_,fun x=>?_⟩,?_⟩,fun b hb=>Es hb,hC.mono fun b hb _=>⟨0,hb⟩⟩
 ·have hs:=hC.size
  rcases Es ⟨x,hb⟩ with ⟨y,hy⟩ | rfl
  ·have:=h.lt b y hy;omega
  ·omega
 ·match x with
  |0=>
   rw [own 0 (by decide)]
   have hw:lN K=110:=(eI hk v).1
   have e1:v.n≠v.k:=fun e=>by
    have k1:=k1
    unfold aL at n1 k1
    rw [e,k1,hw] at n1
    injection n1 with n1;injection n1 with _ n1;exact absurd n1 (by decide)
   have e2:v.l≠v.k:=fun e=>by
    have k1:=k1
    unfold aL at l1 k1
    rw [e,k1,hw] at l1
    injection l1 with l1;injection l1 with _ l1;exact absurd l1 (by decide)
   refine ⟨⟨(r7 v.n e1).trans n1,n2⟩,⟨(r7 v.l e2).trans l1,l2⟩,⟨?_,k2⟩,hkA.setMap hp u,hsA.setMap hp u,huA.setMap hp u⟩
   rw [← hc]
   exact k1.set_ i u
  | 1=>exact trivial
  | 2=>exact fun h3=>by omega
  | 3=>exact fun h3=>by omega
  |4=>
   exact fun _=>h4 _ _ r7 (fun b hb=>by
    unfold aP.own vE
    by_cases e:b=g
    ·subst e;exact absurd (hl 4 hb) (by decide)
    ·rw [if_neg e];exact hb) (fun e=>by subst e;exact Fm lab g 4)
  | 5=>exact fun _=>⟨p2,rfl,fun o ho=>h5 _ _ r7 (fun e=>by subst e;exact Fm lab g 5) o ho⟩
  | _+6=>exact trivial
 ·rw [own 1 (by decide),← h1]
  exact h.s1.chg hC (iA (by decide))
end Go.Proofs.YtahdiiaadjdmcaaGreat
