import Derived.Test.YtahdiiaadjdmcaaGreatGbB
namespace Go.Proofs.YtahdiiaadjdmcaaGreat
open Go.RowKit
def qD (S:aY):aY × Int:=match S.old with
 | none=>(S,65)
 | some o=>({S with rows:=o,old:=none},0)
set_option maxRecDepth 100000 in
theorem j_ (w:World) (A:Option Addr) (n c:Nat):Calls Tryz.prog 78 #[.slice A n c] w fun e w'=>e=.returned (.func (.func 91) #[] #[.pointer (some ⟨w.heap.size,0,none⟩)])∧w'=w.alloc (.cells #[.slice A n c] 129):=by
 have za9:∀ (fn:Fn) (first cap:Array Value) (w:World),(Instr.makeFunc fn first cap).run Tryz.prog w=.ok (.func fn first cap) w:=fun _ _ _ _=>rfl
 go_enter Tryz.func78,Tryz.ntmps78
 go_wp2_with fail
 go_ret
 exact ⟨rfl,rfl⟩
set_option maxRecDepth 100000 in
theorem Ux {w:World} (l gs n c:Nat) (A:Option Addr) (vals:List Value) (hn:n=vals.length) (sD:n≤4611686018427387904) (J:Nat→World→Prop)
 (zcj:∀ j w1,J j w1→w1.cell? ⟨gs,0,none⟩=some (.slice A n c)∧∀ (i:Nat) (u:Value),vals[i]?=some u→∃ g,A=some ⟨g,0,none⟩∧w1.cell? ⟨g,i,none⟩=some u) (hJ0:J n w)
 (hY:∀ (j:Nat) (u:Value) (w1:World),vals[j]?=some u→J (j+1) w1→∃ fn tmps assign body,(Instr.yield l #[.int .i64 j,u]).run Tryz.prog w1=.ok (.round l fn tmps assign body) w1∧RoundIn Fence.wide 0 Tryz.prog l fn tmps assign body w1 fun e w'=>e=.returned (.bool true)∧J j w') :
 Calls Tryz.prog 91 #[.func (.yield l) #[] #[],.pointer (some ⟨gs,0,none⟩)] w fun e w'=>e=.returned (.tuple #[])∧J 0 w':=by
 have s0:=(zcj n w hJ0).1
 have HRd:=aA zcj;have za4:=aA hJ0;have HY:=aA hY;have HN:=aA hn
 clear zcj hJ0 hY hn
 go_enter Tryz.func91,Tryz.ntmps91
 go_wp2_with fail
 clear s0
 go_loopw [3] (fun s3 w'=>∃ j:Nat,j≤n∧s3=.int .i64 ((j:Int) - 1)∧Hid (J j w')) (fun s3 _=>(intOf s3+1).toNat)
 case atStart=>exact ⟨n,Nat.le_refl _,rfl,za4⟩
 case round=>
  obtain ⟨j,hj,rfl,hJ⟩:=hrel
  cases j with
  |zero=>
   go_wp2_with fail
   go_end0
   exact ⟨rfl,hJ.out⟩
  |succ j=>
   rw [show ((j+1:Nat):Int) - 1=(j:Int) by omega]
   have zil:j<vals.length:=by have:=HN.out;omega
   obtain ⟨u,hu⟩ : ∃ u,vals[j]?=some u:=⟨_,List.getElem?_eq_getElem zil⟩
   obtain ⟨s0,hs⟩:=HRd.out _ _ hJ.out
   obtain ⟨g,rfl,u0⟩:=hs j u hu
   obtain ⟨fn,tmps,assign,body,hy,hR⟩:=HY.out j u wr hu hJ.out
   have HR:=aA hR
   have Zq:(0:Int)≤(j:Int):=by omega
   have zcC:(j:Int)<(n:Int):=by omega
   clear hs hu hR zil
   go_upto_region 3 with fail
   refine (wpIn_wide (n:=1)).1 ?_
   gi_wp2_with fail
   refine HR.out.mono ?_
   rintro e w5 ⟨rfl,hJ5⟩
   have zg1:=aA hJ5
   clear hJ5
   gi_wp2_with fail
   go_wp2_with fail
   go_roundw
   case rel=>exact ⟨j,by omega,rfl,zg1⟩
   case measure=>simp only [intOf];omega
theorem Hu {F:Fence} {n l:Nat} {P:Program} {r:Loop} {W:World} {x y:Value} {R:Ending→World→Prop} (hl:W.heap[l]?=some (.loop r)) (hr:r.state=.ready) (hp:r.pending=none) (yj:r.params.size=2) (hF:F.fn r.fn)
 (h:r.assign.wpIn (F.inRound l) n P (Exit.then (fun a₁ w₁=>w₁.heap[l]?=some (.loop r)∧r.body.wpIn (F.inRound l) n P (Xk l r R) a₁ (w₁.putObj l (.loop {r with state:=.busy}))) (fun _ _ _=>False))
  {tmps:=(r.params.zip #[x,y]).foldl (fun tmps (t,a)=>tmps.setIfInBounds t a) r.tmps,defers:=[]} W) :
 ∃ fn tmps assign body,(Instr.yield l #[x,y]).run P W=.ok (.round l fn tmps assign body) W∧RoundIn F n P l fn tmps assign body W R:=by
 have zgR:({r with state:=.ready,pending:=none}:Loop)=r:=by
  obtain ⟨a,b⟩:=r
  simp only at hr hp
  subst hr hp
  rfl
 refine ⟨r.fn,_,r.assign,r.body,run_yield hl (by simp [yj]),roundIn_of_wpIn hF (wpIn_mono h ?_)⟩
 intro e a₁ w₁ hq
 cases e with
 |normal=>
  obtain ⟨pZ,hb⟩:=hq
  refine ⟨_,run_beginRound pZ hr,wpIn_mono hb ?_⟩
  intro e a₂ w₂ hq
  cases e with
  | normal=>exact ⟨_,_,run_endRound none hq.1,by simpa [zgR] using hq.2⟩
  | ret=>exact ⟨_,_,run_endRound (some .ret) hq.1,hq.2⟩
  | exit id=>exact ⟨_,_,run_endRound (some (.exit id)) hq.1,hq.2⟩
  | goto t=>exact hq.elim
  | panic c=>exact hq.elim
  | outgrown=>exact hq.elim
 | ret=>exact hq.elim
 | exit id=>exact hq.elim
 | goto t=>exact hq.elim
 | panic c=>exact hq.elim
 | outgrown=>exact hq.elim
theorem El {U:List mY} {j:Nat} {z:mY} (h:U[j]?=some z):U.take (j+1)=U.take j ++ [z]:=by rw [List.take_add_one,h];rfl
def Qk (W0:World) (lab:aP) (W w':World):Prop:=∀ g,g<W0.heap.size→¬ lab.dom g→w'.heap[g]?=W.heap[g]?
theorem Tv (U:List mY):∀ j,eH (U.take j)≤eH (U.take (j+1))
 |j=>by
  rw [List.take_add_one]
  cases h:U[j]? with
  | none=>simp
  | some z=>exact yd _ _
theorem Hc (U:List mY) (j:Nat):eH (U.take j)≤eH U:=by
 have h:∀ k,eH (U.take j)≤eH (U.take (j+k)):=fun k=>by
  induction k with
  | zero=>exact Nat.le_refl _
  | succ k ih=>exact Nat.le_trans ih (Tv U (j+k))
 rcases Nat.lt_or_ge j U.length with hl | hl
 ·have:=h (U.length - j)
  rw [show j+(U.length - j)=U.length by omega,List.take_length] at this
  exact this
 ·rw [List.take_of_length_le hl];exact Nat.le_refl _
def zeJ (U:List mY) (g j:Nat) (v':bI):Prop:=
 (∀ i,aX v'.sl i+(if lM (U.take j) then 0 else if (oV v'.sl i).isSome then 0 else 1)≤g - eH (U.take j))∧
 (∀ i,aX v'.sL i+(if lM (U.take j) then 0 else if (oV v'.sL i).isSome then 0 else 1)≤g - eH (U.take j))
structure zeO (W0:World) (lab:aP) (v:bI) (N:Nat) (P0:List aS) (F0:List Nat) (l:Nat) (j:Nat) (w':World) (lab':aP) (v':bI) (D':Nat→List (List V × Nat)):Prop where
 m:cW w' lab' v'
 dm:∀ b,lab'.dom b→lab.dom b∨W0.heap.size≤b
 ch:aF (fun g=>lab.dom g∨g=l) W0 w'
 kept:oQ v v'
 row:dB v'
 lan:eF v'.L v'.gs v'.G v'.cont v'.sL v'.lL v'.lrefs D' (fun _=>v'.P)
 gen:zeJ v.U (gN N) j v'
 K:v'.K+64*j≤kF N
 hist:qE (nU v.width v.most) v.gs P0 F0 (v.U.take j) v'.P (fJ v'.most v'.sl v'.fr)
def Rb (W0:World) (lab:aP) (v:bI) (N:Nat) (P0:List aS) (F0:List Nat) (l:Nat) (j:Nat) (w':World):Prop:=∃ lab' v' D',zeO W0 lab v N P0 F0 l j w' lab' v' D'
theorem zeO.on {W0:World} {lab:aP} {v:bI} {N j l:Nat} {P0:List aS} {F0:List Nat} {W w':World} {lab' lab2:aP} {v':bI} {D':Nat→List (List V × Nat)} (h:zeO W0 lab v N P0 F0 l j W lab' v' D') (d2:∀ b,lab2.dom b→lab'.dom b∨W.heap.size≤b) (c2:aF lab'.dom W w'):(∀ b,lab2.dom b→lab.dom b∨W0.heap.size≤b)∧aF (fun g=>lab.dom g∨g=l) W0 w':=
 ⟨fun b hb=>(d2 b hb).elim (h.dm b) fun h9=>.inr (Nat.le_trans h.ch.size h9),h.ch.trans c2 fun g hg hl=>.inl ((h.dm g hg).resolve_right (by omega))⟩
theorem Rb.same {W0:World} {lab:aP} {v:bI} {N j l:Nat} {P0:List aS} {F0:List Nat} {W w':World} {lab':aP} {v' v'':bI} {D':Nat→List (List V × Nat)} (h:zeO W0 lab v N P0 F0 l j W lab' v' D') (hs:fK W lab' w' v''):Qk W0 lab W w':=fun g h1 h2=>by
 obtain ⟨lab2,-,-,hc⟩:=hs
 exact hc.block g (Nat.lt_of_lt_of_le h1 h.ch.size) fun hd=>(h.dm g hd).elim h2 fun h3=>by omega
theorem zag {W0:World} {lab:aP} {v:bI} {N j l:Nat} {P0:List aS} {F0:List Nat} {W:World} (h:Rb W0 lab v N P0 F0 l (j+1) W) (hN:N≤8796093022208) (zcH:eH v.U≤gN N) {u:Value} {r:List V} {A:Option Addr} {n c:Nat} (hu:v.un[j]?=some u) (hz:v.U[j]?=some (.put r A n c)) :
 ∃ sb kb,u=.func (.func 140) #[] #[.pointer (some ⟨sb,0,none⟩),.pointer (some ⟨kb,0,none⟩)]∧
  Calls Tryz.prog 140 #[.pointer (some ⟨sb,0,none⟩),.pointer (some ⟨kb,0,none⟩)] W fun e w'=>e=.returned (.tuple #[])∧Rb W0 lab v N P0 F0 l j w'∧Qk W0 lab W w':=by
 obtain ⟨lab',v',D',hi⟩:=h
 have hu':v'.un[j]?=some u:=by rw [hi.kept.un];exact hu
 have hz':v'.U[j]?=some (.put r A n c):=by rw [hi.kept.U];exact hz
 obtain ⟨sb,kb,rfl,-⟩:=hi.m.und hu' hz'
 have sB:=El hz
 have iD:eH (v.U.take (j+1))=Ey (v.U.take j):=by rw [sB,Jb _ rfl]
 have pZ:lM (v.U.take (j+1))=true:=by rw [sB,tW];rfl
 have oK:=Hc v.U (j+1)
 have zfu:=zH (v.U.take j)
 obtain ⟨P',s,hP,hh⟩:=hi.hist.put_inv sB
 have hK:=hi.K
 have hk:=mD hN
 have nD:=Ra hN
 have kX:=hi.gen
 unfold zeJ at kX
 rw [pZ,iD] at kX
 simp only [if_true,Nat.add_zero] at kX
 refine ⟨sb,kb,rfl,(Yn hi.m (N:=gN N+1) (M:=gN N - Ey (v.U.take j)+1) ⟨hi.row,hi.lan,⟨fun i=>by have h9:=kX.1 i;split <;> omega,fun i=>by have h9:=kX.2 i;split <;> omega⟩⟩ (fun i=>by have h9:=kX.1 i;omega) (fun i=>by have h9:=kX.2 i;omega) (by omega) (by omega) hu' hz' hP).mono ?_⟩
 rintro e w' ⟨rfl,v'',D'',hU,hR,hA⟩
 refine ⟨rfl,?_,Rb.same hi hR⟩
 obtain ⟨lab2,m2,d2,c2⟩:=hR
 have zi1:=hU.K
 rw [show (v'.tick 1).K=v'.K+1 from rfl] at zi1
 refine ⟨lab2,v'',D'',m2,(hi.on d2 c2).1,(hi.on d2 c2).2,hi.kept.trans (oQ.trans (show oQ v' (v'.tick 1) from ⟨rfl,rfl,rfl,rfl,rfl,rfl,rfl,rfl,rfl⟩) hU.kept),hA.row,hA.lan,?_,by omega,?_⟩
 ·have zai:∀ i,aX v''.sl i≤gN N - Ey (v.U.take j):=fun i=>by rw [hU.gs i];exact kX.1 i
  have zha:∀ i,aX v''.sL i≤gN N - Ey (v.U.take j):=fun i=>by rw [hU.gL i];exact kX.2 i
  have wm:Ey (v.U.take j)=eH (v.U.take j)+if lM (v.U.take j) then 0 else 1:=rfl
  cases hl:lM (v.U.take j) with
  |true=>
   rw [hl] at wm
   simp only [if_true,Nat.add_zero] at wm
   rw [wm] at zai zha
   exact ⟨fun i=>by rw [hl];exact zai i,fun i=>by rw [hl];exact zha i⟩
  |false=>
   rw [hl] at wm
   simp only [Bool.false_eq_true,if_false] at wm
   exact ⟨fun i=>by rw [hl];have h9:=zai i;simp only [Bool.false_eq_true,if_false];split <;> omega,fun i=>by rw [hl];have h9:=zha i;simp only [Bool.false_eq_true,if_false];split <;> omega⟩
 rw [hU.P,hU.fs]
 exact hh
theorem kh {W0:World} {lab:aP} {v:bI} {N j l:Nat} {P0:List aS} {F0:List Nat} {W:World} (h:Rb W0 lab v N P0 F0 l (j+1) W) (hN:N≤8796093022208) {u:Value} {r:List V} {A H:Option Addr} {n c m d:Nat} {ah:List Int} (hu:v.un[j]?=some u) (hz:v.U[j]?=some (.drop r A n c ah H m d)) :
 ∃ sb kb hb,u=.func (.func 138) #[] #[.pointer (some ⟨sb,0,none⟩),.pointer (some ⟨kb,0,none⟩),.pointer (some ⟨hb,0,none⟩)]∧
  Calls Tryz.prog 138 #[.pointer (some ⟨sb,0,none⟩),.pointer (some ⟨kb,0,none⟩),.pointer (some ⟨hb,0,none⟩)] W fun e w'=>e=.returned (.tuple #[])∧Rb W0 lab v N P0 F0 l j w'∧Qk W0 lab W w':=by
 obtain ⟨lab',v',D',hi⟩:=h
 have hu':v'.un[j]?=some u:=by rw [hi.kept.un];exact hu
 have hz':v'.U[j]?=some (.drop r A n c ah H m d):=by rw [hi.kept.U];exact hz
 obtain ⟨sb,kb,hb,rfl,-⟩:=hi.m.und hu' hz'
 have sB:=El hz
 have iD:eH (v.U.take (j+1))=eH (v.U.take j):=by rw [sB,wJ _ rfl]
 have pZ:lM (v.U.take (j+1))=false:=by rw [sB,tW];rfl
 obtain ⟨P1,P2,s,F',hP,hF,hah,hg,hh⟩:=hi.hist.drop_inv sB
 have hK:=hi.K
 have hk:=mD hN
 have nD:=Ra hN
 have kX:=hi.gen
 unfold zeJ at kX
 rw [pZ,iD] at kX
 simp only [Bool.false_eq_true,if_false] at kX
 have gI:oD v' D' (gN N - eH (v.U.take j)):=⟨hi.row,hi.lan,kX.1,kX.2⟩
 refine ⟨sb,kb,hb,rfl,(Tq hi.m gI (by omega) (by omega) hu' (P1:=P1) (P2:=P2) (s:=s) (F:=F') (by rw [hz',hah,hi.kept.gs]) hP (by rw [hi.kept.width,hi.kept.most];exact hg) hF).mono ?_⟩
 rintro e w' ⟨rfl,v'',D'',hU,hR,hA⟩
 refine ⟨rfl,?_,Rb.same hi hR⟩
 obtain ⟨lab2,m2,d2,c2⟩:=hR
 have zi1:=hU.K
 have zaJ:=hU.fs
 rw [hF] at zaJ
 injection zaJ with _ zaJ
 refine ⟨lab2,v'',D'',m2,(hi.on d2 c2).1,(hi.on d2 c2).2,hi.kept.trans hU.kept,hA.row,hA.lan,⟨fun i=>?_,fun i=>?_⟩,by omega,?_⟩
 ·have h9:=hA.gen.s i
  revert h9
  cases lM (v.U.take j) <;> simp <;> split <;> omega
 ·have h9:=hA.gen.L i
  revert h9
  cases lM (v.U.take j) <;> simp <;> split <;> omega
 rw [hU.P,← zaJ]
 exact hh
structure zbC (W0:World) (lab:aP) (v:bI) (N:Nat) (P0:List aS) (F0:List Nat) (l D0 gb:Nat) (rec:Loop) (j:Nat) (W:World):Prop where
 lp:W.heap[l]?=some (.loop rec)
 mark:W.heap[D0]?=some (.deferred (some []))
 box:aL W gb 129 #[.slice v.uA v.un.length v.uC]
 rb:Rb W0 lab v N P0 F0 l j W
theorem zbC.read {W0:World} {lab:aP} {v:bI} {N:Nat} {P0:List aS} {F0:List Nat} {l D0 gb:Nat} {rec:Loop} {j:Nat} {W:World} (h:zbC W0 lab v N P0 F0 l D0 gb rec j W):W.cell? ⟨gb,0,none⟩=some (.slice v.uA v.un.length v.uC)∧∀ (i:Nat) (u:Value),v.un[i]?=some u→∃ g,v.uA=some ⟨g,0,none⟩∧W.cell? ⟨g,i,none⟩=some u:=by
 refine ⟨h.box.cell 0,fun i u hu=>?_⟩
 obtain ⟨lab',v',D',hi⟩:=h.rb
 have h1:=(hi.m.part 0).2.2.2
 rw [hi.kept.un,hi.kept.uA,hi.kept.uC] at h1
 have hl:=(List.getElem?_eq_some_iff.1 hu).1
 obtain ⟨g,e,-,-,hc,-⟩:=h1.at_ (by omega)
 exact ⟨g,e,hc i u hu⟩
theorem Rb.put {W0:World} {lab:aP} {v:bI} {N j l:Nat} {P0:List aS} {F0:List Nat} {W:World} (h:Rb W0 lab v N P0 F0 l j W) {o:Obj} (hl:l<W0.heap.size) (hd:¬ lab.dom l):Rb W0 lab v N P0 F0 l j (W.putObj l o):=by
 obtain ⟨lab',v',D',hi⟩:=h
 have hc:aF (fun g=>g=l) W (W.putObj l o):=⟨rfl,rfl,rfl,by simp,fun k h1 h2=>World.putObj_heap_other fun e=>h2 e⟩
 have hn:∀ g,lab'.dom g→¬ g=l:=fun g hg e=>by
  subst e
  exact (hi.dm g hg).elim hd fun h=>by omega
 exact ⟨lab',v',D',hi.m.chg hc hn,hi.dm,hi.ch.trans hc fun g hg _=>.inr hg,hi.kept,hi.row,hi.lan,hi.gen,hi.K,hi.hist⟩
attribute [local go_sem] Oper.semAt_some
set_option maxRecDepth 100000 in
theorem Xe {n:Nat} {w:World} {lab:aP} {v:bI} (h:cW w lab v) (hm:v.marked=true) :
 CallsDIn Fence.wide n Tryz.prog 77 #[.pointer (some ⟨v.x,0,none⟩)] .returning w fun e u w'=>u=.returning∧(e=.returned (.int .i64 0)∧fK w lab w' {v with marked:=false,uA:=none,uC:=0,un:=[],U:=[]}):=by
 have a11:w.cell? ⟨v.x,11,none⟩=some (.bool v.marked):=h.str.cell 11
 have f11:w.frozen? ⟨v.x,11,none⟩=false:=h.str.frozen 11
 rw [hm] at a11
 have b12:=(h.str.set_ 11 (.bool false))
 have a12:(w.setCell ⟨v.x,11,none⟩ (.bool false)).cell? ⟨v.x,12,none⟩=some (.slice v.uA v.un.length v.uC):=b12.cell 12
 have f12:(w.setCell ⟨v.x,11,none⟩ (.bool false)).frozen? ⟨v.x,12,none⟩=false:=b12.frozen 12
 have HS:=aA h.unmark
 clear h hm b12
 refine callsDIn_of_wp Tryz.func77 rfl trivial ?_
 simp only [Tryz.ntmps77,List.size_toArray,List.length_cons,List.length_nil,Nat.reduceAdd,Nat.reduceSub,Array.replicate_succ,Array.replicate_zero,List.push_toArray,List.append_toArray,List.nil_append,List.cons_append]
 refine wpIn_wide.2 ?_
 go_wp2_with fail
 go_ret
 exact ⟨rfl,HS.out⟩
theorem Df (w:World) (x:Nat):(invoke (.fn (.func 77) #[]) #[.pointer (some ⟨x,0,none⟩)]).run Tryz.prog w=.ok (.enter 77 #[.pointer (some ⟨x,0,none⟩)]) w:=by
 have e2:=(enters_of Tryz.func77 (by kernel_rfl) rfl:Enters Tryz.prog 77) #[.pointer (some ⟨x,0,none⟩)] w
 simp [invoke,go_sem,e2]
set_option maxRecDepth 100000 in
theorem Up {w:World} {B:Nat→Prop} {x:Nat} {S:aY} {N:Nat} (h:kK w B x S N) (ho:S.old=none) :
 Calls Tryz.prog 54 #[.pointer (some ⟨x,0,none⟩)] w fun e w'=>e=.returned (.int .i64 65)∧w'=w:=by
 obtain ⟨lab,v,D,P0,F0,h1,h2,h3,h4⟩:=h
 have a11:w.cell? ⟨x,11,none⟩=some (.bool false):=by
  have:=h3.mark
  rw [ho] at this
  rw [← h3.x]
  have h5:=h1.str.cell 11
  rw [show v.cells[11]?=some (.bool v.marked) from rfl,this] at h5
  exact h5
 clear h1 h2 h3 h4 ho
 refine (callsIn_wide (n:=4)).1 ?_
 refine callsIn_of_wp_marks Tryz.func54 rfl trivial ?_ rfl
 refine wpIn_wide.2 ?_
 simp only [Tryz.ntmps54,List.size_toArray,List.length_cons,List.length_nil,Nat.reduceAdd,Nat.reduceSub,Array.replicate_succ,Array.replicate_zero,List.push_toArray,List.append_toArray,List.nil_append,List.cons_append]
 go_wp2_with fail
 exact ⟨.int .i64 65,by simp [results,Tryz.results54,go_sem],rfl,rfl⟩
set_option maxRecDepth 100000 in
set_option maxHeartbeats 2000000 in
theorem Ty {w:World} {B:Nat→Prop} {x:Nat} {S:aY} {N:Nat} (h:kK w B x S N) (hN:N≤8796093022208) {o:List (List V)} (ho:S.old=some o) :
 Calls Tryz.prog 54 #[.pointer (some ⟨x,0,none⟩)] w fun e w'=>e=.returned (.int .i64 0)∧pA w B x {S with rows:=o,old:=none} (N+1) w':=by
 obtain ⟨lab,v,D,P0,F0,h1,h2,h3,h4⟩:=h
 have hm:v.marked=true:=by rw [h3.mark,ho];rfl
 have a11:w.cell? ⟨x,11,none⟩=some (.bool true):=by
  rw [← h3.x]
  have h5:=h1.str.cell 11
  rw [show v.cells[11]?=some (.bool v.marked) from rfl,hm] at h5
  exact h5
 have a12:w.cell? ⟨x,12,none⟩=some (.slice v.uA v.un.length v.uC):=by rw [← h3.x];exact h1.str.cell 12
 have ziI:v.U.length=v.un.length:=(h1.part 8).2.1
 have HBk:=aA (fun wx=>j_ wx v.uA v.un.length v.uC)
 have H1:=aA h1;have H2:=aA h2;have H3:=aA h3;have H4:=aA h4;have zgl:=aA hm;have k_:=aA ziI;have HO:=aA ho
 clear h1 h2 h3 h4 hm ziI ho
 refine (callsIn_wide (n:=4)).1 ?_
 refine callsIn_of_wp_marks Tryz.func54 rfl trivial ?_ rfl
 refine wpIn_wide.2 ?_
 simp only [Tryz.ntmps54,List.size_toArray,List.length_cons,List.length_nil,Nat.reduceAdd,Nat.reduceSub,Array.replicate_succ,Array.replicate_zero,List.push_toArray,List.append_toArray,List.nil_append,List.cons_append]
 go_wp2_with ((with_reducible refine (HBk.out _).mono ?_);rintro e w5 ⟨rfl,hw5⟩;have zhK:=aA hw5;clear hw5)
 have gb5:=aA (show aL w5 w.heap.size 129 #[.slice v.uA v.un.length v.uC] from by rw [zhK.out];exact aL.new _ _ _)
 have X5:=aA (show aD w w5 from by rw [zhK.out];exact aD.alloc _ _)
 refine (wpIn_wide (n:=4)).1 ?_
 refine Bc (gf:=91) (lb:=#[.pointer (some ⟨w.heap.size,0,none⟩)]) rfl (enters_of Tryz.func91 (by kernel_rfl) rfl) ?_
 intro fn
 generalize hrec:sO fn _ _ _ _ w5.heap.size=rec
 have mZ:=aA hrec;clear hrec
 obtain ⟨r1,r2,r3,r4⟩:=Ch w5 rec
 generalize (w5.alloc (.deferred (some []))).alloc (.loop rec)=W0 at *
 have HX:=aA (X5.out.trans r3)
 have Pf:=aA (show ∀ b,lab.dom b→b<w.heap.size from fun b ⟨i,hi⟩=>H1.out.lt b i hi)
 have Oa:=aA (show w.heap.size<w5.heap.size∧w5.heap.size+2=W0.heap.size from ⟨gb5.out.lt,r4.symm⟩)
 obtain ⟨l,hl⟩ : ∃ l,w5.heap.size+1=l:=⟨_,rfl⟩
 obtain ⟨D0,zdu⟩ : ∃ D0,w5.heap.size=D0:=⟨_,rfl⟩
 obtain ⟨gb,hgb⟩ : ∃ gb,w.heap.size=gb:=⟨_,rfl⟩
 have HL:=aA (show gb<D0∧l=D0+1∧l<W0.heap.size∧W0.heap.size=D0+2∧w.heap.size=gb from by have:=Oa.out;omega)
 rw [hl] at r1 ⊢
 rw [zdu] at r2
 have gb5:=aA ((gb5.out.ext r3))
 rw [hgb] at gb5 ⊢
 have gU:Rb W0 lab v N P0 F0 l v.un.length W0:=by
  have gI:=H4.out
  refine ⟨lab,v,D,H1.out.ext HX.out,fun b hb=>.inl hb,aF.refl _ _,oQ.refl v,gI.row,gI.lan,?_,?_,?_⟩
  ·rw [← k_.out]
   unfold zeJ
   rw [List.take_length]
   exact ⟨fun i=>Nat.le_trans (by cases lM v.U <;> simp) (gI.gen.s i),fun i=>Nat.le_trans (by cases lM v.U <;> simp) (gI.gen.L i)⟩
  ·rw [← k_.out];exact gI.K
  ·rw [← k_.out,List.take_length];exact gI.hist
 have za4:=aA (show zbC W0 lab v N P0 F0 l D0 gb rec v.un.length W0 from ⟨r1,r2,gb5.out,gU⟩)
 have jP:¬ lab.dom l∧¬ lab.dom D0∧¬ lab.dom gb:=⟨fun h=>by have:=Pf.out _ h;have:=HL.out;omega,fun h=>by have:=Pf.out _ h;have:=HL.out;omega,fun h=>by have:=Pf.out _ h;have:=HL.out;omega⟩
 have zbi:=aA jP
 have zkc:=aA zdu
 clear r1 r2 r3 r4 hl zdu hgb gU jP gb5 a11 a12
 have hY:∀ (j:Nat) (u:Value) (w1:World),v.un[j]?=some u→zbC W0 lab v N P0 F0 l D0 gb rec (j+1) w1→∃ fn tmps assign body,(Instr.yield l #[.int .i64 j,u]).run Tryz.prog w1=.ok (.round l fn tmps assign body) w1∧RoundIn Fence.wide 0 Tryz.prog l fn tmps assign body w1 fun e w'=>e=.returned (.bool true)∧zbC W0 lab v N P0 F0 l D0 gb rec j w':=by
  intro j u wy hu hj
  refine Hu hj.lp ?_ ?_ ?_ trivial ?_
  ·rw [← mZ.out];rfl
  ·rw [← mZ.out];rfl
  ·rw [← mZ.out];rfl
  ·have HJ:=aA hj;have HU:=aA hu
   clear hj hu
   have hA:=congrArg Loop.assign mZ.out
   have hB:=congrArg Loop.body mZ.out
   have hT:=congrArg Loop.tmps mZ.out
   have hP:=congrArg Loop.params mZ.out
   dsimp only [sO] at hA hB hT hP
   generalize hbz:({rec with state:=.busy}:Loop)=bz
   rw [← hA,← hB,← hT,← hP]
   have zfC:=aA hbz
   clear hA hB hT hP hbz
   have zhJ:j<v.U.length:=by have h1:=(List.getElem?_eq_some_iff.1 HU.out).1;have:=k_.out;omega
   obtain ⟨z,hz⟩ : ∃ z,v.U[j]?=some z:=⟨_,List.getElem?_eq_getElem zhJ⟩
   have nB:=HL.out
   have zbb:=nB.2.2.1
   have zew:=HJ.out.rb.put (o:=.loop bz) zbb zbi.out.1
   have zdi:=aA (fun (W:World) (h1:Rb W0 lab v N P0 F0 l j W) (h2:Qk W0 lab (wy.putObj l (.loop bz)) W)=>show W.heap[l]?=some (.loop {rec with state:=.busy})∧(Ending.returned (.bool true)=Ending.returned (.bool true)∧zbC W0 lab v N P0 F0 l D0 gb rec j (W.putObj l (.loop rec))) from by
    have bC:=(Array.getElem?_eq_some_iff.1 HJ.out.lp).1
    have pZ:W.heap[l]?=some (.loop bz):=(h2 l zbb zbi.out.1).trans (World.putObj_heap_same bC)
    have zbq:=(Array.getElem?_eq_some_iff.1 pZ).1
    have m7:D0≠l:=by omega
    have sD:gb≠l:=by omega
    have nM:W.heap[D0]?=some (.deferred (some [])):=(h2 D0 (by omega) zbi.out.2.1).trans ((World.putObj_heap_other m7).trans HJ.out.mark)
    have oY:aL W gb 129 #[.slice v.uA v.un.length v.uC]:=(h2 gb (by omega) zbi.out.2.2).trans ((World.putObj_heap_other sD).trans HJ.out.box)
    exact ⟨by rw [zfC.out];exact pZ,rfl,World.putObj_heap_same zbq,(World.putObj_heap_other m7).trans nM,oY.putObj sD,h1.put zbb zbi.out.1⟩)
   have zdT:=aA zew
   clear nB zew zbb zhJ
   cases z with
   |put r A n c=>
    obtain ⟨sb,kb,rfl,gW⟩:=zag zdT.out hN H4.out.pu HU.out hz
    have HC:=aA gW
    clear gW hz
    gi_wp2_with fail
    refine ⟨HJ.out.lp,?_⟩
    gi_wp2_with (refine ⟨trivial,rfl,?_⟩;refine CallsIn.mono (CallsIn.inRound _ (callsIn_wide.2 HC.out)) ?_;rintro e w9 ⟨rfl,g1,g2⟩;have G:=aA (zdi.out w9 g1 g2);clear g1 g2)
    exact ⟨G.out.1,rfl,G.out.2.2⟩
   |drop r A n c ah H m d=>
    obtain ⟨sb,kb,hb,rfl,gW⟩:=kh zdT.out hN HU.out hz
    have HC:=aA gW
    clear gW hz
    gi_wp2_with fail
    refine ⟨HJ.out.lp,?_⟩
    gi_wp2_with (refine ⟨trivial,rfl,?_⟩;refine CallsIn.mono (CallsIn.inRound _ (callsIn_wide.2 HC.out)) ?_;rintro e w9 ⟨rfl,g1,g2⟩;have G:=aA (zdi.out w9 g1 g2);clear g1 g2)
    exact ⟨G.out.1,rfl,G.out.2.2⟩
 have HY:=aA hY;clear hY
 have zeH:=H4.out.ul
 have gH:=Ux l gb v.un.length v.uC v.uA v.un rfl (by have:=k_.out;omega) (fun j W=>zbC W0 lab v N P0 F0 l D0 gb rec j W) (fun j w1 h=>h.read) za4.out HY.out
 refine callsIn_wide.2 (gH.mono ?_)
 clear gH zeH
 rintro e W2 ⟨rfl,hj⟩
 have zaz:=aA hj
 clear hj
 have Ex:rec.pending=none:=by rw [← mZ.out];rfl
 have En:rec.state≠.busy:=by rw [← mZ.out];simp [sO]
 refine rK zaz.out.lp En ?_
 generalize ({rec with state:=.exhausted}:Loop)=ex
 rw [Ex]
 simp only [Exit.inBlock,Exit.then]
 have nB:=HL.out
 have Xv:=aA (show (W2.putObj l (.loop ex)).heap[D0]?=some (.deferred (some [])) from (World.putObj_heap_other (by omega)).trans zaz.out.mark)
 have dH:=aA (zaz.out.rb.put (o:=.loop ex) nB.2.2.1 zbi.out.1)
 clear Ex En nB
 generalize W2.putObj l (.loop ex)=W3 at *
 go_wp2_with fail
 obtain ⟨lab',v',D',hi⟩:=dH.out
 have nB:=HL.out
 have hc:aF (fun g=>g=D0) W3 (W3.putObj D0 (.deferred none)):=⟨rfl,rfl,rfl,by simp,fun k h1 h2=>World.putObj_heap_other fun e=>h2 e⟩
 have hn:∀ g,lab'.dom g→¬ g=D0:=fun g hg e=>by
  subst e
  exact (hi.dm g hg).elim zbi.out.2.1 fun h=>by omega
 have M4:=hi.m.chg hc hn
 have hx:v'.x=x:=hi.kept.x.trans H3.out.x
 have zhY:=Xe (n:=3) M4 (hi.kept.marked.trans zgl.out)
 rw [hx] at zhY
 rw [zkc.out]
 refine ⟨by simp,.inl ⟨D0,_,rfl,run_takeDeferred Xv.out,by simp,.inr ⟨fun h=>absurd h (by simp [Fence.wide]),.func 77,#[],77,_,rfl,Df _ x,fun _ _=>trivial,zhY.mono ?_⟩⟩⟩
 rintro e u' w' ⟨rfl,rfl,lab2,m2,d2,c2⟩
 have rA:pA w B x {S with rows:=o,old:=none} (N+1) w':=by
  obtain ⟨hP,hF⟩:=hi.hist.nil_inv (by simp)
  have zeM:aF lab.dom w (W3.putObj D0 (.deferred none)):=(((aF.of HX.out (B:=lab.dom)).trans hi.ch fun g hg hl=>by
   rcases hg with h | h
   ·exact h
   ·omega).trans hc fun g hg hl=>by omega)
  have fI:eU w lab w' lab2:=⟨fun b hb=>(d2 b hb).elim (fun h=>(hi.dm b h).imp id fun h=>by have:=HX.out.size;omega) fun h=>.inr (Nat.le_trans zeM.size h),zeM.trans c2 fun g hg hl=>(hi.dm g hg).resolve_right (by have:=HX.out.size;omega)⟩
  have kX:=hi.gen
  have hg:=kJ (Nat.le_add_right N 1)
  have hK:=hi.K
  have hk:=j3 N (Nat.le_refl 1)
  refine pA.of H2.out (v':={v' with x:=x,marked:=false,uA:=none,uC:=0,un:=[],U:=[]}) (P0:=v'.P) (F0:=fJ v'.most v'.sl v'.fr) ⟨lab2,m2,fI.1,fI.2⟩ ⟨rfl,H3.out.width.trans hi.kept.width.symm,H3.out.most.trans hi.kept.most.symm,H3.out.gs.trans hi.kept.gs.symm,?_,rfl,fun o ho=>by cases ho⟩
   ⟨dB.with_ hi.row rfl rfl rfl rfl rfl rfl rfl rfl rfl,hi.lan,⟨fun i=>Nat.le_trans (kX.1 i) ?_,fun i=>Nat.le_trans (kX.2 i) ?_⟩,Nat.zero_le _,?_,Nat.zero_le _,.nil,fun _=>⟨rfl,rfl,rfl,rfl⟩⟩
  ·show o=v'.P.map (·.2)
   rw [hP]
   exact H3.out.old o HO.out
  ·show gN N - 0≤gN (N+1) - 0
   omega
  ·show gN N - 0≤gN (N+1) - 0
   omega
  ·show v'.K+64*0≤kF (N+1)
   omega
 exact ⟨.int .i64 0,by simp [results,Tryz.results54,go_sem],rfl,rA⟩
theorem Ka {w:World} {B:Nat→Prop} {x:Nat} {S:aY} {N:Nat} (h:kK w B x S N) (hN:N≤8796093022208) :
 Calls Tryz.prog 54 #[.pointer (some ⟨x,0,none⟩)] w fun e w'=>e=.returned (.int .i64 (qD S).2)∧pA w B x (qD S).1 (N+1) w':=by
 unfold qD
 cases ho:S.old with
 |none=>
  refine (Up h ho).mono ?_
  rintro e w' ⟨rfl,rfl⟩
  obtain ⟨lab,v,D,P0,F0,h1,h2,h3,h4⟩:=h
  exact ⟨rfl,pA.of h2 (fK.refl' (h1.tick 0)) (h3.tick 0) (h4.tick 0 1 (by omega) (Nat.le_refl _))⟩
 | some o=>exact Ty h hN ho
end Go.Proofs.YtahdiiaadjdmcaaGreat
