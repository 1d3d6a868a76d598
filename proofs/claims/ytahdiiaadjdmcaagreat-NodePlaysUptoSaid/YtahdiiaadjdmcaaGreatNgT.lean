import Derived.Test.YtahdiiaadjdmcaaGreatNgQ
import Derived.Test.YtahdiiaadjdmcaaGreatNgS
namespace Go.Proofs.YtahdiiaadjdmcaaGreat
open Go.RowKit
def uY (w0:World) (n d:Nat) (K:NK) (N:Nat) (e:Ending) (w':World):Prop:=e=.returned (.bool true)∧∃ l a N' P,N'≤N+2097152∧PD w0 n l d K a N' P w'
theorem PD.moved {w0 w w2:World} {n l d:Nat} {K:NK} {a:aR} {N:Nat} {P:Nat→Prop} (hn:NP w0 w n l K a N P) (hd:oT w2 P d K a) (hc:aF (fun b=>b=d) w w2) (hP:P d) (lQ:∀ b,P b→w0.heap.size≤b):PD w0 n l d K a N (And' P w.heap.size w2.heap.size) w2:=
 have h1:=hn.chgP hc (fun b hb=>hb ▸ hP) (fun b hb=>hb ▸ lQ d hP)
 ⟨h1,hd.keep (aF.refl _ _) (fun _ hb=>.inl hb) h1.lt,fun b hb=>hb.elim (lQ b) fun hb=>by have:=hn.size0;omega⟩
theorem oT.inP {w:World} {P:Nat→Prop} {d:Nat} {K:NK} {a:aR} (h:oT w P d K a):P d:=by
 obtain ⟨U,h⟩:=h
 exact h.base.inP
set_option maxRecDepth 100000 in
set_option maxHeartbeats 8000000 in
theorem Ll {w0 w:World} {n l d:Nat} {K:NK} {a:aR} {N:Nat} {P:Nat→Prop} (h:PD w0 n l d K a N P w) (hN:N+4194304≤8796093022208) {kd:Int} (h1:kd≠1) (h2:kd≠2) (h3:kd≠3) (h4:kd≠4) (h5:kd≠5) (h6:kd≠6) (h7:kd≠7) (fr:Int) {row:List V} {A:Option Addr} {m:Nat} (c:Nat) (hr:bD w0 A m row) :
 Calls Tryz.prog 28 #[.pointer (some ⟨n,0,none⟩),.pointer (some ⟨d,0,none⟩),.agg #[.int .i64 kd,.int .i64 fr,.slice A m c]] w (uY w0 n d K N):=by
 obtain ⟨g,hg⟩ : ∃ g,w.heap.size=g:=⟨_,rfl⟩
 obtain ⟨w1,aT⟩ : ∃ w1,w.alloc (.cells #[.int .i64 kd,.int .i64 fr,.slice A m c] 30)=w1:=⟨_,rfl⟩
 have hb:=aL.new w 30 #[.int .i64 kd,.int .i64 fr,.slice A m c]
 have he:=aD.alloc w (.cells #[.int .i64 kd,.int .i64 fr,.slice A m c] 30)
 rw [aT] at hb he
 rw [hg] at hb
 have iD:=h.ext he
 have b0:w1.cell? ⟨g,0,none⟩=some (.int .i64 kd):=hb.cell 0
 have b1:w1.cell? ⟨g,1,none⟩=some (.int .i64 fr):=hb.cell 1
 have b2:w1.cell? ⟨g,2,none⟩=some (.slice A m c):=hb.cell 2
 have P1:=aA iD;have HB:=aA hb;have HR:=aA hr;have lT:=aA hg;have xx:=aA aT
 have yT:=aA (show And' P w.heap.size w1.heap.size g from .inr ⟨by omega,hb.lt⟩)
 generalize And' P w.heap.size w1.heap.size=P2 at P1 yT
 clear h he iD hr hb
 have e1:(kd == 1)=false:=by simpa using h1
 have e2:(kd == 2)=false:=by simpa using h2
 have e3:(kd == 3)=false:=by simpa using h3
 have e4:(kd == 4)=false:=by simpa using h4
 have e5:(kd == 5)=false:=by simpa using h5
 have e6:(kd == 6)=false:=by simpa using h6
 have e7:(kd == 7)=false:=by simpa using h7
 clear h1 h2 h3 h4 h5 h6 h7
 go_enter Tryz.func28,Tryz.ntmps28
 go_upto_region 1 with fail
 go_wp2_with fail
 go_ret
 exact ⟨rfl,_,_,_,_,by omega,P1.out⟩
set_option maxRecDepth 100000 in
set_option maxHeartbeats 8000000 in
theorem Sq {w0 w:World} {n l d:Nat} {K:NK} {a:aR} {N:Nat} {P:Nat→Prop} (h:PD w0 n l d K a N P w) (hN:N+4194304≤8796093022208) (fr:Int) {row:List V} {A:Option Addr} {m:Nat} (c:Nat) (hr:bD w0 A m row) :
 Calls Tryz.prog 28 #[.pointer (some ⟨n,0,none⟩),.pointer (some ⟨d,0,none⟩),.agg #[.int .i64 3,.int .i64 fr,.slice A m c]] w (uY w0 n d K N):=by
 obtain ⟨g,hg⟩ : ∃ g,w.heap.size=g:=⟨_,rfl⟩
 obtain ⟨w1,aT⟩ : ∃ w1,w.alloc (.cells #[.int .i64 3,.int .i64 fr,.slice A m c] 30)=w1:=⟨_,rfl⟩
 have hb:=aL.new w 30 #[.int .i64 3,.int .i64 fr,.slice A m c]
 have he:=aD.alloc w (.cells #[.int .i64 3,.int .i64 fr,.slice A m c] 30)
 rw [aT] at hb he
 rw [hg] at hb
 have iD:=h.ext he
 have b0:w1.cell? ⟨g,0,none⟩=some (.int .i64 3):=hb.cell 0
 have b1:w1.cell? ⟨g,1,none⟩=some (.int .i64 fr):=hb.cell 1
 have b2:w1.cell? ⟨g,2,none⟩=some (.slice A m c):=hb.cell 2
 have P1:=aA iD;have HB:=aA hb;have HR:=aA hr;have lT:=aA hg;have xx:=aA aT
 have yT:=aA (show And' P w.heap.size w1.heap.size g from .inr ⟨by omega,hb.lt⟩)
 generalize And' P w.heap.size w1.heap.size=P2 at P1 yT
 clear h he iD hr hb
 have lY:=aA (Kn P1.out (by omega) c fun w' hx _=>HR.out.ext hx)
 go_enter Tryz.func28,Tryz.ntmps28
 go_upto_region 1 with fail
 go_wp2_with ((with_reducible refine lY.out.mono ?_);rintro e w2 ⟨rfl,sD,jT⟩;have P3:=aA (P1.out.back sD jT).pd;clear sD jT)
 go_ret
 exact ⟨rfl,_,_,_,_,by omega,P3.out⟩
set_option maxRecDepth 100000 in
set_option maxHeartbeats 8000000 in
theorem Oz {w0 w:World} {n l d:Nat} {K:NK} {a:aR} {N:Nat} {P:Nat→Prop} (h:PD w0 n l d K a N P w) (hN:N+4194304≤8796093022208) (fr:Int) {row:List V} {A:Option Addr} {m:Nat} (c:Nat) (hr:bD w0 A m row) :
 Calls Tryz.prog 28 #[.pointer (some ⟨n,0,none⟩),.pointer (some ⟨d,0,none⟩),.agg #[.int .i64 4,.int .i64 fr,.slice A m c]] w (uY w0 n d K N):=by
 obtain ⟨g,hg⟩ : ∃ g,w.heap.size=g:=⟨_,rfl⟩
 obtain ⟨w1,aT⟩ : ∃ w1,w.alloc (.cells #[.int .i64 4,.int .i64 fr,.slice A m c] 30)=w1:=⟨_,rfl⟩
 have hb:=aL.new w 30 #[.int .i64 4,.int .i64 fr,.slice A m c]
 have he:=aD.alloc w (.cells #[.int .i64 4,.int .i64 fr,.slice A m c] 30)
 rw [aT] at hb he
 rw [hg] at hb
 have iD:=h.ext he
 have b0:w1.cell? ⟨g,0,none⟩=some (.int .i64 4):=hb.cell 0
 have b1:w1.cell? ⟨g,1,none⟩=some (.int .i64 fr):=hb.cell 1
 have b2:w1.cell? ⟨g,2,none⟩=some (.slice A m c):=hb.cell 2
 have P1:=aA iD;have HB:=aA hb;have HR:=aA hr;have lT:=aA hg;have xx:=aA aT
 have yT:=aA (show And' P w.heap.size w1.heap.size g from .inr ⟨by omega,hb.lt⟩)
 generalize And' P w.heap.size w1.heap.size=P2 at P1 yT
 clear h he iD hr hb
 have lY:=aA (J9 P1.out (by omega))
 go_enter Tryz.func28,Tryz.ntmps28
 go_upto_region 1 with fail
 go_wp2_with ((with_reducible refine lY.out.mono ?_);rintro e w2 ⟨rfl,sD,jT⟩;have P3:=aA (P1.out.back sD jT).pd;clear sD jT)
 go_ret
 exact ⟨rfl,_,_,_,_,by omega,P3.out⟩
set_option maxRecDepth 100000 in
set_option maxHeartbeats 8000000 in
theorem Ji {w0 w:World} {n l d:Nat} {K:NK} {a:aR} {N:Nat} {P:Nat→Prop} (h:PD w0 n l d K a N P w) (hN:N+4194304≤8796093022208) (fr:Int) {row:List V} {A:Option Addr} {m:Nat} (c:Nat) (hr:bD w0 A m row) :
 Calls Tryz.prog 28 #[.pointer (some ⟨n,0,none⟩),.pointer (some ⟨d,0,none⟩),.agg #[.int .i64 5,.int .i64 fr,.slice A m c]] w (uY w0 n d K N):=by
 obtain ⟨g,hg⟩ : ∃ g,w.heap.size=g:=⟨_,rfl⟩
 obtain ⟨w1,aT⟩ : ∃ w1,w.alloc (.cells #[.int .i64 5,.int .i64 fr,.slice A m c] 30)=w1:=⟨_,rfl⟩
 have hb:=aL.new w 30 #[.int .i64 5,.int .i64 fr,.slice A m c]
 have he:=aD.alloc w (.cells #[.int .i64 5,.int .i64 fr,.slice A m c] 30)
 rw [aT] at hb he
 rw [hg] at hb
 have iD:=h.ext he
 have b0:w1.cell? ⟨g,0,none⟩=some (.int .i64 5):=hb.cell 0
 have b1:w1.cell? ⟨g,1,none⟩=some (.int .i64 fr):=hb.cell 1
 have b2:w1.cell? ⟨g,2,none⟩=some (.slice A m c):=hb.cell 2
 have P1:=aA iD;have HB:=aA hb;have HR:=aA hr;have lT:=aA hg;have xx:=aA aT
 have yT:=aA (show And' P w.heap.size w1.heap.size g from .inr ⟨by omega,hb.lt⟩)
 generalize And' P w.heap.size w1.heap.size=P2 at P1 yT
 clear h he iD hr hb
 obtain ⟨z,hz⟩ : ∃ z,(j7 a).2=z:=⟨_,rfl⟩
 have gW:=P1.out.np.begin
 rw [hz] at gW
 have oR:=aA gW;have HZ:=aA hz
 clear hz gW
 go_enter Tryz.func28,Tryz.ntmps28
 go_upto_region 1 with fail
 go_wp2_with (first
  | ((with_reducible refine oR.out.mono ?_);rintro e w2 ⟨rfl,l2,sD,jT⟩;have N2:=aA sD;have iJ:=P1.out.doc.keep jT (fun _ hb=>hb) sD.lt;have HI:=aA iJ;obtain ⟨U2,hU2⟩:=iJ;have Wq:=Tr hU2;rw [HZ.out] at Wq;have zd6:=aA Wq;clear sD jT hU2 Wq)
  | ((with_reducible refine zd6.out.mono ?_);rintro e w3 ⟨rfl,hd3,Cq⟩;have P3:=aA (PD.moved N2.out hd3 Cq HI.out.inP P1.out.new);clear hd3 Cq))
 go_ret
 exact ⟨rfl,_,_,_,_,by omega,P3.out⟩
set_option maxRecDepth 100000 in
set_option maxHeartbeats 8000000 in
theorem Ij {w0 w:World} {n l d:Nat} {K:NK} {a:aR} {N:Nat} {P:Nat→Prop} (h:PD w0 n l d K a N P w) (hN:N+4194304≤8796093022208) (fr:Int) {row:List V} {A:Option Addr} {m:Nat} (c:Nat) (hr:bD w0 A m row) :
 Calls Tryz.prog 28 #[.pointer (some ⟨n,0,none⟩),.pointer (some ⟨d,0,none⟩),.agg #[.int .i64 6,.int .i64 fr,.slice A m c]] w (uY w0 n d K N):=by
 obtain ⟨g,hg⟩ : ∃ g,w.heap.size=g:=⟨_,rfl⟩
 obtain ⟨w1,aT⟩ : ∃ w1,w.alloc (.cells #[.int .i64 6,.int .i64 fr,.slice A m c] 30)=w1:=⟨_,rfl⟩
 have hb:=aL.new w 30 #[.int .i64 6,.int .i64 fr,.slice A m c]
 have he:=aD.alloc w (.cells #[.int .i64 6,.int .i64 fr,.slice A m c] 30)
 rw [aT] at hb he
 rw [hg] at hb
 have iD:=h.ext he
 have b0:w1.cell? ⟨g,0,none⟩=some (.int .i64 6):=hb.cell 0
 have b1:w1.cell? ⟨g,1,none⟩=some (.int .i64 fr):=hb.cell 1
 have b2:w1.cell? ⟨g,2,none⟩=some (.slice A m c):=hb.cell 2
 have P1:=aA iD;have HB:=aA hb;have HR:=aA hr;have lT:=aA hg;have xx:=aA aT
 have yT:=aA (show And' P w.heap.size w1.heap.size g from .inr ⟨by omega,hb.lt⟩)
 generalize And' P w.heap.size w1.heap.size=P2 at P1 yT
 clear h he iD hr hb
 obtain ⟨z,hz⟩ : ∃ z,(cX a).2=z:=⟨_,rfl⟩
 have gW:=P1.out.np.commit
 rw [hz] at gW
 have oR:=aA gW;have HZ:=aA hz
 clear hz gW
 go_enter Tryz.func28,Tryz.ntmps28
 go_upto_region 1 with fail
 go_wp2_with (first
  | ((with_reducible refine oR.out.mono ?_);rintro e w2 ⟨rfl,sD,jT⟩;have N2:=aA sD;have iJ:=P1.out.doc.keep jT (fun _ hb=>hb) sD.lt;have HI:=aA iJ;obtain ⟨U2,hU2⟩:=iJ;have Wq:=Cd hU2;rw [HZ.out] at Wq;have zd6:=aA Wq;clear sD jT hU2 Wq)
  | ((with_reducible refine zd6.out.mono ?_);rintro e w3 ⟨rfl,hd3,Cq⟩;have P3:=aA (PD.moved N2.out hd3 Cq HI.out.inP P1.out.new);clear hd3 Cq))
 go_ret
 exact ⟨rfl,_,_,_,_,by omega,P3.out⟩
set_option maxRecDepth 100000 in
set_option maxHeartbeats 8000000 in
theorem Pk {w0 w:World} {n l d:Nat} {K:NK} {a:aR} {N:Nat} {P:Nat→Prop} (h:PD w0 n l d K a N P w) (hN:N+4194304≤8796093022208) (fr:Int) {row:List V} {A:Option Addr} {m:Nat} (c:Nat) (hr:bD w0 A m row) :
 Calls Tryz.prog 28 #[.pointer (some ⟨n,0,none⟩),.pointer (some ⟨d,0,none⟩),.agg #[.int .i64 7,.int .i64 fr,.slice A m c]] w (uY w0 n d K N):=by
 obtain ⟨g,hg⟩ : ∃ g,w.heap.size=g:=⟨_,rfl⟩
 obtain ⟨w1,aT⟩ : ∃ w1,w.alloc (.cells #[.int .i64 7,.int .i64 fr,.slice A m c] 30)=w1:=⟨_,rfl⟩
 have hb:=aL.new w 30 #[.int .i64 7,.int .i64 fr,.slice A m c]
 have he:=aD.alloc w (.cells #[.int .i64 7,.int .i64 fr,.slice A m c] 30)
 rw [aT] at hb he
 rw [hg] at hb
 have iD:=h.ext he
 have b0:w1.cell? ⟨g,0,none⟩=some (.int .i64 7):=hb.cell 0
 have b1:w1.cell? ⟨g,1,none⟩=some (.int .i64 fr):=hb.cell 1
 have b2:w1.cell? ⟨g,2,none⟩=some (.slice A m c):=hb.cell 2
 have P1:=aA iD;have HB:=aA hb;have HR:=aA hr;have lT:=aA hg;have xx:=aA aT
 have yT:=aA (show And' P w.heap.size w1.heap.size g from .inr ⟨by omega,hb.lt⟩)
 generalize And' P w.heap.size w1.heap.size=P2 at P1 yT
 clear h he iD hr hb
 obtain ⟨z,hz⟩ : ∃ z,(fS a).2=z:=⟨_,rfl⟩
 have gW:=P1.out.np.roll (by omega)
 rw [hz] at gW
 have oR:=aA gW;have HZ:=aA hz
 clear hz gW
 go_enter Tryz.func28,Tryz.ntmps28
 go_upto_region 1 with fail
 go_wp2_with (first
  | ((with_reducible refine oR.out.mono ?_);rintro e w2 ⟨rfl,l2,sD,jT⟩;have N2:=aA sD;have iJ:=P1.out.doc.keep jT (fun _ hb=>hb) sD.lt;have HI:=aA iJ;obtain ⟨U2,hU2⟩:=iJ;have Wq:=Wa hU2;rw [HZ.out] at Wq;have zd6:=aA Wq;clear sD jT hU2 Wq)
  | ((with_reducible refine zd6.out.mono ?_);rintro e w3 ⟨rfl,hd3,Cq⟩;have P3:=aA (PD.moved N2.out hd3 Cq HI.out.inP P1.out.new);clear hd3 Cq))
 go_ret
 exact ⟨rfl,_,_,_,_,by omega,P3.out⟩
set_option maxRecDepth 100000 in
set_option maxHeartbeats 8000000 in
theorem Yb {w0 w:World} {n l d:Nat} {K:NK} {a:aR} {N:Nat} {P:Nat→Prop} (h:PD w0 n l d K a N P w) (hN:N+4194304≤8796093022208) (fr:Int) {row:List V} {A:Option Addr} {m:Nat} (c:Nat) (hr:bD w0 A m row) :
 Calls Tryz.prog 28 #[.pointer (some ⟨n,0,none⟩),.pointer (some ⟨d,0,none⟩),.agg #[.int .i64 1,.int .i64 fr,.slice A m c]] w (uY w0 n d K N):=by
 obtain ⟨g,hg⟩ : ∃ g,w.heap.size=g:=⟨_,rfl⟩
 obtain ⟨w1,aT⟩ : ∃ w1,w.alloc (.cells #[.int .i64 1,.int .i64 fr,.slice A m c] 30)=w1:=⟨_,rfl⟩
 have hb:=aL.new w 30 #[.int .i64 1,.int .i64 fr,.slice A m c]
 have he:=aD.alloc w (.cells #[.int .i64 1,.int .i64 fr,.slice A m c] 30)
 rw [aT] at hb he
 rw [hg] at hb
 have iD:=h.ext he
 have b0:w1.cell? ⟨g,0,none⟩=some (.int .i64 1):=hb.cell 0
 have b1:w1.cell? ⟨g,1,none⟩=some (.int .i64 fr):=hb.cell 1
 have b2:w1.cell? ⟨g,2,none⟩=some (.slice A m c):=hb.cell 2
 have P1:=aA iD;have HB:=aA hb;have HR:=aA hr;have lT:=aA hg;have xx:=aA aT
 have yT:=aA (show And' P w.heap.size w1.heap.size g from .inr ⟨by omega,hb.lt⟩)
 generalize And' P w.heap.size w1.heap.size=P2 at P1 yT
 clear h he iD hr hb
 have wV:=P1.out.np.now;have vX:=P1.out.np.ok
 have kj:=Jm P1.out.np (by omega) 1 fr c HR.out
 rw [show decide ((1:Int)=1)=true from rfl] at kj
 have bC:=Eg vX wV true fr HR.out.small HR.out.wf
 have ky:=fun (w5:World) (Q:Nat→Prop) (U:lS) (hI:tA w5 Q d K a U) (ha:bD w5 A m row)=>Ld hI true fr c ha
 simp only [Fs wV] at ky
 obtain ⟨t,ht⟩ : ∃ t,iE K a.now true fr row=t:=⟨_,rfl⟩
 rw [ht] at kj bC
 simp only [ht] at ky
 obtain ⟨s1,F,V2,z⟩:=t
 have zd8:=aA kj;have rZ:=aA bC;have zet:=aA ky
 have zcO:P2 d∧d<w1.heap.size:=⟨P1.out.doc.inP,P1.out.np.lt d P1.out.doc.inP⟩
 have zaM:=aA zcO
 clear kj bC ky ht wV vX zcO
 go_enter Tryz.func28,Tryz.ntmps28
 go_upto_region 1 with fail
 go_upto_region 4 with fail
 go_wp2_with fail
 refine zd8.out.mono ?_
 rintro e w6 ⟨y,Q6,rfl,h6,k6,pq6,qp6,m6⟩
 obtain ⟨Ay,cy,Az,cz,X6,Y6,rfl,f6,u6,-,xy6⟩:=m6
 have N6:=aA h6;have D6:=aA (P1.out.doc.keep k6 pq6 h6.lt);have zdV:=aA xy6
 have zdW:=aA (show ∀ b,Q6 b→w0.heap.size≤b from fun b hb=>(qp6 b hb).elim (P1.out.new b) fun hx=>by have:=P1.out.np.size0;omega)
 have F6:=aA f6;have U6:=aA u6
 have Ψ:=aA (k6.blk HB.out fun hn=>hn yT.out)
 have zbz:=aA k6.size
 clear h6 k6 pq6 qp6 f6 u6 xy6 zd8 b0 b1 b2
 obtain ⟨g7,Pi⟩ : ∃ g7,w6.heap.size=g7:=⟨_,rfl⟩
 obtain ⟨w7,hw7⟩ : ∃ w7,w6.alloc (.cells #[.slice Ay F.length cy,.slice Az V2.length cz] 38)=w7:=⟨_,rfl⟩
 have Lc:=aD.alloc w6 (.cells #[.slice Ay F.length cy,.slice Az V2.length cz] 38)
 have zb:=aL.new w6 38 #[.slice Ay F.length cy,.slice Az V2.length cz]
 rw [hw7] at Lc zb
 rw [Pi] at zb
 have zct:=aA zb;have xg:=aA Pi;have zeu:=aA hw7;have E7:=aA Lc
 have Vk:=Ψ.out.ext Lc
 have N7:=aA (N6.out.ext Lc)
 have zgY:=D6.out.keep (aF.of Lc) (Q:=And' Q6 w6.heap.size w7.heap.size) (fun _ hb=>.inl hb) N7.out.lt
 obtain ⟨U7,hU7⟩:=zgY
 have xI:=aA (zet.out w7 _ U7 hU7 (HR.out.ext N7.out.ext0))
 have zI:=aA (show (∀ b,And' Q6 w6.heap.size w7.heap.size b→w0.heap.size≤b)∧And' Q6 w6.heap.size w7.heap.size d from ⟨fun b hb=>hb.elim (zdW.out b) fun hx=>by have:=N6.out.size0;omega,hU7.base.inP⟩)
 generalize And' Q6 w6.heap.size w7.heap.size=Q7 at N7 xI zI
 have F7:=aA (F6.out.chg (C:=fun _=>False) (aF.of Lc) (fun _ _ h=>h) (Q:=X6) fun _ h=>h);have U7:=aA (U6.out.chg (C:=fun _=>False) (aF.of Lc) (fun _ _ h=>h) (Q:=Y6) fun _ h=>h)
 clear hU7 zb Pi hw7 Lc N6 D6 zdW zet F6 U6
 go_upto_region 5 with fail
 rw [xg.out,zeu.out]
 have b0:w7.cell? ⟨g,0,none⟩=some (.int .i64 1):=Vk.cell 0
 have b1:w7.cell? ⟨g,1,none⟩=some (.int .i64 fr):=Vk.cell 1
 have b2:w7.cell? ⟨g,2,none⟩=some (.slice A m c):=Vk.cell 2
 clear Vk zeu
 unfold lV at xI
 dsimp only at xI
 go_upto_region 6 with ((with_reducible refine xI.out.mono ?_);rintro e w8 ⟨A8,c8,A9,c9,rfl,t8,u8,d8,x8⟩;have T8:=aA t8;have V8:=aA u8;have D8:=aA d8;have C8:=aA x8;clear t8 u8 d8 x8)
 clear xI b0 b1 b2
 have nK:g7≠d:=by have:=zaM.out.2;have:=zbz.out;have:=xg.out;omega
 have fQ:=C8.out.blk zct.out nK
 have e0:w8.cell? ⟨g7,0,none⟩=some (.slice Ay F.length cy):=fQ.cell 0
 have F8:=aA (F7.out.chg C8.out (fun b hb hx=>by have:=(zdV.out b (.inl hb)).2;have:=zaM.out.2;omega) (Q:=X6) fun _ h=>h).lat
 have U8:=aA (U7.out.chg C8.out (fun b hb hx=>by have:=(zdV.out b (.inr hb)).2;have:=zaM.out.2;omega) (Q:=Y6) fun _ h=>h).lat
 have Sc:=aA fQ
 have P8:=aA (show PD w0 n l d K {a with now:=s1} (N+1048576) (And' Q7 w7.heap.size w8.heap.size) w8 from ⟨N7.out.chgP C8.out (fun b hb=>hb ▸ zI.out.2) (fun b hb=>hb ▸ zI.out.1 d zI.out.2),D8.out,fun b hb=>hb.elim (zI.out.1 b) fun hx=>by have:=N7.out.size0;omega⟩)
 have gG:=mP F F Ay A8 F.length F.length cy c8 w8 F8.out T8.out.lat (by have:=rZ.out.1.1;omega) (fun q hq=>by have:=rZ.out.1.2 q hq;omega)
 rw [fY.2 rfl] at gG
 have sQ:=aA gG
 clear gG fQ nK F7 U7 C8 D8 N7
 go_wp2_with (first
  | ((with_reducible refine sQ.out.mono ?_);rintro e w9 ⟨rfl,x9⟩;have P9:=aA (P8.out.ext x9);have e1:_=some (Value.slice Az V2.length cz):=(Sc.out.ext x9).cell 1;have xC:=mP V2 V2 Az A9 V2.length V2.length cz c9 w9 (U8.out.ext nW.stab x9) (V8.out.lat.ext nW.stab x9) (by have:=rZ.out.2.1;omega) (fun q hq=>by have:=rZ.out.2.2 q hq;omega);rw [fY.2 rfl] at xC;have zdp:=aA xC;clear x9 xC)
  | ((with_reducible refine zdp.out.mono ?_);rintro e w10 ⟨rfl,x10⟩;have qv:=aA (P9.out.ext x10);clear x10))
 go_ret
 exact ⟨rfl,_,_,_,_,by omega,qv.out⟩
set_option maxRecDepth 100000 in
set_option maxHeartbeats 8000000 in
theorem Un {w0 w:World} {n l d:Nat} {K:NK} {a:aR} {N:Nat} {P:Nat→Prop} (h:PD w0 n l d K a N P w) (hN:N+4194304≤8796093022208) (fr:Int) {row:List V} {A:Option Addr} {m:Nat} (c:Nat) (hr:bD w0 A m row) :
 Calls Tryz.prog 28 #[.pointer (some ⟨n,0,none⟩),.pointer (some ⟨d,0,none⟩),.agg #[.int .i64 2,.int .i64 fr,.slice A m c]] w (uY w0 n d K N):=by
 obtain ⟨g,hg⟩ : ∃ g,w.heap.size=g:=⟨_,rfl⟩
 obtain ⟨w1,aT⟩ : ∃ w1,w.alloc (.cells #[.int .i64 2,.int .i64 fr,.slice A m c] 30)=w1:=⟨_,rfl⟩
 have hb:=aL.new w 30 #[.int .i64 2,.int .i64 fr,.slice A m c]
 have he:=aD.alloc w (.cells #[.int .i64 2,.int .i64 fr,.slice A m c] 30)
 rw [aT] at hb he
 rw [hg] at hb
 have iD:=h.ext he
 have b0:w1.cell? ⟨g,0,none⟩=some (.int .i64 2):=hb.cell 0
 have b1:w1.cell? ⟨g,1,none⟩=some (.int .i64 fr):=hb.cell 1
 have b2:w1.cell? ⟨g,2,none⟩=some (.slice A m c):=hb.cell 2
 have P1:=aA iD;have HB:=aA hb;have HR:=aA hr;have lT:=aA hg;have xx:=aA aT
 have yT:=aA (show And' P w.heap.size w1.heap.size g from .inr ⟨by omega,hb.lt⟩)
 generalize And' P w.heap.size w1.heap.size=P2 at P1 yT
 clear h he iD hr hb
 have wV:=P1.out.np.now;have vX:=P1.out.np.ok
 have kj:=Jm P1.out.np (by omega) 2 fr c HR.out
 rw [show decide ((2:Int)=1)=false from rfl] at kj
 have bC:=Eg vX wV false fr HR.out.small HR.out.wf
 have ky:=fun (w5:World) (Q:Nat→Prop) (U:lS) (hI:tA w5 Q d K a U) (ha:bD w5 A m row)=>Ld hI false fr c ha
 simp only [Fs wV] at ky
 obtain ⟨t,ht⟩ : ∃ t,iE K a.now false fr row=t:=⟨_,rfl⟩
 rw [ht] at kj bC
 simp only [ht] at ky
 obtain ⟨s1,F,V2,z⟩:=t
 have zd8:=aA kj;have rZ:=aA bC;have zet:=aA ky
 have zcO:P2 d∧d<w1.heap.size:=⟨P1.out.doc.inP,P1.out.np.lt d P1.out.doc.inP⟩
 have zaM:=aA zcO
 clear kj bC ky ht wV vX zcO
 go_enter Tryz.func28,Tryz.ntmps28
 go_upto_region 1 with fail
 go_upto_region 4 with fail
 go_wp2_with fail
 refine zd8.out.mono ?_
 rintro e w6 ⟨y,Q6,rfl,h6,k6,pq6,qp6,m6⟩
 obtain ⟨Ay,cy,Az,cz,X6,Y6,rfl,f6,u6,-,xy6⟩:=m6
 have N6:=aA h6;have D6:=aA (P1.out.doc.keep k6 pq6 h6.lt);have zdV:=aA xy6
 have zdW:=aA (show ∀ b,Q6 b→w0.heap.size≤b from fun b hb=>(qp6 b hb).elim (P1.out.new b) fun hx=>by have:=P1.out.np.size0;omega)
 have F6:=aA f6;have U6:=aA u6
 have Ψ:=aA (k6.blk HB.out fun hn=>hn yT.out)
 have zbz:=aA k6.size
 clear h6 k6 pq6 qp6 f6 u6 xy6 zd8 b0 b1 b2
 obtain ⟨g7,Pi⟩ : ∃ g7,w6.heap.size=g7:=⟨_,rfl⟩
 obtain ⟨w7,hw7⟩ : ∃ w7,w6.alloc (.cells #[.slice Ay F.length cy,.slice Az V2.length cz] 38)=w7:=⟨_,rfl⟩
 have Lc:=aD.alloc w6 (.cells #[.slice Ay F.length cy,.slice Az V2.length cz] 38)
 have zb:=aL.new w6 38 #[.slice Ay F.length cy,.slice Az V2.length cz]
 rw [hw7] at Lc zb
 rw [Pi] at zb
 have zct:=aA zb;have xg:=aA Pi;have zeu:=aA hw7;have E7:=aA Lc
 have Vk:=Ψ.out.ext Lc
 have N7:=aA (N6.out.ext Lc)
 have zgY:=D6.out.keep (aF.of Lc) (Q:=And' Q6 w6.heap.size w7.heap.size) (fun _ hb=>.inl hb) N7.out.lt
 obtain ⟨U7,hU7⟩:=zgY
 have xI:=aA (zet.out w7 _ U7 hU7 (HR.out.ext N7.out.ext0))
 have zI:=aA (show (∀ b,And' Q6 w6.heap.size w7.heap.size b→w0.heap.size≤b)∧And' Q6 w6.heap.size w7.heap.size d from ⟨fun b hb=>hb.elim (zdW.out b) fun hx=>by have:=N6.out.size0;omega,hU7.base.inP⟩)
 generalize And' Q6 w6.heap.size w7.heap.size=Q7 at N7 xI zI
 have F7:=aA (F6.out.chg (C:=fun _=>False) (aF.of Lc) (fun _ _ h=>h) (Q:=X6) fun _ h=>h);have U7:=aA (U6.out.chg (C:=fun _=>False) (aF.of Lc) (fun _ _ h=>h) (Q:=Y6) fun _ h=>h)
 clear hU7 zb Pi hw7 Lc N6 D6 zdW zet F6 U6
 go_upto_region 5 with fail
 rw [xg.out,zeu.out]
 have b0:w7.cell? ⟨g,0,none⟩=some (.int .i64 2):=Vk.cell 0
 have b1:w7.cell? ⟨g,1,none⟩=some (.int .i64 fr):=Vk.cell 1
 have b2:w7.cell? ⟨g,2,none⟩=some (.slice A m c):=Vk.cell 2
 clear Vk zeu
 unfold lV at xI
 dsimp only at xI
 go_upto_region 6 with ((with_reducible refine xI.out.mono ?_);rintro e w8 ⟨A8,c8,A9,c9,rfl,t8,u8,d8,x8⟩;have T8:=aA t8;have V8:=aA u8;have D8:=aA d8;have C8:=aA x8;clear t8 u8 d8 x8)
 clear xI b0 b1 b2
 have nK:g7≠d:=by have:=zaM.out.2;have:=zbz.out;have:=xg.out;omega
 have fQ:=C8.out.blk zct.out nK
 have e0:w8.cell? ⟨g7,0,none⟩=some (.slice Ay F.length cy):=fQ.cell 0
 have F8:=aA (F7.out.chg C8.out (fun b hb hx=>by have:=(zdV.out b (.inl hb)).2;have:=zaM.out.2;omega) (Q:=X6) fun _ h=>h).lat
 have U8:=aA (U7.out.chg C8.out (fun b hb hx=>by have:=(zdV.out b (.inr hb)).2;have:=zaM.out.2;omega) (Q:=Y6) fun _ h=>h).lat
 have Sc:=aA fQ
 have P8:=aA (show PD w0 n l d K {a with now:=s1} (N+1048576) (And' Q7 w7.heap.size w8.heap.size) w8 from ⟨N7.out.chgP C8.out (fun b hb=>hb ▸ zI.out.2) (fun b hb=>hb ▸ zI.out.1 d zI.out.2),D8.out,fun b hb=>hb.elim (zI.out.1 b) fun hx=>by have:=N7.out.size0;omega⟩)
 have gG:=mP F F Ay A8 F.length F.length cy c8 w8 F8.out T8.out.lat (by have:=rZ.out.1.1;omega) (fun q hq=>by have:=rZ.out.1.2 q hq;omega)
 rw [fY.2 rfl] at gG
 have sQ:=aA gG
 clear gG fQ nK F7 U7 C8 D8 N7
 go_wp2_with (first
  | ((with_reducible refine sQ.out.mono ?_);rintro e w9 ⟨rfl,x9⟩;have P9:=aA (P8.out.ext x9);have e1:_=some (Value.slice Az V2.length cz):=(Sc.out.ext x9).cell 1;have xC:=mP V2 V2 Az A9 V2.length V2.length cz c9 w9 (U8.out.ext nW.stab x9) (V8.out.lat.ext nW.stab x9) (by have:=rZ.out.2.1;omega) (fun q hq=>by have:=rZ.out.2.2 q hq;omega);rw [fY.2 rfl] at xC;have zdp:=aA xC;clear x9 xC)
  | ((with_reducible refine zdp.out.mono ?_);rintro e w10 ⟨rfl,x10⟩;have qv:=aA (P9.out.ext x10);clear x10))
 go_ret
 exact ⟨rfl,_,_,_,_,by omega,qv.out⟩
theorem Vy {w0 w:World} {n l d:Nat} {K:NK} {a:aR} {N:Nat} {P:Nat→Prop} (h:PD w0 n l d K a N P w) (hN:N+4194304≤8796093022208) (kd fr:Int) {row:List V} {A:Option Addr} {m:Nat} (c:Nat) (hr:bD w0 A m row) :
 Calls Tryz.prog 28 #[.pointer (some ⟨n,0,none⟩),.pointer (some ⟨d,0,none⟩),.agg #[.int .i64 kd,.int .i64 fr,.slice A m c]] w (uY w0 n d K N):=by
 by_cases h1:kd=1
 ·subst h1;exact Yb h hN fr c hr
 by_cases h2:kd=2
 ·subst h2;exact Un h hN fr c hr
 by_cases h3:kd=3
 ·subst h3;exact Sq h hN fr c hr
 by_cases h4:kd=4
 ·subst h4;exact Oz h hN fr c hr
 by_cases h5:kd=5
 ·subst h5;exact Ji h hN fr c hr
 by_cases h6:kd=6
 ·subst h6;exact Ij h hN fr c hr
 by_cases h7:kd=7
 ·subst h7;exact Pk h hN fr c hr
 exact Ll h hN h1 h2 h3 h4 h5 h6 h7 fr c hr
theorem Pq {x c N N5 i:Nat} (h:N≤x+c*i) (h2:N5≤N+c):N5≤x+c*(i+1):=by rw [Nat.mul_succ];omega
set_option maxRecDepth 100000 in
set_option maxHeartbeats 4000000 in
theorem S8 (s:SP) (L:Cv) (ops:List zcB) (Ao:Option Addr) (l co:Nat) (w:World) (hs:j9 w s L) (ho:pO Ξ 3 w Ao l ops) (_hlc:l≤co) (hl:l≤1048576) (zcT:∀ o∈ops,o.row.length≤1048576∧dP o.row) (howf:∀ o∈ops,uH o.row) :
 Calls Tryz.prog 8 #[.agg (bQ s L),.slice Ao l co] w fun e w'=>e=.returned (.bool true)∧aD w w':=by
 obtain ⟨g,hg⟩ : ∃ g,w.heap.size=g:=⟨_,rfl⟩
 obtain ⟨w1,aT⟩ : ∃ w1,w.alloc (.cells (bQ s L) 25)=w1:=⟨_,rfl⟩
 have hb:=aL.new w 25 (bQ s L)
 have he:=aD.alloc w (.cells (bQ s L) 25)
 rw [aT] at hb he
 rw [hg] at hb
 have HE:=aA he
 have qg:=aA (Yw (hs.ext he))
 have HO:=aA (ho.ext Ξ.stab he);have ziX:=aA zcT;have zdh:=aA howf
 have b0:w1.cell? ⟨g,0,none⟩=some (.int .i64 s.kind):=hb.cell 0
 have b1:w1.cell? ⟨g,1,none⟩=some (.int .i64 s.inn):=hb.cell 1
 have b2:w1.cell? ⟨g,2,none⟩=some (.slice L.kA s.keep.length L.kC):=hb.cell 2
 have b3:w1.cell? ⟨g,3,none⟩=some (.slice L.sA s.side.length L.sC):=hb.cell 3
 have b4:w1.cell? ⟨g,4,none⟩=some (.slice L.uA s.up.length L.uC):=hb.cell 4
 have b5:w1.cell? ⟨g,5,none⟩=some (.int .i64 s.most):=hb.cell 5
 clear hs ho zcT howf hb he
 unfold bQ at *
 go_enter Tryz.func8,Tryz.ntmps8
 go_upto_region 1 with fail
 clear aT hg
 go_wp2_with fail
 refine qg.out.mono ?_
 rintro e w2 h2
 clear b0 b1 b2 b3 b4 b5 qg
 rcases h2.np with ⟨-,rfl,x2⟩ | ⟨nK,n,d,lv,b,rfl,h2,hbl,hdoc⟩
 ·have X2:=aA x2
  clear x2
  go_wp2_with fail
  refine (Jt _).mono ?_
  rintro e w3 ⟨rfl,x3⟩
  have X3:=aA x3
  clear x3
  go_wp2_with fail
  go_ret
  exact ⟨rfl,HE.out.trans (X2.out.trans X3.out)⟩
 ·have P2:=aA (show PD w1 n lv d (dN s) fH 262144 (fun x=>b≤x∧x<w2.heap.size) w2 from ⟨h2,hdoc.doc nK,fun x hx=>Nat.le_trans hbl hx.1⟩)
  clear h2 hdoc hbl nK
  go_wp2_with fail
  go_loopw [9,28] (fun _ s28 w'=>∃ (i lv':Nat) (a:aR) (N:Nat) (P:Nat→Prop),i≤l∧s28=.int .i64 i∧Hid (PD w1 n lv' d (dN s) a N P w')∧Hid (N≤262144+2097152*i)) (fun _ s28 _=>l - (intOf s28).toNat)
  case atStart=>exact ⟨0,lv,fH,262144,_,by omega,rfl,P2.out,show (262144:Nat)≤262144+2097152*0 from by omega⟩
  case round=>
   clear P2
   obtain ⟨i,lv',a,N,P,j0,rfl,hP,hS⟩:=hrel
   by_cases hi:i<l
   ·have zbT:(i:Int)<(l:Int):=by omega
    obtain ⟨ob,off,oo,A9,c9,rfl,hoi,hobl,k0,k1,k2,dY⟩:=HO.out.op hi
    have zfd:=List.mem_of_getElem? hoi
    have Uf:=aA (show bD w1 A9 oo.row.length oo.row from ⟨dY,(ziX.out oo zfd).1,(ziX.out oo zfd).2,zdh.out oo zfd⟩)
    have k0:=hP.out.np.ext0.cell k0;have k1:=hP.out.np.ext0.cell k1;have k2:=hP.out.np.ext0.cell k2
    obtain ⟨kd,hkd⟩ : ∃ kd,oo.kind=kd:=⟨_,rfl⟩
    obtain ⟨fr,yY⟩ : ∃ fr,oo.k=fr:=⟨_,rfl⟩
    obtain ⟨rw_,Pc⟩ : ∃ rw_,oo.row=rw_:=⟨_,rfl⟩
    obtain ⟨m9,hm9⟩ : ∃ m9,rw_.length=m9:=⟨_,rfl⟩
    rw [hkd] at k0
    rw [yY] at k1
    rw [Pc,hm9] at k2 Uf
    have EA:=aA (aD.alloc wr (.cells #[.int .i64 kd,.int .i64 fr,.slice A9 m9 c9] 30))
    have zg3:=aA (Vy (hP.out.ext EA.out) (by have:=hS.out;omega) kd fr c9 Uf.out)
    clear zfd dY hoi hkd yY Pc hm9 hobl
    go_wp2_with ((with_reducible refine zg3.out.mono ?_);rintro e w5 ⟨rfl,l5,a5,N5,P5,hN5,h5⟩;have H5:=aA h5;have B5:=aA (Pq hS.out hN5);clear h5 hN5)
    go_roundw
    case rel=>exact ⟨i+1,_,_,_,_,by omega,by go_num,H5.out,B5.out⟩
    case measure=>simp [intOf];omega
   ·obtain rfl:i=l:=by omega
    have Md:=aA (J9 hP.out (by have:=hS.out;omega))
    clear hP
    go_wp2_with ((with_reducible refine Md.out.mono ?_);rintro e w5 ⟨rfl,h5,-⟩;have X5:=aA h5.ext0;clear h5)
    refine (Jt _).mono ?_
    rintro e w6 ⟨rfl,x6⟩
    have X6:=aA x6
    clear x6
    go_wp2_with fail
    go_ret
    exact ⟨rfl,HE.out.trans (X5.out.trans X6.out)⟩
end Go.Proofs.YtahdiiaadjdmcaaGreat
