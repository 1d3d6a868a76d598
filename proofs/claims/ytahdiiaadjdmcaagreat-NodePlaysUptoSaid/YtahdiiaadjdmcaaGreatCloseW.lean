import Derived.Test.YtahdiiaadjdmcaaGreatNgM
import Derived.Test.YtahdiiaadjdmcaaGreatNgL
namespace Go.Proofs.YtahdiiaadjdmcaaGreat
open Go.RowKit Go.ChangeShapes Go.WideShapes Go.ChangeAt Go.Deep
section
variable {H:Type} {enc:TypeId × Value→H} {w:World} {base:Nat} {spare:Nat→Bool} {held:Bool}
def Bi (w:World) (cs:List Value) (d:DataW H) (o:zcB):Prop:=Ξ w cs o∧aQ cs∧o.row.length≤Rows.uptoBulk d∧(∀ v∈o.row,v.t.size≤Rows.uptoBulk d)∧uH o.row
set_option maxRecDepth 100000 in
theorem Sv (n:Nat) (cs:List Value) (y:DataW H × List MemPlace) (h:DataW.trod enc Tryz.prog w base spare held n 30 cs=some y):∃ o:zcB,Bi w cs y.1 o:=by
 obtain ⟨y0,y1,y2,m,rfl,hl,h0,h1,h2⟩:=trod_struct3 Tryz.underlying30 h
 have hc:Tryz.prog.cellsOf 30=3:=by kernel_rfl
 rw [hc] at hl
 match cs,hl with
 |[c0,c1,c2],_=>
  have e0:Tryz.prog.cellsOf 3=1:=by kernel_rfl
  have e1:Tryz.prog.cellsOf 28=1:=by kernel_rfl
  simp only [e0,e1,List.drop_zero,List.drop_succ_cons,List.take_succ_cons,List.take_zero] at h0 h1 h2
  obtain ⟨k,hk,hd0,_⟩:=DataW.trod_int Tryz.underlying3 h0
  obtain ⟨q,hq,Rl,_⟩:=DataW.trod_int Tryz.underlying3 h1
  obtain ⟨A,n',c,r,hr,g1,_,g3,g4,g5⟩:=V0 Tryz.underlying28 h2
  simp only [List.cons.injEq,and_true] at hk hq hr
  subst hk;subst hq;subst hr
  have cZ:=g1.len
  refine ⟨⟨k,q,r⟩,⟨A,n',c,rfl,g1⟩,fun v hv=>?_,?_,fun v hv=>?_,g5⟩
  ·simp only [List.mem_cons,List.not_mem_nil,or_false] at hv
   rcases hv with rfl | rfl | rfl <;> rfl
  ·show r.length≤_
   simp only [Rows.uptoBulk,Rows.uptoBulkAll];omega
  ·have:=g4 v hv
   simp only [Rows.uptoBulk,Rows.uptoBulkAll];omega
set_option maxRecDepth 100000 in
theorem Ms {t:TypeId} {fuel:Nat} {cs:List Value} {x:DataW H × List MemPlace} (ht:Tryz.prog.underlying t=some (.slice 30)) (h:DataW.trod enc Tryz.prog w base spare held fuel t cs=some x) :
 ∃ (A:Option Addr) (n c:Nat) (ops:List zcB),cs=[.slice A n c]∧pO Ξ 3 w A n ops∧n≤c∧n≤Rows.uptoBulk x.1∧(∀ r∈ops,r.row.length≤Rows.uptoBulk x.1∧∀ v∈r.row,v.t.size≤Rows.uptoBulk x.1)∧∀ r∈ops,uH r.row:=by
 obtain ⟨A,n,c,rows,D,rfl,hl,hD,hc,hd,hx⟩:=wX (Bi w) (by omega) ht (size:=3) (by kernel_rfl) Sv h
 have jU:∀ r∈rows,∃ cs d,d∈D∧Bi w cs d r:=fun r hr=>by
  obtain ⟨i,hi,e⟩:=List.getElem_of_mem hr
  obtain ⟨b,off,_,gI⟩:=hx (by omega)
  obtain ⟨cs,d,h1,_,h3,_⟩:=gI i r (by rw [List.getElem?_eq_getElem hi,e])
  exact ⟨cs,d,List.mem_of_getElem? h1,h3⟩
 have Rn:n≤Rows.uptoBulk x.1∧∀ d∈D,Rows.uptoBulk d≤Rows.uptoBulk x.1:=by
  rcases hd with ⟨h1,h2⟩ | ⟨sp,h1⟩
  ·subst h2
   have h0:n=0:=hl
   have zdu:D=[]:=List.eq_nil_of_length_eq_zero (by omega)
   subst zdu
   exact ⟨by omega,fun d hd=>by cases hd⟩
  ·rw [h1,hD]
   refine ⟨tE,fun d hd=>?_⟩
   have:=Ls hd
   simp only [Rows.uptoBulk];omega
 refine ⟨A,n,c,rows,rfl,?_,hc,Rn.1,fun r hr=>?_,fun r hr=>?_⟩
 ·rcases Nat.eq_zero_or_pos n with h0 | h0
  ·subst h0
   have:rows=[]:=List.eq_nil_of_length_eq_zero hl.symm
   subst this
   exact pO.nil _
  ·obtain ⟨b,off,rfl,gI⟩:=hx h0
   obtain ⟨cells,e1,e2⟩:=Y0 (R:=Ξ) (s:=3) (w:=w) (b:=b) rows off (fun i y hy=>by
    obtain ⟨cs,d,_,h2,h3,h4⟩:=gI i y hy
    exact ⟨cs,h2,h3.2.1,h3.1,h4⟩)
   exact ⟨hl,cells,e1,by rw [e1.len,hl],fun _=>⟨b,off,rfl,e2⟩⟩
 ·obtain ⟨cs,d,i_,_,_,h3,h4,_⟩:=jU r hr
  have:=Rn.2 d i_
  exact ⟨by omega,fun v hv=>Nat.le_trans (h4 v hv) this⟩
 ·obtain ⟨cs,d,i_,_,_,_,_,h5⟩:=jU r hr
  exact h5
end
end Go.Proofs.YtahdiiaadjdmcaaGreat
