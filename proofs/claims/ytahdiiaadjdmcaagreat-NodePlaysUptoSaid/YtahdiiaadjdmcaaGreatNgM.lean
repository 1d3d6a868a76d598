import Derived.Test.YtahdiiaadjdmcaaGreatRows
import Derived.ProofKit
import Derived.OpenShut
import Derived.JoinedCond
import Derived.Deep.Slices
import Derived.Deep.Strs
import Derived.Test.YtahdiiaadjdmcaaGreatNgI
namespace Go.Proofs.YtahdiiaadjdmcaaGreat
open Go.RowKit Go.ChangeShapes Go.WideShapes Go.ChangeAt Go.Deep
theorem own:ownKnob Tryz.prog.godebug=none:=by kernel_rfl
theorem yh:laidOutB Tryz.prog=true:=by kernel_rfl
section
variable {H:Type} {enc:TypeId × Value→H} {P:Program} {w:World} {base:Nat} {spare:Nat→Bool} {held:Bool}
theorem Tx {a:Addr} {v:Value} (h:w.cell? a=some v):a =⟨a.block,a.off,none⟩:=by
 obtain ⟨b,o,s⟩:=a
 cases s with
 | none=>rfl
 |some s=>
  exfalso
  unfold World.cell? at h
  split at h <;> simp at h
theorem wX {α:Type} {t e:TypeId} {size:Nat} (R:List Value→DataW H→α→Prop) (hs:0<size) (ht:P.underlying t=some (.slice e)) (hC:P.cellsOf e=size)
 (hR:∀ n cs y,DataW.trod enc P w base spare held n e cs=some y→∃ x,R cs y.1 x) {fuel:Nat} {cs:List Value} {x:DataW H × List MemPlace} (h:DataW.trod enc P w base spare held fuel t cs=some x) :
 ∃ (A:Option Addr) (len cap:Nat) (xs:List α) (D:List (DataW H)),cs=[.slice A len cap]∧len=xs.length∧len=D.length∧len≤cap∧((x.1=.nil∧xs=[])∨∃ sp,x.1=.slice D sp)∧
  (0<len→∃ b off,A=some ⟨b,off,none⟩∧∀ (i:Nat) (y:α),xs[i]?=some y→∃ cs' d,D[i]?=some d∧cs'.length=size∧R cs' d y∧∀ j,j<size→w.cell? ⟨b,off+i*size+j,none⟩=cs'[j]?):=by
 rcases open_slice ht h with ⟨rfl,rfl⟩ | ⟨a,len,cap,m,n,D,Pl,rfl,hb,hl,hm,Dt,rfl,hi⟩
 ·exact ⟨none,0,0,[],[],rfl,rfl,rfl,Nat.le_refl _,.inl ⟨rfl,rfl⟩,fun h=>absurd h (by omega)⟩
 ·have Ej:len≤m:=by rw [Dt];split <;> omega
  have zhk:∀ i,i<len→∃ y,∃ cs',w.cells? base (a.add (i*size)) size=some cs'∧R cs' (D i) y:=fun i j0=>by
   obtain ⟨cs',hc,ht'⟩:=hi i (by omega)
   obtain ⟨y,hy⟩:=hR _ _ _ ht'
   rw [hC] at hc
   exact ⟨y,cs',hc,hy⟩
  by_cases h0:len=0
  ·subst h0
   exact ⟨some a,0,cap,[],[],rfl,rfl,rfl,hl,.inr ⟨_,rfl⟩,fun h=>absurd h (by omega)⟩
  ·let f:Nat→α:=fun i=>if hi:i<len then Classical.choose (zhk i hi) else Classical.choose (zhk 0 (by omega))
   have hf:∀ i,i<len→∃ cs',w.cells? base (a.add (i*size)) size=some cs'∧R cs' (D i) (f i):=fun i hi=>by
    have:=Classical.choose_spec (zhk i hi)
    simp only [f,hi,dite_true]
    exact this
   have ha:a =⟨a.block,a.off,none⟩:=by
    obtain ⟨cs',hc,_⟩:=hf 0 (by omega)
    obtain ⟨_,hl',gI⟩:=World.cells?_some hc
    have h1:=gI 0 (by omega)
    have h2:cs'[0]?=some cs'[0]:=List.getElem?_eq_getElem (by omega)
    rw [h2] at h1
    have h3:(a.add (0*size)).add 0=a:=by simp [Addr.add]
    rw [h3] at h1
    exact Tx h1
   refine ⟨some a,len,cap,(List.range len).map f,(List.range len).map D,rfl,by simp,by simp,hl,.inr ⟨_,rfl⟩,fun _=>⟨a.block,a.off,by rw [← ha],fun i y hy=>?_⟩⟩
   have j0:i<len:=by
    have:=(List.getElem?_eq_some_iff.1 hy).1
    simpa using this
   have hy':f i=y:=by simpa [List.getElem?_map,List.getElem?_range j0] using hy
   obtain ⟨cs',hc,hr⟩:=hf i j0
   obtain ⟨_,hl',gI⟩:=World.cells?_some hc
   refine ⟨cs',D i,by simp [List.getElem?_map,List.getElem?_range j0],hl',by rw [← hy'];exact hr,fun j hj=>?_⟩
   rw [← gI j hj,ha,kO,kO]
theorem Xo {l:List (DataW H)}:l.length≤Rows.uptoBulkAll l:=by
 induction l with
 | nil=>simp [Rows.uptoBulkAll]
 |cons x r ih=>
  have h1:1≤Rows.uptoBulk x:=by
   cases x with
   | lit l=>cases l <;> simp [Rows.uptoBulk]
   | _=>simp [Rows.uptoBulk]
  simp only [Rows.uptoBulkAll,List.length_cons];omega
theorem tE {D sp:List (DataW H)}:D.length≤Rows.uptoBulk (.slice D sp):=by
 have:=Xo (l:=D)
 simp only [Rows.uptoBulk];omega
theorem Ls {l:List (DataW H)} {d:DataW H} (h:d∈l):Rows.uptoBulk d≤Rows.uptoBulkAll l:=by
 induction l with
 | nil=>cases h
 |cons x r ih=>
  simp only [Rows.uptoBulkAll]
  cases List.mem_cons.1 h with
  | inl e=>subst e;omega
  | inr e=>have:=ih e;omega
end
section
variable {H:Type} {enc:TypeId × Value→H} {w:World} {base:Nat} {spare:Nat→Bool} {held:Bool}
def Nc (cs:List Value) (d:DataW H) (v:V):Prop:=cs=v.cells∧d=.agg [.lit (.int .i64 v.k),.lit (.int .i64 v.i),.lit (.string v.t.data.toList)]∧v.t.size≤maxLen∧(Lit.int .i64 v.k).wf=true∧(Lit.int .i64 v.i).wf=true
set_option maxRecDepth 100000 in
theorem Sg (n:Nat) (cs:List Value) (y:DataW H × List MemPlace) (h:DataW.trod enc Tryz.prog w base spare held n 85 cs=some y):∃ v:V,Nc cs y.1 v:=by
 obtain ⟨y0,y1,y2,m,rfl,hl,h0,h1,h2⟩:=trod_struct3 Tryz.underlying85 h
 have hc:Tryz.prog.cellsOf 85=3:=by kernel_rfl
 rw [hc] at hl
 match cs,hl with
 |[c0,c1,c2],_=>
  have e0:Tryz.prog.cellsOf 83=1:=by kernel_rfl
  have e1:Tryz.prog.cellsOf 2=1:=by kernel_rfl
  have e2:Tryz.prog.cellsOf 9=1:=by kernel_rfl
  simp only [e0,e1,e2,List.drop_zero,List.drop_succ_cons,List.take_succ_cons,List.take_zero] at h0 h1 h2
  obtain ⟨k,hk,rfl,wk⟩:=DataW.trod_int Tryz.underlying83 h0
  obtain ⟨i,hi,rfl,wi⟩:=DataW.trod_int Tryz.underlying2 h1
  obtain ⟨s,hs,rfl,ws⟩:=DataW.trod_string Tryz.underlying9 h2
  simp only [List.cons.injEq,and_true] at hk hi hs
  exact ⟨⟨k,i,s⟩,by rw [hk,hi,hs];rfl,rfl,ws,wk,wi⟩
theorem R0 (r:List V) (P:Nat→Value→Prop) (h:∀ (i:Nat) (v:V),r[i]?=some v→∀ (j:Nat) (u:Value),j<3→v.cells[j]?=some u→P (i*3+j) u) (j:Nat) (u:Value) (hu:(aO r)[j]?=some u):P j u:=by
 have hl:j<(aO r).length:=(List.getElem?_eq_some_iff.1 hu).1
 rw [kG] at hl
 have hi:j / 3<r.length:=by omega
 have hm:j % 3<3:=Nat.mod_lt _ (by omega)
 have hj:j / 3*3+j % 3=j:=by omega
 have:=h (j / 3) r[j / 3] (List.getElem?_eq_getElem hi) (j % 3) u hm (by
  rw [← mF r (j / 3) _ (j % 3) (List.getElem?_eq_getElem hi) hm,hj];exact hu)
 rwa [hj] at this
set_option maxRecDepth 100000 in
theorem V0 {t:TypeId} {fuel:Nat} {cs:List Value} {x:DataW H × List MemPlace} (ht:Tryz.prog.underlying t=some (.slice 85)) (h:DataW.trod enc Tryz.prog w base spare held fuel t cs=some x) :
 ∃ (A:Option Addr) (n c:Nat) (r:List V),cs=[.slice A n c]∧aW w A n r∧n≤c∧n≤Rows.uptoBulk x.1∧(∀ v∈r,v.t.size≤Rows.uptoBulk x.1)∧uH r:=by
 obtain ⟨A,n,c,r,D,rfl,hl,hD,hc,hd,hx⟩:=wX Nc (by omega) ht (size:=3) (by kernel_rfl) Sg h
 have jU:∀ v∈r,∃ d cs,d∈D∧Nc cs d v:=fun v hv=>by
  obtain ⟨i,hi,e⟩:=List.getElem_of_mem hv
  obtain ⟨b,off,_,gI⟩:=hx (by omega)
  obtain ⟨cs',d,hdi,_,hr,_⟩:=gI i v (by rw [List.getElem?_eq_getElem hi,e])
  exact ⟨d,cs',List.mem_of_getElem? hdi,hr⟩
 refine ⟨A,n,c,r,rfl,⟨hl,by rw [kG,hl],fun hn=>?_⟩,hc,?_,fun v hv=>?_,fun v hv=>?_⟩
 ·obtain ⟨b,off,hA,gI⟩:=hx hn
  refine ⟨b,off,hA,R0 r (fun j u=>w.cell? ⟨b,off+j,none⟩=some u) fun i v hv j u hj hu=>?_⟩
  obtain ⟨cs',d,_,_,⟨rfl,_⟩,cV⟩:=gI i v hv
  show w.cell? ⟨b,off+(i*3+j),none⟩=some u
  rw [← Nat.add_assoc,cV j hj]
  exact hu
 ·rcases hd with ⟨h1,h2⟩ | ⟨sp,h1⟩
  ·subst h2;simp at hl;omega
  ·rw [h1,hD];exact tE
 ·rcases hd with ⟨h1,h2⟩ | ⟨sp,h1⟩
  ·subst h2;cases hv
  ·obtain ⟨d,cs',i_,_,rfl,_⟩:=jU v hv
   have h2:=Ls i_
   rw [h1]
   have h3:v.t.data.toList.length=v.t.size:=Array.length_toList
   simp only [Rows.uptoBulk,Rows.uptoBulkAll] at h2 ⊢
   omega
 ·obtain ⟨d,cs',_,_,_,_,wk,wi⟩:=jU v hv
  simp only [Lit.wf,IntKind.min,IntKind.max,IntKind.signed,IntKind.bits,Bool.and_eq_true,decide_eq_true_eq] at wk wi
  exact ⟨by simpa using wk,by simpa using wi⟩
end
section
variable {H:Type} {enc:TypeId × Value→H} {P:Program}
theorem sI (hl:laidOutB P=true) {W W':World} {sp:Nat→Bool} (hb:Below W.heap.size W W'):∀ {ts:List TypeId} {vs:List Value} {ds:List (DataW H)} {ps:List MemPlace},
 (ts.all fun t=>P.readableRec t && decide (t<P.types.size))=true→DataW.TrodAll enc P W 0 (fun _=>true) true ts vs ds ps→(∀ p∈ps,p.block<W.heap.size)→(∀ p∈ps,sp p.block=true)→DataW.TrodAll enc P W' 0 sp true ts vs ds ps
 |[],vs,ds,ps,_,h,_,_=>by
  obtain ⟨rfl,rfl,rfl⟩:=trodAll_nil h
  exact trodAll_mk0
 |t :: ts,vs,ds,ps,hr,h,bC,zcf=>by
  obtain ⟨v,vs',d,ds',p,q,rfl,rfl,rfl,h0,h1⟩:=trodAll_cons h
  simp only [List.all_cons,Bool.and_eq_true,decide_eq_true_eq] at hr
  exact trodAll_cons_mk (WideElems.Trod_stays hl hr.1.1 hr.1.2 h0 (fun x hx=>hb.same (bC x (List.mem_append_left _ hx))) (fun x hx=>zcf x (List.mem_append_left _ hx)))
   (sI hl hb hr.2 h1 (fun x hx=>bC x (List.mem_append_right _ hx)) (fun x hx=>zcf x (List.mem_append_right _ hx)))
theorem W6 (hl:laidOutB P=true) {f:Func} {tb:TypeId} {s:ChangeSpec} {apart fresh handsOn:Bool} {W W':World} {args:Array Value} {ds gs:List (DataW H)} {before:List MemPlace}
 (hr:(f.params.toList.all fun t=>P.readableRec t && decide (t<P.types.size))=true) (hrt:f.resultTypes = #[tb]) (htb:P.underlying tb=some .bool) (hv:s.vars=[])
 (hfn:s.fn H (ds ++ gs) = {results:=[.lit (.bool true)],args:=ds}) (hW:DataW.Whole enc P f.params.toList s.vars apart W args.toList ds gs before) (hb:aD W W') :
 s.post enc P f apart fresh handsOn false W args (.bool true) W':=by
 have bC:∀ p∈before,p.block<W.heap.size:=fun p hp=>hW.lt p hp
 have zjy:=hW
 obtain ⟨p,q,hA,hV,rfl,hz,hn⟩:=hW
 rw [hv] at hV
 obtain ⟨rfl,rfl⟩:=trodVars_none hV
 refine ⟨ds,[],p ++ [],[],p,[],zjy,?_,?_,?_,hb.frame _,fun h=>by cases h⟩
 ·rw [hfn,hrt]
  exact trodAll_mk1 (shut_bool htb true)
 ·rw [hfn]
  exact sI hl hb hr hA (fun x hx=>bC x (List.mem_append_left _ hx)) (fun x hx=>by simpa using bC x (List.mem_append_left _ hx))
 ·rw [hv,hfn];rfl
end
end Go.Proofs.YtahdiiaadjdmcaaGreat
namespace Go.Proofs.YtahdiiaadjdmcaaGreat
open Go.RowKit Go.ChangeShapes Go.WideShapes Go.ChangeAt Go.Deep
section
variable {H:Type} {enc:TypeId × Value→H} {w:World} {base:Nat} {spare:Nat→Bool} {held:Bool}
theorem Ti {x:Int} (h:(Lit.int .i64 x).wf=true) : -9223372036854775808≤x∧x≤9223372036854775807:=by
 simp only [Lit.wf,IntKind.min,IntKind.max,IntKind.signed,IntKind.bits,Bool.and_eq_true,decide_eq_true_eq] at h
 simpa using h
set_option maxRecDepth 100000 in
theorem open_ints' {t:TypeId} {fuel:Nat} {cs:List Value} {x:DataW H × List MemPlace} (ht:Tryz.prog.underlying t=some (.slice 3)) (h:DataW.trod enc Tryz.prog w base spare held fuel t cs=some x) :
 ∃ (A:Option Addr) (n c:Nat) (xs:List Int),cs=[.slice A n c]∧cB w A n xs∧n≤c∧n≤Rows.uptoBulk x.1∧zkE xs:=by
 obtain ⟨A,n,c,r,D,rfl,hl,hD,hc,hd,hx⟩:=wX (fun cs (_:DataW H) (v:Int)=>cs=[.int .i64 v]∧(Lit.int .i64 v).wf=true) (by omega) ht (size:=1) (by kernel_rfl)
  (fun n cs y hy=>by
   obtain ⟨k,hk,_,wk⟩:=DataW.trod_int Tryz.underlying3 hy
   exact ⟨k,hk,wk⟩) h
 refine ⟨A,n,c,r,rfl,⟨hl,by rw [List.length_map];omega,fun hn=>?_⟩,hc,?_,fun v hv=>?_⟩
 ·obtain ⟨b,off,hA,gI⟩:=hx hn
  refine ⟨b,off,hA,fun j u hu=>?_⟩
  simp only [List.getElem?_map,Option.map_eq_some_iff] at hu
  obtain ⟨v,hv,rfl⟩:=hu
  obtain ⟨cs',d,_,_,⟨rfl,_⟩,cV⟩:=gI j v hv
  have:=cV 0 (by omega)
  simpa using this
 ·rcases hd with ⟨h1,h2⟩ | ⟨sp,h1⟩
  ·subst h2;simp at hl;omega
  ·rw [h1,hD];exact tE
 ·obtain ⟨i,hi,e⟩:=List.getElem_of_mem hv
  obtain ⟨b,off,_,gI⟩:=hx (by omega)
  obtain ⟨cs',d,_,_,hr,_⟩:=gI i v (by rw [List.getElem?_eq_getElem hi,e])
  exact Ti hr.2
end
end Go.Proofs.YtahdiiaadjdmcaaGreat
namespace Go.Proofs.YtahdiiaadjdmcaaGreat
open Go.RowKit Go.ChangeShapes Go.WideShapes Go.ChangeAt Go.Deep
section
variable {H:Type} {enc:TypeId × Value→H} {w:World} {base:Nat} {spare:Nat→Bool} {held:Bool}
end
end Go.Proofs.YtahdiiaadjdmcaaGreat
namespace Go.Proofs.YtahdiiaadjdmcaaGreat
open Go.RowKit Go.ChangeShapes Go.WideShapes Go.ChangeAt Go.Deep
section
variable {H:Type} {enc:TypeId × Value→H} {w:World} {base:Nat} {spare:Nat→Bool} {held:Bool}
end
end Go.Proofs.YtahdiiaadjdmcaaGreat
namespace Go.Proofs.YtahdiiaadjdmcaaGreat
open Go.RowKit Go.ChangeShapes Go.WideShapes Go.ChangeAt Go.Deep
section
variable {H:Type} {enc:TypeId × Value→H} {w:World} {base:Nat} {spare:Nat→Bool} {held:Bool}
theorem G7 {P:Program} {t:TypeId} {f0 f1 f2 f3 f4 f5:Field} {fuel:Nat} {cs:List Value} {x:DataW H × List MemPlace} (ht:P.underlying t=some (.struct #[f0,f1,f2,f3,f4,f5])) (h:DataW.trod enc P w base spare held fuel t cs=some x) :
 ∃ y0 y1 y2 y3 y4 y5 n,x.1=.agg [y0.1,y1.1,y2.1,y3.1,y4.1,y5.1]∧cs.length=P.cellsOf t∧DataW.trod enc P w base spare held n f0.type ((cs.drop f0.offset).take (P.cellsOf f0.type))=some y0∧
  DataW.trod enc P w base spare held n f1.type ((cs.drop f1.offset).take (P.cellsOf f1.type))=some y1∧DataW.trod enc P w base spare held n f2.type ((cs.drop f2.offset).take (P.cellsOf f2.type))=some y2∧
  DataW.trod enc P w base spare held n f3.type ((cs.drop f3.offset).take (P.cellsOf f3.type))=some y3∧DataW.trod enc P w base spare held n f4.type ((cs.drop f4.offset).take (P.cellsOf f4.type))=some y4∧
  DataW.trod enc P w base spare held n f5.type ((cs.drop f5.offset).take (P.cellsOf f5.type))=some y5:=by
 obtain ⟨xs,n,_,rfl,hl,cZ,hf⟩:=DataW.trod_struct ht h
 match xs,cZ with
 | [y0,y1,y2,y3,y4,y5],_=>exact ⟨y0,y1,y2,y3,y4,y5,n,by simp,hl,by simpa using hf 0 f0 rfl,by simpa using hf 1 f1 rfl,by simpa using hf 2 f2 rfl,by simpa using hf 3 f3 rfl,by simpa using hf 4 f4 rfl,by simpa using hf 5 f5 rfl⟩
set_option maxRecDepth 100000 in
theorem Tz {fuel:Nat} {cs:List Value} {x:DataW H × List MemPlace} (h:DataW.trod enc Tryz.prog w base spare held fuel 25 cs=some x) :
 ∃ (s:SP) (L:Cv),cs=(bQ s L).toList∧cB w L.kA s.keep.length s.keep∧cB w L.sA s.side.length s.side∧cB w L.uA s.up.length s.up∧s.keep.length≤Rows.uptoBulk x.1∧s.side.length≤Rows.uptoBulk x.1∧s.up.length≤Rows.uptoBulk x.1:=by
 obtain ⟨y0,y1,y2,y3,y4,y5,m,hx,hl,h0,h1,h2,h3,h4,h5⟩:=G7 Tryz.underlying25 h
 have hc:Tryz.prog.cellsOf 25=6:=by kernel_rfl
 rw [hc] at hl
 match cs,hl with
 |[c0,c1,c2,c3,c4,c5],_=>
  have e0:Tryz.prog.cellsOf 22=1:=by kernel_rfl
  have e1:Tryz.prog.cellsOf 3=1:=by kernel_rfl
  have e2:Tryz.prog.cellsOf 23=1:=by kernel_rfl
  simp only [e0,e1,e2,List.drop_zero,List.drop_succ_cons,List.take_succ_cons,List.take_zero] at h0 h1 h2 h3 h4 h5
  obtain ⟨k,hk,-,-⟩:=DataW.trod_int Tryz.underlying22 h0
  obtain ⟨q,hq,-,-⟩:=DataW.trod_int Tryz.underlying3 h1
  obtain ⟨A2,n2,c2',x2,hr2,g2,-,l2,-⟩:=open_ints' Tryz.underlying23 h2
  obtain ⟨A3,n3,c3',x3,hr3,g3,-,l3,-⟩:=open_ints' Tryz.underlying23 h3
  obtain ⟨A4,n4,c4',x4,hr4,g4,-,l4,-⟩:=open_ints' Tryz.underlying23 h4
  obtain ⟨p,hp,-,-⟩:=DataW.trod_int Tryz.underlying3 h5
  simp only [List.cons.injEq,and_true] at hk hq hr2 hr3 hr4 hp
  subst hk;subst hq;subst hr2;subst hr3;subst hr4;subst hp
  have k2:=g2.len
  have k3:=g3.len
  have k4:=g4.len
  subst k2
  subst k3
  subst k4
  refine ⟨⟨k,q,x2,x3,x4,p⟩,⟨A2,c2',A3,c3',A4,c4'⟩,rfl,g2,g3,g4,?_,?_,?_⟩ <;> (rw [hx];simp only [Rows.uptoBulk,Rows.uptoBulkAll];omega)
end
end Go.Proofs.YtahdiiaadjdmcaaGreat
