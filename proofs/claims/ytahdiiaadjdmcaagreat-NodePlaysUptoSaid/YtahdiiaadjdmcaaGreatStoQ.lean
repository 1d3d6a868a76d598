import Derived.Test.YtahdiiaadjdmcaaGreatGbL
namespace Go.Proofs.YtahdiiaadjdmcaaGreat
open Go.RowKit
structure aY where
 width:Nat
 most:Nat
 gs:List (List Nat)
 rows:List (List V)
 old:Option (List (List V))
def lO:mY→Bool
 | .put ..=>true
 | .drop ..=>false
def A0 (b:Bool) (U:List mY):Bool:=U.foldl (fun _ z=>lO z) b
def lM (U:List mY):Bool:=A0 false U
def uB:Bool→List mY→Nat
 | _,[]=>0
 | b,z :: l=>(if lO z && !b then 1 else 0)+uB (lO z) l
def eH (U:List mY):Nat:=uB false U
theorem yH (z:mY):∀ (b:Bool) (U:List mY),uB b (U ++ [z])=uB b U+(if lO z && !A0 b U then 1 else 0)
 | b,[]=>by simp [uB,A0]
 |b,y :: U=>by
  show (if lO y && !b then 1 else 0)+uB (lO y) (U ++ [z])=((if lO y && !b then 1 else 0)+uB (lO y) U)+(if lO z && !A0 (lO y) U then 1 else 0)
  rw [yH z (lO y) U,Nat.add_assoc]
theorem rY (U:List mY) (z:mY):eH (U ++ [z])=eH U+(if lO z && !lM U then 1 else 0):=yH z false U
theorem tW (U:List mY) (z:mY):lM (U ++ [z])=lO z:=by simp [lM,A0]
def Ey (U:List mY):Nat:=eH U+if lM U then 0 else 1
theorem wl (U:List mY) {z:mY} (hz:lO z=true):Ey (U ++ [z])=Ey U:=by
 unfold Ey
 rw [rY,tW,hz]
 cases lM U <;> simp
theorem Jb (U:List mY) {z:mY} (hz:lO z=true):eH (U ++ [z])=Ey U:=by
 unfold Ey
 rw [rY,hz]
 cases lM U <;> simp
theorem wJ (U:List mY) {z:mY} (hz:lO z=false):eH (U ++ [z])=eH U:=by rw [rY,hz];rfl
theorem zH (U:List mY):eH U≤Ey U∧Ey U≤eH U+1:=by unfold Ey;split <;> omega
theorem yd (U:List mY) (z:mY):eH U≤eH (U ++ [z]):=by rw [rY];omega
def gN (N:Nat):Nat:=N / 262144
theorem kJ {N M:Nat} (h:N≤M):gN N≤gN M:=Nat.div_le_div_right h
theorem Yq (N:Nat) {m:Nat} (h:262144≤m):gN N+1≤gN (N+m):=by unfold gN;omega
theorem Ra {N:Nat} (h:N≤8796093022208):gN N≤33554432:=by unfold gN;omega
def nU (wd most:Nat) (P:List aS):Prop:=(∀ p∈P,aV wd p.2=true∧dP p.2∧uH p.2)∧(P.map (·.2)).Nodup∧P.length≤most
inductive qE (G:List aS→Prop) (gs:List (List Nat)) (P0:List aS) (F0:List Nat):List mY→List aS→List Nat→Prop
 | nil:qE G gs P0 F0 [] P0 F0
 | put {U:List mY} {P:List aS} {F:List Nat} {s:Nat} {r:List V} {A:Option Addr} {n c:Nat}:qE G gs P0 F0 U P (s :: F)→qE G gs P0 F0 (U ++ [.put r A n c]) (P ++ [(s,r)]) F
 | drop {U:List mY} {P1 P2:List aS} {F:List Nat} {s:Nat} {r:List V} {A:Option Addr} {n c:Nat} {H:Option Addr} {m d:Nat}:G (P1 ++ (s,r) :: P2)→qE G gs P0 F0 U (P1 ++ (s,r) :: P2) F→qE G gs P0 F0 (U ++ [.drop r A n c (eC gs r P2) H m d]) (P1 ++ P2) (s :: F)
theorem qE.nil_inv {G:List aS→Prop} {gs:List (List Nat)} {P0 P:List aS} {F0 F:List Nat} {U:List mY} (h:qE G gs P0 F0 U P F) (hU:U=[]):P=P0∧F=F0:=by
 cases h with
 | nil=>exact ⟨rfl,rfl⟩
 | put h=>simp at hU
 | drop _ h=>simp at hU
theorem qE.put_inv {G:List aS→Prop} {gs:List (List Nat)} {P0 P:List aS} {F0 F:List Nat} {U0 U:List mY} {r:List V} {A:Option Addr} {n c:Nat} (h:qE G gs P0 F0 U0 P F) (hU:U0=U ++ [.put r A n c]):∃ P' s,P=P' ++ [(s,r)]∧qE G gs P0 F0 U P' (s :: F):=by
 cases h with
 | nil=>simp at hU
 |put h=>
  obtain ⟨e1,e2⟩:=List.append_inj' hU rfl
  subst e1
  injection e2 with e2
  injection e2 with e2 e3 e4 e5
  subst e2
  exact ⟨_,_,rfl,h⟩
 |drop hg h=>
  obtain ⟨e1,e2⟩:=List.append_inj' hU rfl
  injection e2 with e2
  cases e2
theorem qE.drop_inv {G:List aS→Prop} {gs:List (List Nat)} {P0 P:List aS} {F0 F:List Nat} {U0 U:List mY} {r:List V} {A:Option Addr} {n c:Nat} {ah:List Int} {H:Option Addr} {m d:Nat} (h:qE G gs P0 F0 U0 P F) (hU:U0=U ++ [.drop r A n c ah H m d]):∃ P1 P2 s F',P=P1 ++ P2∧F=s :: F'∧ah=eC gs r P2∧G (P1 ++ (s,r) :: P2)∧qE G gs P0 F0 U (P1 ++ (s,r) :: P2) F':=by
 cases h with
 | nil=>simp at hU
 |put h=>
  obtain ⟨e1,e2⟩:=List.append_inj' hU rfl
  injection e2 with e2
  cases e2
 |drop hg h=>
  obtain ⟨e1,e2⟩:=List.append_inj' hU rfl
  subst e1
  injection e2 with e2
  injection e2 with e2 e3 e4 e5 e6 e7 e8 e9
  subst e2
  exact ⟨_,_,_,_,rfl,rfl,e6.symm,hg,h⟩
def kF (N:Nat):Nat:=N*262144
theorem j3 (N:Nat) {m:Nat} (h:1≤m):kF N+262144≤kF (N+m):=by unfold kF;omega
theorem mD {N:Nat} (h:N≤8796093022208):kF N≤2305843009213693952:=by unfold kF;omega
structure jS (v:bI) (D:Nat→List (List V × Nat)) (N:Nat) (P0:List aS) (F0:List Nat):Prop where
 row:dB v
 lan:eF v.L v.gs v.G v.cont v.sL v.lL v.lrefs D (fun _=>v.P)
 gen:gK v.sl v.sL (gN N - eH v.U)
 pu:eH v.U≤gN N
 K:v.K+64*v.U.length≤kF N
 ul:v.U.length≤N
 hist:qE (nU v.width v.most) v.gs P0 F0 v.U v.P (fJ v.most v.sl v.fr)
 idle:v.marked=false→v.U=[]∧v.un=[]∧v.uA=none∧v.uC=0
structure zE (S:aY) (x:Nat) (v:bI) (P0:List aS):Prop where
 x:v.x=x
 width:S.width=v.width
 most:S.most=v.most
 gs:S.gs=v.gs
 rows:S.rows=v.P.map (·.2)
 mark:v.marked=S.old.isSome
 old:∀ o,S.old=some o→o=P0.map (·.2)
def kK (w:World) (B:Nat→Prop) (x:Nat) (S:aY) (N:Nat):Prop:=
 ∃ lab v D P0 F0,cW w lab v∧(∀ b,lab.dom b→B b)∧zE S x v P0∧jS v D N P0 F0
def pA (w:World) (B:Nat→Prop) (x:Nat) (S:aY) (N:Nat) (w':World):Prop:=
 ∃ B',kK w' B' x S N∧(∀ b,B' b→B b∨w.heap.size≤b)∧(∀ b,B' b→b<w'.heap.size)∧aF B w w'
theorem jS.at_ {v:bI} {D:Nat→List (List V × Nat)} {N:Nat} {P0:List aS} {F0:List Nat} (h:jS v D N P0 F0):oD v D (gN N):=
 ⟨h.row,h.lan,⟨fun i=>Nat.le_trans (h.gen.s i) (Nat.sub_le _ _),fun i=>Nat.le_trans (h.gen.L i) (Nat.sub_le _ _)⟩⟩
theorem kK.ext {w w':World} {B:Nat→Prop} {x:Nat} {S:aY} {N:Nat} (h:kK w B x S N) (hw:aD w w'):kK w' B x S N:=by
 obtain ⟨lab,v,D,P0,F0,h1,h2⟩:=h
 exact ⟨lab,v,D,P0,F0,h1.ext hw,h2⟩
theorem kK.chg {w w':World} {B C:Nat→Prop} {x:Nat} {S:aY} {N:Nat} (h:kK w B x S N) (hw:aF C w w') (hC:∀ g,B g→¬ C g):kK w' B x S N:=by
 obtain ⟨lab,v,D,P0,F0,h1,h2,h3⟩:=h
 exact ⟨lab,v,D,P0,F0,h1.chg hw fun g hg=>hC g (h2 g hg),h2,h3⟩
theorem pA.of {w w':World} {B:Nat→Prop} {x:Nat} {S:aY} {N:Nat} {lab:aP} {v':bI} {D:Nat→List (List V × Nat)} {P0:List aS} {F0:List Nat} (hB:∀ b,lab.dom b→B b) (h:fK w lab w' v') (he:zE S x v' P0) (ho:jS v' D N P0 F0):pA w B x S N w':=by
 obtain ⟨lab',h1,h2,h3⟩:=h
 exact ⟨lab'.dom,⟨lab',v',D,P0,F0,h1,fun b hb=>hb,he,ho⟩,fun b hb=>(h2 b hb).imp (hB b) id,fun b ⟨i,hi⟩=>h1.lt b i hi,h3.mono fun g hg _=>hB g hg⟩
theorem xX.sti {w:World} {lab:aP} {v:bI} {x width most:Nat} {gs:List (List Nat)} (h:cW w lab v) (hf:xX v x width most gs) (hw:width≤30) (hm:1≤most∧most≤65536) (hg:gs.length≤4) (O0:∀ g∈gs,g.length≤30∧∀ c∈g,c<width):kK w lab.dom x ⟨width,most,gs,[],none⟩ 262144:=by
 have ha:=hf.at_ hw hm hg O0
 refine ⟨lab,v,_,[],fJ v.most v.sl v.fr,h,fun _ hb=>hb,⟨hf.x,hf.width.symm,hf.most.symm,hf.gs.symm,by rw [hf.P];rfl,hf.marked,fun o ho=>(by cases ho)⟩,ha.row,ha.lan,?_,?_,?_,?_,?_,fun _=>⟨hf.U,hf.un,hf.uA,hf.uC⟩⟩
 ·rw [hf.U];exact ha.gen
 ·rw [hf.U];exact Nat.zero_le _
 ·rw [hf.U,hf.K];decide
 ·rw [hf.U];exact Nat.zero_le _
 ·rw [hf.U,hf.P];exact .nil
theorem jS.tick {v:bI} {D:Nat→List (List V × Nat)} {N:Nat} {P0:List aS} {F0:List Nat} (h:jS v D N P0 F0) (k m:Nat) (hk:k≤1024) (hm:1≤m):jS (v.tick k) D (N+m) P0 F0:=by
 have hr:=h.row
 refine ⟨⟨hr.width,hr.most,hr.gsl,hr.gs,hr.rows,hr.slots,hr.vals,hr.alive,hr.lv,hr.refs,hr.ents,hr.gx⟩,h.lan,⟨fun i=>?_,fun i=>?_⟩,Nat.le_trans h.pu (kJ (Nat.le_add_right _ _)),?_,?_,h.hist,h.idle⟩
 ·exact Nat.le_trans (h.gen.s i) (by show gN N - eH v.U≤gN (N+m) - eH v.U;have:=kJ (Nat.le_add_right N m);omega)
 ·exact Nat.le_trans (h.gen.L i) (by show gN N - eH v.U≤gN (N+m) - eH v.U;have:=kJ (Nat.le_add_right N m);omega)
 ·have h1:=h.K;have h2:=j3 N hm;show v.K+k+64*v.U.length≤kF (N+m);omega
 ·exact Nat.le_trans h.ul (Nat.le_add_right _ _)
def Rc (w:World) (B:Nat→Prop) (x:Nat) (S:aY) (N:Nat):Prop:=
 ∃ lab v D P0 F0 Y,cW w lab v∧(∀ b,lab.dom b→B b)∧zE S x v P0∧jS v D N P0 F0∧gK v.sl v.sL Y∧Y+Ey v.U≤gN N
def Eb (w:World) (B:Nat→Prop) (x:Nat) (S:aY) (N:Nat) (w':World):Prop:=
 ∃ B',Rc w' B' x S N∧(∀ b,B' b→B b∨w.heap.size≤b)∧(∀ b,B' b→b<w'.heap.size)∧aF B w w'
theorem Rc.sti {w:World} {B:Nat→Prop} {x:Nat} {S:aY} {N:Nat} (h:Rc w B x S N):kK w B x S N:=by
 obtain ⟨lab,v,D,P0,F0,Y,h1,h2,h3,h4,h5⟩:=h
 exact ⟨lab,v,D,P0,F0,h1,h2,h3,h4⟩
theorem Eb.sts {w w':World} {B:Nat→Prop} {x:Nat} {S:aY} {N:Nat} (h:Eb w B x S N w'):pA w B x S N w':=by
 obtain ⟨B',h1,h2⟩:=h
 exact ⟨B',h1.sti,h2⟩
theorem Eb.of {w w':World} {B:Nat→Prop} {x:Nat} {S:aY} {N Y:Nat} {lab:aP} {v':bI} {D:Nat→List (List V × Nat)} {P0:List aS} {F0:List Nat} (hB:∀ b,lab.dom b→B b) (h:fK w lab w' v') (he:zE S x v' P0) (ho:jS v' D N P0 F0) (hy:gK v'.sl v'.sL Y∧Y+Ey v'.U≤gN N):Eb w B x S N w':=by
 obtain ⟨lab',h1,h2,h3⟩:=h
 exact ⟨lab'.dom,⟨lab',v',D,P0,F0,Y,h1,fun b hb=>hb,he,ho,hy⟩,fun b hb=>(h2 b hb).imp (hB b) id,fun b ⟨i,hi⟩=>h1.lt b i hi,h3.mono fun g hg _=>hB g hg⟩
theorem Rc.chg {w w':World} {B C:Nat→Prop} {x:Nat} {S:aY} {N:Nat} (h:Rc w B x S N) (hw:aF C w w') (hC:∀ g,B g→¬ C g):Rc w' B x S N:=by
 obtain ⟨lab,v,D,P0,F0,Y,h1,h2,h3⟩:=h
 exact ⟨lab,v,D,P0,F0,Y,h1.chg hw fun g hg=>hC g (h2 g hg),h2,h3⟩
theorem kK.stp {w:World} {B:Nat→Prop} {x:Nat} {S:aY} {N:Nat} (h:kK w B x S N):Rc w B x S (N+262144):=by
 obtain ⟨lab,v,D,P0,F0,h1,h2,h3,h4⟩:=h
 have h5:=h4.tick 0 262144 (by omega) (by omega)
 refine ⟨lab,v.tick 0,D,P0,F0,gN N - eH v.U,h1.tick 0,h2,?_,h5,h4.gen,?_⟩
 ·exact ⟨h3.x,h3.width,h3.most,h3.gs,h3.rows,h3.mark,h3.old⟩
 ·show gN N - eH v.U+Ey v.U≤gN (N+262144)
  have h6:=Yq N (Nat.le_refl 262144)
  have h7:=h4.pu
  have h8:=zH v.U
  omega
theorem zE.tick {S:aY} {x:Nat} {v:bI} {P0:List aS} (h:zE S x v P0) (k:Nat):zE S x (v.tick k) P0:=⟨h.x,h.width,h.most,h.gs,h.rows,h.mark,h.old⟩
theorem pC.spec {v:bI} (hr:dB v) {r:List V} (hwf:uH r) {o:Option Int} (h:pC v r o):(∀ z,o=some z→∃ s:Nat,z=s∧(s,r)∈v.P)∧(o=none→r∉v.P.map (·.2)):=by
 unfold pC at h
 split at h
 ·rename_i hf
  have uU:∀ p∈v.P,cQ p.2=true∧uH p.2:=fun p hp=>by
   have h1:=hr.rows p hp
   have h2:=h1.1
   unfold aV at h2
   rw [Bool.and_eq_true] at h2
   exact ⟨h2.2,h1.2.2⟩
  unfold aV at hf
  rw [Bool.and_eq_true] at hf
  refine ⟨fun z hz=>?_,fun hn hm=>?_⟩
  ·obtain ⟨p,hp,e⟩:=List.mem_map.1 (hr.ents.mem_iff.1 (h.1 z hz))
   injection e with e1 e2
   have h1:=uU p hp
   obtain rfl:=Ba h1.1 h1.2 hf.2 hwf e1
   exact ⟨p.1,e2.symm,hp⟩
  ·obtain ⟨p,hp,rfl⟩:=List.mem_map.1 hm
   exact h.2 hn _ (hr.ents.mem_iff.2 (List.mem_map.2 ⟨p,hp,rfl⟩))
 ·rename_i hf
  subst h
  refine ⟨fun z hz=>(by cases hz),fun _ hm=>?_⟩
  obtain ⟨p,hp,rfl⟩:=List.mem_map.1 hm
  exact hf (hr.rows p hp).1
theorem cW.adopt {w:World} {lab:aP} {v:bI} (h:cW w lab v) {C:Nat→Prop} (hC:∀ b,C b→b<w.heap.size∧¬ lab.dom b):cW w (lab.with_ 8 C) v:=by
 have bC:∀ b i,lab.with_ 8 C b=some i→b<w.heap.size:=fun b i hb=>(aP.with_dom ⟨i,hb⟩).elim (fun h1=>(hC b h1).1) fun ⟨k,hk⟩=>h.lt b k hk
 exact ⟨bC,fun i=>kE (fun b hb=>aP.with_old (fun b hb=>(hC b hb).2) hb) (fun b hb=>bC b _ hb) i (h.part i)⟩
theorem cW.push {w w8:World} {lab:aP} {v:bI} (h:cW w lab v) {u:Value} {z:mY} (hz:oM w (lab.own 8) v.x u z) {A8:Option Addr} {c8:Nat} (own8:aJ w8 (fun b=>lab.own 0 b∨b=w.heap.size) 1 1 (v.un.length+1) (.slice A8 (v.un.length+1) c8) (v.un ++ [u])) (G8:w.grownBy w8 (Value.slice v.uA v.un.length v.uC).ownBlock) (C8:aF (lab.own 0) w w8) :
 fK w lab (w8.setCell ⟨v.x,12,none⟩ (.slice A8 (v.un.length+1) c8)) {v with uA:=A8,uC:=c8,un:=v.un ++ [u],U:=v.U ++ [z]}:=by
 obtain ⟨hx,y6,It,o6⟩:=h.part 0
 have hC:aF (lab.own 0) w (w8.setCell ⟨v.x,12,none⟩ (.slice A8 (v.un.length+1) c8)):=C8.setCell (p:=⟨v.x,12,none⟩) (.inl y6) _
 have Vq:=hx.grown G8 (aN o6.own hx (by decide))
 have aZ:∀ b,lab.own 8 b→¬ lab.own 0 b:=fun b h1 h2=>by
  have h6:some 8=some 0:=h1.symm.trans h2
  injection h6 with h6
  omega
 have o9:=own8.far Vq (by decide) 12 (.slice A8 (v.un.length+1) c8)
 refine h.chg1 0 (B':=fun b=>(lab.own 0 b∨b=w.heap.size)∧b<(w8.setCell ⟨v.x,12,none⟩ (.slice A8 (v.un.length+1) c8)).heap.size) (fun b hb=>hb.1.imp id fun e=>by omega) (fun b hb=>hb.2) hC (fun i hi=>?_) ?_
 ·match i,hi with
  | 0,hi=>exact absurd rfl hi
  | 1,_=>exact id
  | 2,_=>exact id
  | 3,_=>exact id
  | 4,_=>exact id
  | 5,_=>exact id
  | 6,_=>exact id
  | 7,_=>exact id
  |8,_=>
   rintro ⟨h1,h2,h3⟩
   refine ⟨h1,by simp [h2],fun i u' z' hu hz'=>?_⟩
   have h2':v.U.length=v.un.length:=h2
   rcases Nat.lt_or_ge i v.un.length with hi | hi
   ·have hu':(v.un ++ [u])[i]?=some u':=hu
    have eO:(v.U ++ [z])[i]?=some z':=hz'
    rw [List.getElem?_append_left hi] at hu'
    rw [List.getElem?_append_left (by omega)] at eO
    exact h3 i u' z' hu' eO
   ·have hu':(v.un ++ [u])[i]?=some u':=hu
    have eO:(v.U ++ [z])[i]?=some z':=hz'
    rw [List.getElem?_append_right hi] at hu'
    rw [List.getElem?_append_right (by omega)] at eO
    have eQ:i - v.un.length=0:=by
     have:=(List.getElem?_eq_some_iff.1 hu').1
     simp at this;omega
    rw [eQ] at hu'
    rw [h2',eQ] at eO
    obtain rfl:u=u':=by simpa using hu'
    obtain rfl:z=z':=by simpa using eO
    exact hz.chg hC aZ
  | 9,_=>exact id
  | m+10,_=>exact id
 ·refine ⟨?_,⟨.inl y6,aL.lt (Vq.set_ 12 _)⟩,?_,?_⟩
  ·have h9:=Vq.set_ 12 (.slice A8 (v.un.length+1) c8)
   have e:v.cells.setIfInBounds 12 (.slice A8 (v.un.length+1) c8)=({v with uA:=A8,uC:=c8,un:=v.un ++ [u],U:=v.U ++ [z]}:bI).cells:=by
    simp only [bI.cells,bI.L,List.length_append,List.length_singleton]
    rfl
   rw [e] at h9
   exact h9
  ·have zb7:=((It.grown o6.own (by decide) G8).far Vq (by decide) 12 (.slice A8 (v.un.length+1) c8))
   exact ⟨zb7.own,fun g hg=>⟨.inl (It.inB g hg),zb7.lt g hg⟩⟩
  ·have o10:aJ (w8.setCell ⟨v.x,12,none⟩ (.slice A8 (v.un.length+1) c8)) (fun b=>(lab.own 0 b∨b=w.heap.size)∧b<(w8.setCell ⟨v.x,12,none⟩ (.slice A8 (v.un.length+1) c8)).heap.size) 1 1 (v.un ++ [u]).length (.slice A8 (v.un ++ [u]).length c8) (v.un ++ [u]):=by
    rw [List.length_append,List.length_singleton]
    exact ⟨o9.own,fun g hg=>⟨o9.inB g hg,o9.lt g hg⟩⟩
   exact o10
end Go.Proofs.YtahdiiaadjdmcaaGreat
