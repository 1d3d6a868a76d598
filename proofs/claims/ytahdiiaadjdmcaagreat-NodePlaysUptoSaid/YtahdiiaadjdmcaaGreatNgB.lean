import Derived.Test.YtahdiiaadjdmcaaGreatNgA
import Derived.Test.YtahdiiaadjdmcaaGreatGbC
namespace Go.Proofs.YtahdiiaadjdmcaaGreat
open Go.RowKit
def r8 (x:ByteArray):Lit:=.string x.data.toList
theorem I8 {x y:ByteArray} (h:r8 x=r8 y):x=y:=by
 unfold r8 at h
 injection h with h
 obtain ⟨x⟩:=x;obtain ⟨y⟩:=y
 exact congrArg ByteArray.mk (Array.toList_inj.1 h)
theorem Lh (x:ByteArray):WideAt.IsKeyLit (r8 x):=by unfold r8 WideAt.IsKeyLit;trivial
theorem Nh:Maps.Keyed Tryz.prog 9:=Maps.string_keyed Tryz.underlying9
theorem Hn {x:ByteArray} (h:x.size≤maxLen):keyOf Tryz.prog 9 (.string x)=some (r8 x):=WideMaps.keyOf_string_mk Tryz.underlying9 h
abbrev lX:Type:=ByteArray→Option Value
def lX.put (σ:lX) (x:ByteArray) (v:Value):lX:=fun y=>if y=x then some v else σ y
def lX.del (σ:lX) (x:ByteArray):lX:=fun y=>if y=x then none else σ y
def jB (w:World) (b n:Nat) (σ:lX):Prop:=
 ∃ D:DataW Value,w.ownsMap Tryz.prog 9 nO b n D∧∀ x,Maps.has D (r8 x)=(σ x).isSome∧∀ v,σ x=some v→∀ z,D.atKey (r8 x) z=.held v
theorem jB.made (w:World):jB (w.alloc (.map #[] 0)) w.heap.size 0 (fun _=>none):=
 ⟨_,World.ownsMap_made w _ _ _,fun x=>⟨rfl,fun v h=>by cases h⟩⟩
theorem jB.block {w w':World} {b n:Nat} {σ:lX} (h:jB w b n σ) (hb:w'.heap[b]?=w.heap[b]?):jB w' b n σ:=by
 obtain ⟨D,⟨es,clock,h1,h3⟩,h2⟩:=h
 exact ⟨D,⟨es,clock,hb.trans h1,h3⟩,h2⟩
theorem jB.lt {w:World} {b n:Nat} {σ:lX} (h:jB w b n σ):b<w.heap.size:=by
 obtain ⟨D,⟨es,clock,h1,h3⟩,h2⟩:=h
 rcases Nat.lt_or_ge b w.heap.size with bC | sR
 ·exact bC
 ·rw [Array.getElem?_eq_none sR] at h1;cases h1
theorem jB.ext {w w':World} {b n:Nat} {σ:lX} (h:jB w b n σ) (hw:aD w w'):jB w' b n σ:=h.block (hw.block h.lt)
theorem jB.setCell {w:World} {b n:Nat} {σ:lX} (h:jB w b n σ) {p:Addr} (hp:b≠p.block) (u:Value):jB (w.setCell p u) b n σ:=h.block (Below.heap_setCell _ _ _ _ hp)
theorem jB.ne_blk {w:World} {b n g:Nat} {σ:lX} {t:TypeId} {cs:Array Value} (h:jB w b n σ) (hb:aL w g t cs):b≠g:=fun e=>by
 subst e
 obtain ⟨D,⟨es,clock,h1,h3⟩,h2⟩:=h
 unfold aL at hb
 rw [h1] at hb
 cases hb
section
variable {w:World} {ops:Array Oper} {rest:List Oper} {o:Oper} {a:Act} {Q:Exit→Act→World→Prop}
theorem lG (hg:o.guard=none) (m x v:Operand) (t e:TypeId) (Vp:o.op=Op.mapUpdate t m x v) (ht:Tryz.prog.underlying t=some (.map 9 e))
 (b n:Nat) (σ:lX) (hm:a.eval m=.map (some b)) (cH:jB w b n σ) (hn:n<maxLen) (k:ByteArray) (val:Value) (hx:a.eval x=.string k) (hv:a.eval v=val) (hk:k.size≤maxLen)
 (hK:∀ w',Hid (jB w' b (n+1) (σ.put k val))→Hid (w.mapTurned w' b)→wpList Tryz.prog ops Q rest (a.put o.dst undef) w'):wpList Tryz.prog ops Q (o :: rest) a w:=by
 obtain ⟨D,h1,h2⟩:=cH
 refine wpList_mapUpdate_in w hg m x v t Vp 9 e Nh ht nO b n D hm h1 hn (.string k) val (r8 k) hx hv (Hn hk) (.held val) [] rfl fun w' h3 h4=>hK w' ⟨_,h3,fun y=>?_⟩ h4
 by_cases hy:y=k
 ·subst hy
  simp only [lX.put,if_true]
  refine ⟨?_,fun v hv z=>?_⟩
  ·rw [Maps.has_put_same h1.isMap (Lh y)];rfl
  ·have Nf:val=v:=Option.some.inj hv
   rw [Maps.atKey_put_same h1.isMap (Lh y),Nf]
 ·have aZ:r8 y≠r8 k:=fun e=>hy (I8 e)
  simp only [lX.put,hy,if_false]
  exact ⟨by rw [Maps.has_put_other aZ];exact (h2 y).1,fun v hv z=>by rw [Maps.atKey_put_other aZ];exact (h2 y).2 v hv z⟩
theorem yP (hg:o.guard=none) (m x:Operand) (t e:TypeId) (Vp:o.op=Op.call {callee:=Callee.builtin Builtin.delete,args:=#[m,x],argTypes:=#[t,9]}) (ht:Tryz.prog.underlying t=some (.map 9 e))
 (b n:Nat) (σ:lX) (hm:a.eval m=.map (some b)) (cH:jB w b n σ) (k:ByteArray) (hx:a.eval x=.string k) (hk:k.size≤maxLen)
 (hK:∀ w',Hid (jB w' b n (σ.del k))→Hid (w.mapTurned w' b)→wpList Tryz.prog ops Q rest (a.put o.dst (.tuple #[])) w'):wpList Tryz.prog ops Q (o :: rest) a w:=by
 obtain ⟨D,h1,h2⟩:=cH
 refine wpList_delete_own w hg m x t 9 Vp e Nh ht nO b n D hm h1 (.string k) (r8 k) hx (Hn hk) fun w' h3 h4=>hK w' ⟨_,h3,fun y=>?_⟩ h4
 by_cases hy:y=k
 ·subst hy
  simp only [lX.del,if_true]
  exact ⟨Maps.has_del_same,fun v hv=>by cases hv⟩
 ·have aZ:r8 y≠r8 k:=fun e=>hy (I8 e)
  simp only [lX.del,hy,if_false]
  exact ⟨by rw [Maps.has_del_other aZ];exact (h2 y).1,fun v hv z=>by rw [Maps.atKey_del_other aZ];exact (h2 y).2 v hv z⟩
end
structure aR where
 now:cR
 old:Option cR
structure eT where
 n:Nat
 l:Nat
 k:Nat
 kA:Option Addr
 kC:Nat
 sA:Option Addr
 sC:Nat
 uA:Option Addr
 uC:Nat
 x1:Nat
 x2:Nat
 x3:Nat
 m1:Nat
 m2:Value
abbrev ptr (x:Nat):Value:=.pointer (some ⟨x,0,none⟩)
def Ky (K:NK) (v:eT):Array Value:=#[.int .i64 K.kind,.int .i64 K.inn,.slice v.kA K.keep.length v.kC,.slice v.sA K.side.length v.sC,.slice v.uA K.up.length v.uC,.int .i64 K.most,ptr v.x1]
def cI (K:NK):TypeId:=if K.kind=2 then 105 else if K.kind=3 then 91 else 117
def lN (K:NK):TypeId:=if K.kind=2 then 110 else if K.kind=3 then 93 else 119
def jO (K:NK) (v:eT):Array Value:=if K.kind=2 then #[ptr v.l,.map (some v.m1),v.m2] else if K.kind=3 then #[ptr v.l,ptr v.x2,ptr v.x3] else #[ptr v.l]
def S1 (K:NK) (a:aR):aY:=⟨K.width,K.most,[K.up],a.now.live,a.old.map (·.live)⟩
def S2 (K:NK) (a:aR):aY:=⟨K.inn,K.most,[K.side],a.now.ons,a.old.map (·.ons)⟩
def S3 (K:NK) (a:aR):aY:=⟨K.side.length,K.most,[],a.now.sides,a.old.map (·.sides)⟩
def n8 (l:List UInt8):ByteArray:=⟨l.toArray⟩
theorem Yd {l m:List UInt8} (h:n8 l=n8 m):l=m:=by
 unfold n8 at h
 injection h with h
 exact List.toArray_inj h
def gB (w:World) (B:Nat→Prop) (K:NK) (b N:Nat) (s:cR):Prop:=
 B b∧∃ n σ,n≤N∧jB w b n σ∧∀ own,yL K.width own→σ (n8 (pk own))=if bY s.ons s.cnt own=0 then none else some (.int .i64 (bY s.ons s.cnt own:Nat))
theorem gB.chg {w w':World} {B C:Nat→Prop} {K:NK} {b N:Nat} {s:cR} (h:gB w B K b N s) (hw:aF C w w') (hC:∀ g,B g→¬ C g):gB w' B K b N s:=by
 obtain ⟨h1,n,σ,h2,h3,h4⟩:=h
 exact ⟨h1,n,σ,h2,h3.block (hw.block b h3.lt (hC b h1)),h4⟩
theorem gB.mono {w:World} {B C:Nat→Prop} {K:NK} {b N M:Nat} {s:cR} (h:gB w B K b N s) (hC:∀ g,B g→C g) (hN:N≤M):gB w C K b M s:=by
 obtain ⟨h1,n,σ,h2,h3⟩:=h
 exact ⟨hC _ h1,n,σ,Nat.le_trans h2 hN,h3⟩
theorem kK.mono {w:World} {B C:Nat→Prop} {x:Nat} {S:aY} {N:Nat} (h:kK w B x S N) (hC:∀ g,B g→C g):kK w C x S N:=by
 obtain ⟨lab,v,D,P0,F0,h1,h2,h3⟩:=h
 exact ⟨lab,v,D,P0,F0,h1,fun b hb=>hC b (h2 b hb),h3⟩
theorem kK.more {w:World} {B:Nat→Prop} {x:Nat} {S:aY} {N:Nat} (h:kK w B x S N) {M:Nat} (hM:N≤M):kK w B x S M:=by
 rcases Nat.lt_or_ge N M with hl | hl
 ·obtain ⟨lab,v,D,P0,F0,h1,h2,h3,h4⟩:=h
  have h5:=h4.tick 0 (M - N) (by omega) (by omega)
  rw [show N+(M - N)=M by omega] at h5
  exact ⟨lab,v.tick 0,D,P0,F0,h1.tick 0,h2,h3.tick 0,h5⟩
 ·obtain rfl:N=M:=by omega
  exact h
theorem kK.lt {w:World} {B:Nat→Prop} {x:Nat} {S:aY} {N:Nat} (h:kK w B x S N):∃ B',kK w B' x S N∧(∀ b,B' b→B b)∧∀ b,B' b→b<w.heap.size:=by
 obtain ⟨lab,v,D,P0,F0,h1,h2,h3⟩:=h
 exact ⟨lab.dom,⟨lab,v,D,P0,F0,h1,fun _ hb=>hb,h3⟩,h2,fun b ⟨i,hi⟩=>h1.lt b i hi⟩
def jF (w:World) (B:Nat→Prop) (K:NK) (v:eT) (a:aR) (N:Nat):Nat→Prop
 | 0=>(aL w v.n 48 #[ptr v.l,.iface (cI K) (ptr v.k)]∧B v.n)∧(aL w v.l 90 (Ky K v)∧B v.l)∧(aL w v.k (lN K) (jO K v)∧B v.k)∧jX w B v.kA K.keep.length (K.keep.map Int.ofNat)∧jX w B v.sA K.side.length (K.side.map Int.ofNat)∧jX w B v.uA K.up.length (K.up.map Int.ofNat)
 | 2=>K.kind=3→kK w B v.x2 (S2 K a) N
 | 3=>K.kind=3→kK w B v.x3 (S3 K a) N
 | 4=>K.kind=2→gB w B K v.m1 N a.now
 | 5=>K.kind=2→∃ p,v.m2=.map p∧∀ o,a.old=some o→∃ b,p=some b∧gB w B K b N o
 | _=>True
theorem i8 {w w':World} {B C:Nat→Prop} {K:NK} {v:eT} {a:aR} {N:Nat} (hw:aF C w w') (hC:∀ g,B g→¬ C g):∀ i,jF w B K v a N i→jF w' B K v a N i
 | 0,⟨⟨h1,h2⟩,⟨h3,h4⟩,⟨h5,h6⟩,h7,h8,h9⟩=>⟨⟨hw.blk h1 (hC _ h2),h2⟩,⟨hw.blk h3 (hC _ h4),h4⟩,⟨hw.blk h5 (hC _ h6),h6⟩,h7.chg hw hC,h8.chg hw hC,h9.chg hw hC⟩
 | 1,_=>trivial
 | 2,h=>fun hk=>(h hk).chg hw hC
 | 3,h=>fun hk=>(h hk).chg hw hC
 | 4,h=>fun hk=>(h hk).chg hw hC
 |5,h=>fun hk=>by
  obtain ⟨p,h1,h2⟩:=h hk
  refine ⟨p,h1,fun o ho=>?_⟩
  obtain ⟨b,h3,h4⟩:=h2 o ho
  exact ⟨b,h3,h4.chg hw hC⟩
 | _+6,_=>trivial
theorem dV {w:World} {B C:Nat→Prop} {K:NK} {v:eT} {a:aR} {N M:Nat} (hC:∀ g,B g→C g) (hM:N≤M):∀ i,jF w B K v a N i→jF w C K v a M i
 | 0,⟨⟨h1,h2⟩,⟨h3,h4⟩,⟨h5,h6⟩,h7,h8,h9⟩=>⟨⟨h1,hC _ h2⟩,⟨h3,hC _ h4⟩,⟨h5,hC _ h6⟩,h7.mono hC,h8.mono hC,h9.mono hC⟩
 | 1,_=>trivial
 | 2,h=>fun hk=>((h hk).mono hC).more hM
 | 3,h=>fun hk=>((h hk).mono hC).more hM
 | 4,h=>fun hk=>(h hk).mono hC hM
 |5,h=>fun hk=>by
  obtain ⟨p,h1,h2⟩:=h hk
  refine ⟨p,h1,fun o ho=>?_⟩
  obtain ⟨b,h3,h4⟩:=h2 o ho
  exact ⟨b,h3,h4.mono hC hM⟩
 | _+6,_=>trivial
structure jD (w:World) (lab:aP) (K:NK) (v:eT) (a:aR) (N:Nat):Prop where
 lt:∀ b i,lab b=some i→b<w.heap.size
 part:∀ i,jF w (lab.own i) K v a N i
theorem jD.chg {w w':World} {C:Nat→Prop} {lab:aP} {K:NK} {v:eT} {a:aR} {N:Nat} (h:jD w lab K v a N) (hw:aF C w w') (hC:∀ g,lab.dom g→¬ C g):jD w' lab K v a N:=
 ⟨fun b i hb=>Nat.lt_of_lt_of_le (h.lt b i hb) hw.size,fun i=>i8 hw (fun g hg=>hC g ⟨i,hg⟩) i (h.part i)⟩
theorem jD.ext {w w':World} {lab:aP} {K:NK} {v:eT} {a:aR} {N:Nat} (h:jD w lab K v a N) (hw:aD w w'):jD w' lab K v a N:=h.chg (C:=fun _=>False) (aF.of hw) fun _ _ x=>x
theorem jD.more {w:World} {lab:aP} {K:NK} {v:eT} {a:aR} {N M:Nat} (h:jD w lab K v a N) (hM:N≤M):jD w lab K v a M:=⟨h.lt,fun i=>dV (fun _ h=>h) hM i (h.part i)⟩
theorem jD.turn {w w':World} {lab:aP} {K:NK} {v v':eT} {a a':aR} {N N':Nat} (h:jD w lab K v a N) (j:Nat) {B':Nat→Prop} (hB:∀ b,B' b→lab.own j b∨w.heap.size≤b) (hl:∀ b,B' b→b<w'.heap.size) (hC:aF (lab.own j) w w')
 (hs:∀ i,i≠j→jF w' (lab.own i) K v a N i→jF w' (lab.own i) K v' a' N' i) (hp:jF w' B' K v' a' N' j) :
 ∃ lab':aP,jD w' lab' K v' a' N'∧(∀ b,B' b→lab'.own j b)∧(∀ i,i≠j→lab'.own i=lab.own i)∧(∀ b,lab'.dom b→lab.dom b∨B' b)∧eU w lab w' lab':=by
 have bC:∀ b i,lab.grow w.heap.size j B' b=some i→b<w'.heap.size:=fun b i hb=>by
  unfold aP.grow at hb
  split at hb
  ·have:=hC.size;omega
  ·split at hb
   ·exact hl b (by assumption)
   ·cases hb
 have cH:∀ b,B' b→(lab.grow w.heap.size j B').own j b:=fun b hb=>by
  show lab.grow w.heap.size j B' b=some j
  unfold aP.grow
  rcases hB b hb with h1 | h1
  ·rw [if_pos (h.lt b _ h1)];exact h1
  ·rw [if_neg (by omega),if_pos hb]
 have zdM:∀ i,i≠j→(lab.grow w.heap.size j B').own i=lab.own i:=fun i hi=>by
  funext b
  unfold aP.own aP.grow
  apply propext
  split
  ·exact Iff.rfl
  ·split
   ·constructor
    ·intro h1;injection h1 with h1;exact absurd h1.symm hi
    ·intro h1;have:=h.lt b _ h1;omega
   ·constructor
    ·intro h1;cases h1
    ·intro h1;have:=h.lt b _ h1;omega
 have Wk:∀ b,(lab.grow w.heap.size j B').dom b→lab.dom b∨(B' b∧w.heap.size≤b):=fun b hb=>by
  obtain ⟨i,hi⟩:=hb
  unfold aP.grow at hi
  split at hi
  ·exact .inl ⟨i,hi⟩
  ·split at hi
   ·rename_i h1;exact .inr ⟨h1,by omega⟩
   ·cases hi
 refine ⟨lab.grow w.heap.size j B',⟨bC,fun i=>?_⟩,cH,zdM,fun b hb=>(Wk b hb).imp id And.left,fun b hb=>(Wk b hb).imp id And.right,hC.mono fun g hg _=>⟨j,hg⟩⟩
 by_cases hi:i=j
 ·subst hi
  exact dV cH (Nat.le_refl _) i hp
 ·rw [zdM i hi]
  exact hs i hi (i8 hC (fun g hg Mf=>hi (by
   have h1:some i=some j:=hg.symm.trans Mf
   injection h1)) i (h.part i))
theorem iA {lab:aP} {i j:Nat} (h:i≠j):∀ g,lab.own i g→¬ lab.own j g:=fun g hg Mf=>h (by
 have h1:some i=some j:=hg.symm.trans Mf
 injection h1)
structure fD (w:World) (lab:aP) (K:NK) (v:eT) (a:aR) (S:aY) (N:Nat):Prop where
 r:jD w lab K v a N
 s:kK w (lab.own 1) v.x1 S N
theorem fD.chg {w w':World} {C:Nat→Prop} {lab:aP} {K:NK} {v:eT} {a:aR} {S:aY} {N:Nat} (h:fD w lab K v a S N) (hw:aF C w w') (hC:∀ g,lab.dom g→¬ C g):fD w' lab K v a S N:=⟨h.r.chg hw hC,h.s.chg hw fun g hg=>hC g ⟨1,hg⟩⟩
theorem fD.ext {w w':World} {lab:aP} {K:NK} {v:eT} {a:aR} {S:aY} {N:Nat} (h:fD w lab K v a S N) (hw:aD w w'):fD w' lab K v a S N:=⟨h.r.ext hw,h.s.ext hw⟩
theorem fD.more {w:World} {lab:aP} {K:NK} {v:eT} {a:aR} {S:aY} {N M:Nat} (h:fD w lab K v a S N) (hM:N≤M):fD w lab K v a S M:=⟨h.r.more hM,h.s.more hM⟩
def Iu (w:World) (lab:aP) (K:NK) (v:eT) (a:aR) (S:aY) (N:Nat) (w':World):Prop:=∃ lab',fD w' lab' K v a S N∧eU w lab w' lab'
theorem Iu.pre {w w1 w2:World} {lab lab1:aP} {K:NK} {v:eT} {a:aR} {S:aY} {N:Nat} (hs:eU w lab w1 lab1) (h:Iu w1 lab1 K v a S N w2):Iu w lab K v a S N w2:=by
 obtain ⟨lab2,h1,h2⟩:=h
 exact ⟨lab2,h1,bB hs h2⟩
theorem wQ (w:World) (lab:aP):eU w lab w lab:=⟨fun _ h=>.inl h,aF.refl _ _⟩
theorem cM {w w':World} {lab:aP} (h:aD w w'):eU w lab w' lab:=⟨fun _ h=>.inl h,aF.of h⟩
theorem fD.live {w w':World} {lab:aP} {K:NK} {v:eT} {a:aR} {S S':aY} {N M:Nat} (h:fD w lab K v a S N) (hM:N≤M) (hs:pA w (lab.own 1) v.x1 S' M w'):Iu w lab K v a S' M w':=by
 obtain ⟨B',h1,h2,h3,h4⟩:=hs
 obtain ⟨lab',r1,r2,r3,r4,r5⟩:=h.r.turn 1 (v':=v) (a':=a) (N':=M) h2 h3 h4 (fun i hi hp=>dV (fun _ h=>h) hM i hp) trivial
 exact ⟨lab',⟨r1,h1.mono r2⟩,r5⟩
theorem fD.liveM {w w':World} {lab:aP} {K:NK} {v:eT} {a:aR} {S S':aY} {N M T:Nat} (h:fD w lab K v a S N) (hM:N≤M) (hs:Db w (lab.own 1) v.x1 S' M w' T):∃ lab',fD w' lab' K v a S' M∧eU w lab w' lab'∧(∀ b,lab'.dom b→b<T)∧w.heap.size≤T∧T≤w'.heap.size:=by
 obtain ⟨B',h1,h2,h3,h4,h5,h6⟩:=hs
 obtain ⟨lab',r1,r2,r3,r4,r5⟩:=h.r.turn 1 (v':=v) (a':=a) (N':=M) h2 (fun b hb=>by have:=h3 b hb;omega) h4 (fun i hi hp=>dV (fun _ h=>h) hM i hp) trivial
 exact ⟨lab',⟨r1,h1.mono r2⟩,r5,fun b hb=>(r4 b hb).elim (fun ⟨i,hi⟩=>by have:=h.r.lt b i hi;omega) (h3 b),h5,h6⟩
theorem fD.source {w w':World} {lab:aP} {K:NK} {v:eT} {a a':aR} {S:aY} {N M:Nat} (h:fD w lab K v a S N) (hk:K.kind=3) (hM:N≤M) (hs:pA w (lab.own 2) v.x2 (S2 K a') M w') (h3:S3 K a'=S3 K a):Iu w lab K v a' S M w':=by
 obtain ⟨B',h1,h2,h3',h4⟩:=hs
 have key:∀ i,i≠2→jF w' (lab.own i) K v a N i→jF w' (lab.own i) K v a' M i:=fun i hi hp=>by
  have hp:=dV (fun _ h=>h) hM i hp
  match i,hi,hp with
  | 0,_,hp=>exact hp
  | 1,_,hp=>exact trivial
  | 2,hi,hp=>exact absurd rfl hi
  | 3,hi,hp=>exact fun hk=>by rw [h3];exact hp hk
  | 4,_,_=>exact fun jT=>by omega
  | 5,_,_=>exact fun jT=>by omega
  | _+6,_,hp=>exact trivial
 obtain ⟨lab',r1,r2,r3,r4,r5⟩:=h.r.turn 2 (v':=v) (a':=a') (N':=M) h2 h3' h4 key (fun _=>h1)
 exact ⟨lab',⟨r1,by rw [r3 1 (by decide)];exact (h.s.chg h4 (iA (by decide))).more hM⟩,r5⟩
theorem fD.side {w w':World} {lab:aP} {K:NK} {v:eT} {a a':aR} {S:aY} {N M:Nat} (h:fD w lab K v a S N) (hk:K.kind=3) (hM:N≤M) (hs:pA w (lab.own 3) v.x3 (S3 K a') M w') (h3:S2 K a'=S2 K a):Iu w lab K v a' S M w':=by
 obtain ⟨B',h1,h2,h3',h4⟩:=hs
 have key:∀ i,i≠3→jF w' (lab.own i) K v a N i→jF w' (lab.own i) K v a' M i:=fun i hi hp=>by
  have hp:=dV (fun _ h=>h) hM i hp
  match i,hi,hp with
  | 0,_,hp=>exact hp
  | 1,_,hp=>exact trivial
  | 2,hi,hp=>exact fun hk=>by rw [h3];exact hp hk
  | 3,hi,hp=>exact absurd rfl hi
  | 4,_,_=>exact fun jT=>by omega
  | 5,_,_=>exact fun jT=>by omega
  | _+6,_,hp=>exact trivial
 obtain ⟨lab',r1,r2,r3,r4,r5⟩:=h.r.turn 3 (v':=v) (a':=a') (N':=M) h2 h3' h4 key (fun _=>h1)
 exact ⟨lab',⟨r1,by rw [r3 1 (by decide)];exact (h.s.chg h4 (iA (by decide))).more hM⟩,r5⟩
structure Vh (w:World) (B:Nat→Prop) (n:Nat) (K:NK) (a:aR) (N:Nat):Prop where
 ok:fN K
 now:iS K a.now
 old:∀ o,a.old=some o→iS K o
 at_:∃ lab v,fD w lab K v a (S1 K a) N∧v.n=n∧∀ b,lab.dom b→B b
theorem Vh.chg {w w':World} {B C:Nat→Prop} {n:Nat} {K:NK} {a:aR} {N:Nat} (h:Vh w B n K a N) (hw:aF C w w') (hC:∀ g,B g→¬ C g):Vh w' B n K a N:=by
 obtain ⟨lab,v,h1,h2,h3⟩:=h.at_
 exact ⟨h.ok,h.now,h.old,lab,v,h1.chg hw fun g hg=>hC g (h3 g hg),h2,h3⟩
theorem Vh.ext {w w':World} {B:Nat→Prop} {n:Nat} {K:NK} {a:aR} {N:Nat} (h:Vh w B n K a N) (hw:aD w w'):Vh w' B n K a N:=h.chg (C:=fun _=>False) (aF.of hw) fun _ _ x=>x
theorem jD.node {w:World} {lab:aP} {K:NK} {v:eT} {a:aR} {N:Nat} (h:jD w lab K v a N):aL w v.n 48 #[ptr v.l,.iface (cI K) (ptr v.k)]:=(h.part 0).1.1
theorem jD.lv {w:World} {lab:aP} {K:NK} {v:eT} {a:aR} {N:Nat} (h:jD w lab K v a N):aL w v.l 90 (Ky K v):=(h.part 0).2.1.1
theorem jD.wk {w:World} {lab:aP} {K:NK} {v:eT} {a:aR} {N:Nat} (h:jD w lab K v a N):aL w v.k (lN K) (jO K v):=(h.part 0).2.2.1.1
theorem jD.rows6 {w:World} {lab:aP} {K:NK} {v:eT} {a:aR} {N:Nat} (h:jD w lab K v a N):w.cell? ⟨v.l,6,none⟩=some (.pointer (some ⟨v.x1,0,none⟩)):=h.lv.cell 6
section
variable {w:World} {lab:aP} {K:NK} {v:eT} {a:aR} {S:aY} {N:Nat}
set_option maxRecDepth 100000 in
theorem qV (h:fD w lab K v a S N) (hN:N+1≤8796093022208) {r:List V} {A:Option Addr} {n:Nat} (c:Nat) (ha:bD w A n r) :
 Calls Tryz.prog 20 #[.pointer (some ⟨v.l,0,none⟩),.slice A n c] w fun e w'=>e=.returned (.bool (inB S.rows r))∧Iu w lab K v a S (N+1) w':=by
 have HS:=aA (Mo h.s (by omega) c ha)
 have a6:=h.r.rows6
 have HH:=aA h
 clear h ha
 go_enter Tryz.func20,Tryz.ntmps20
 go_wp2_with ((with_reducible refine HS.out.mono ?_);rintro e w2 ⟨rfl,h2⟩;have S2:=aA h2;clear h2)
 go_ret
 exact ⟨rfl,HH.out.live (Nat.le_add_right _ _) S2.out⟩
def Ul (w:World) (lab:aP) (K:NK) (v:eT) (a:aR) (S:aY) (N:Nat) (w':World) (T:Nat):Prop:=∃ lab',fD w' lab' K v a S N∧eU w lab w' lab'∧(∀ b,lab'.dom b→b<T)∧w.heap.size≤T∧T≤w'.heap.size
theorem Ul.ndt {w':World} {T:Nat} (h:Ul w lab K v a S N w' T):Iu w lab K v a S N w':=by
 obtain ⟨lab',h1,h2,h3⟩:=h
 exact ⟨lab',h1,h2⟩
set_option maxRecDepth 100000 in
theorem Rt (h:fD w lab K v a S N) :
 Calls Tryz.prog 13 #[.pointer (some ⟨v.l,0,none⟩)] w fun e w'=>∃ A c M,e=.returned (.slice A S.rows.length c)∧eA M w' A S.rows.length c S.rows∧Ul w lab K v a S (N+1) w' M:=by
 have HS:=aA (Xh h.s)
 have a6:=h.r.rows6
 have HH:=aA h
 clear h
 go_enter Tryz.func13,Tryz.ntmps13
 go_wp2_with ((with_reducible refine HS.out.mono ?_);rintro e w2 ⟨A,c,M,rfl,h1,h2⟩;have S1:=aA h1;have S2:=aA h2;clear h1 h2)
 go_ret
 exact ⟨A,c,M,rfl,S1.out,HH.out.liveM (Nat.le_add_right _ _) S2.out⟩
set_option maxRecDepth 100000 in
theorem Pu (h:fD w lab K v a S N) (hN:N+1≤8796093022208) (hg:S.gs=[K.up]) {r:List V} {A:Option Addr} {n:Nat} (c:Nat) (ha:bD w A n r) :
 Calls Tryz.prog 49 #[.pointer (some ⟨v.l,0,none⟩),.slice A n c] w fun e w'=>∃ A' c' M,e=.returned (.slice A' (gY S 0 r).length c')∧eA M w' A' (gY S 0 r).length c' (gY S 0 r)∧Ul w lab K v a S (N+1) w' M:=by
 have HS:=wK h.s (by omega) (k:=0) (by rw [hg];exact Nat.zero_lt_one) c ha
 rw [show (Value.int .i64 ((0:Nat):Int))=.int .i64 0 from rfl] at HS
 have HS:=aA HS
 have a6:=h.r.rows6
 have HH:=aA h
 clear h ha
 go_enter Tryz.func49,Tryz.ntmps49
 go_wp2_with ((with_reducible refine HS.out.mono ?_);rintro e w2 ⟨A',c',rfl,M,h1,h2⟩;have S1:=aA h1;have S2:=aA h2;clear h1 h2)
 go_ret
 exact ⟨A',c',M,rfl,S1.out,HH.out.liveM (Nat.le_add_right _ _) S2.out⟩
def vw (w:World) (lab:aP) (K:NK) (v:eT) (a:aR) (S:aY) (N:Nat) (o:Option (List V)) (f:Value→Bool→Ending) (e:Ending) (w':World):Prop:=match o with
 | none=>e=f (.slice none 0 0) false∧Iu w lab K v a S N w'
 | some r=>∃ A c M,e=f (.slice A r.length c) true∧w'.ownsRow M 85 3 (.slice A r.length c) r.length (aO r)∧Ul w lab K v a S N w' M
theorem fD.one {w':World} {o:Option (List V)} {f:Value→Bool→Ending} {e:Ending} (h:fD w lab K v a S N) (hs:uL w (lab.own 1) v.x1 S (N+1) o e w') (e':Ending) (he:∀ y b,e=.returned (.tuple #[y,.bool b,.int .i64 0])→e'=f y b):vw w lab K v a S (N+1) o f e' w':=by
 cases o with
 | none=>exact ⟨he _ _ hs.1,h.live (Nat.le_add_right _ _) hs.2⟩
 |some r=>
  obtain ⟨A,c,M,h1,h2,h3⟩:=hs
  exact ⟨A,c,M,he _ _ h1,h2,h.liveM (Nat.le_add_right _ _) h3⟩
def Pd (y:Value) (b:Bool):Ending:=.returned (.tuple #[y,.bool b])
def B_ (y:Value) (b:Bool):Ending:=.returned (.tuple #[y,.bool b,.int .i64 0])
theorem uL.ret {w':World} {B:Nat→Prop} {x:Nat} {o:Option (List V)} {e:Ending} (h:uL w B x S N o e w'):∃ A n c b,e=.returned (.tuple #[.slice A n c,.bool b,.int .i64 0]):=by
 cases o with
 | none=>exact ⟨_,_,_,_,h.1⟩
 |some r=>
  obtain ⟨A,c,M,h1,_⟩:=h
  exact ⟨_,_,_,_,h1⟩
set_option maxRecDepth 100000 in
theorem Oi (h:fD w lab K v a S N) (hN:N+1≤8796093022208) (hg:S.gs=[K.up]) {r:List V} {A:Option Addr} {n:Nat} (c:Nat) (ha:bD w A n r) :
 Calls Tryz.prog 71 #[.pointer (some ⟨v.l,0,none⟩),.slice A n c] w (vw w lab K v a S (N+1) (gY S 0 r).head? Pd):=by
 have HS:=Zv h.s (by omega) (k:=0) (by rw [hg];exact Nat.zero_lt_one) c ha
 rw [show (Value.int .i64 ((0:Nat):Int))=.int .i64 0 from rfl] at HS
 have HS:=aA HS
 have a6:=h.r.rows6
 have HH:=aA h
 clear h ha
 generalize (gY S 0 r).head?=o at *
 go_enter Tryz.func71,Tryz.ntmps71
 go_wp2_with ((with_reducible refine HS.out.mono ?_);intro e w2 h2;obtain ⟨Ae,ne,ce,be,rfl⟩:=h2.ret;have S2:=aA h2;clear h2)
 go_ret2
 exact HH.out.one S2.out _ fun y b e=>by injection e with e;simp only [Value.tuple.injEq,Array.mk.injEq,List.cons.injEq,Value.bool.injEq] at e;obtain ⟨rfl,rfl,-⟩:=e;rfl
def zdI (w:World) (lab:aP) (K:NK) (v:eT) (a:aR) (S:aY) (N:Nat) (r:List V) (e:Ending) (w':World):Prop:=
 (inB S.rows r=false∧e=.returned (.tuple #[.slice none 0 0,.bool false,.int .i64 62])∧Iu w lab K v a S N w')∨
 (inB S.rows r=true∧∃ i,(gY S 0 (aE K.up r))[i]?=some r∧vw w lab K v a S N (gY S 0 (aE K.up r))[i+1]? B_ e w')
theorem zQ.ret {w':World} {B:Nat→Prop} {x k:Nat} {g:List Nat} {r:List V} {e:Ending} (h:zQ w B x S N k g r e w'):∃ A n c b z,e=.returned (.tuple #[.slice A n c,.bool b,.int .i64 z]):=by
 rcases h with ⟨-,h,-⟩ | ⟨-,i,-,h⟩
 ·exact ⟨_,_,_,_,_,h⟩
 ·obtain ⟨A,n,c,b,h⟩:=h.ret
  exact ⟨_,_,_,_,_,h⟩
set_option maxRecDepth 100000 in
theorem Tk (h:fD w lab K v a S N) (hN:N+1≤8796093022208) (hg:S.gs=[K.up]) {r:List V} {A:Option Addr} {n:Nat} (c:Nat) (ha:bD w A n r) :
 Calls Tryz.prog 72 #[.pointer (some ⟨v.l,0,none⟩),.slice A n c] w (zdI w lab K v a S (N+1) r):=by
 have HS:=zj h.s (by omega) (k:=0) (g:=K.up) (by rw [hg];rfl) c ha
 rw [show (Value.int .i64 ((0:Nat):Int))=.int .i64 0 from rfl] at HS
 have HS:=aA HS
 have a6:=h.r.rows6
 have HH:=aA h
 clear h ha hg
 go_enter Tryz.func72,Tryz.ntmps72
 go_wp2_with ((with_reducible refine HS.out.mono ?_);intro e w2 h2;obtain ⟨Ae,ne,ce,be,ze,rfl⟩:=h2.ret;have S2:=aA h2;clear h2)
 go_ret3
 rcases S2.out with ⟨h1,h2,h3⟩ | ⟨h1,i,h2,h3⟩
 ·exact .inl ⟨h1,h2,HH.out.live (Nat.le_add_right _ _) h3⟩
 ·exact .inr ⟨h1,i,h2,HH.out.one h3 _ fun y b e=>e⟩
end
def gX (w:World) (P:Nat→Prop) (A:Option Addr) (n c:Nat) (rows:List (List V)):Prop:=
 n=rows.length∧∃ cells,aJ w P 28 1 n (.slice A n c) cells∧gJ (fun w cs r=>∃ A n c,cs=[.slice A n c]∧aJ w P 85 3 n (.slice A n c) (aO r)) 1 w cells rows∧pV cells
theorem gX.nil (w:World) (P:Nat→Prop):gX w P none 0 0 []:=⟨rfl,[],aJ.nil _ _ _ _,.nil,by unfold pV;exact .nil⟩
theorem eA.toldA {M:Nat} {P:Nat→Prop} {w:World} {A:Option Addr} {n c:Nat} {rows:List (List V)} (h:eA M w A n c rows) (hP:∀ b,M≤b→b<w.heap.size→P b):gX w P A n c rows:=by
 obtain ⟨cells,h1,h2,h3,h4⟩:=h
 refine ⟨h1,cells,⟨dS h2 (Nat.zero_le _),fun g hg=>hP g (h2.lt g hg).1 (h2.lt g hg).2⟩,h3.mono fun cs r hx=>?_,h4⟩
 obtain ⟨A,n,c,e,ho⟩:=hx
 exact ⟨A,n,c,e,dS ho (Nat.zero_le _),fun g hg=>hP g (ho.lt g hg).1 (ho.lt g hg).2⟩
theorem gX.chg {w w':World} {P Q C:Nat→Prop} {A:Option Addr} {n c:Nat} {rows:List (List V)} (h:gX w P A n c rows) (hw:aF C w w') (hC:∀ b,P b→¬ C b) (hq:∀ b,P b→Q b):gX w' Q A n c rows:=by
 obtain ⟨h1,cells,h2,h3,h4⟩:=h
 refine ⟨h1,cells,(h2.chg hw hC).mono hq,h3.mono fun cs r hx=>?_,h4⟩
 obtain ⟨A,n,c,e,ho⟩:=hx
 exact ⟨A,n,c,e,(ho.chg hw hC).mono hq⟩
theorem gX.ext {w w':World} {P:Nat→Prop} {A:Option Addr} {n c:Nat} {rows:List (List V)} (h:gX w P A n c rows) (hw:aD w w'):gX w' P A n c rows:=h.chg (C:=fun _=>False) (aF.of hw) (fun _ _ x=>x) fun _ x=>x
theorem gX.lat {w:World} {P:Nat→Prop} {A:Option Addr} {n c:Nat} {rows:List (List V)} (h:gX w P A n c rows):pO nW 1 w A n rows:=by
 obtain ⟨h1,cells,h2,h3,-⟩:=h
 refine ⟨h1,cells,h3.mono fun cs r hx=>?_,Sl.own h2.own⟩
 obtain ⟨A,n,c,e,ho⟩:=hx
 exact ⟨A,n,c,e,aW.own ho.own⟩
theorem Yg {w:World} {base g:Nat} {e:TypeId} {u:Value} (hb:aL w g e #[u]) (hg:base≤g):w.ownsRow base e 1 (.slice (some ⟨g,0,none⟩) 1 1) 1 [u]:=
 ⟨rfl,.inr ⟨g,1,#[u],rfl,hg,hb,Nat.le_refl _,by unfold maxLen;omega,rfl,rfl⟩⟩
set_option maxRecDepth 100000 in
theorem kL {w:World} {r:List V} {A:Option Addr} {n:Nat} (c:Nat) (ha:bD w A n r) :
 Calls Tryz.prog 133 #[.slice A n c] w fun e w'=>∃ A',e=.returned (.slice A' 1 1)∧eA w.heap.size w' A' 1 1 [r]∧aD w w':=by
 have HC:=aA (wZ (aO r) A n c w ha.at_.2 (fB r) (by have:=ha.len;omega))
 clear ha
 go_enter Tryz.func133,Tryz.ntmps133
 go_wp2_with ((with_reducible refine HC.out.mono ?_);rintro e w2 ⟨A2,c2,rfl,h2,x2⟩;have O2:=aA h2;have X2:=aA x2;clear h2 x2)
 go_ret
 have hb:=aL.new w2 28 #[.slice A2 n c2]
 have hE:=aD.alloc w2 (.cells #[.slice A2 n c2] 28)
 refine ⟨_,rfl,⟨[.slice A2 n c2],rfl,Yg hb X2.out.size,gJ.single rfl (fun v hv=>by obtain rfl:=List.mem_singleton.1 hv;rfl) ⟨A2,n,c2,rfl,iL O2.out hE⟩,by unfold pV;exact List.pairwise_singleton _ _⟩,X2.out.trans hE⟩
def cD (T:Nat) (D:Nat→Prop) (w':World) (F U:List (List V)) (y:Value):Prop:=
 ∃ A c A2 c2 P Q,y=.agg #[.slice A F.length c,.slice A2 U.length c2]∧gX w' P A F.length c F∧gX w' Q A2 U.length c2 U∧(∀ b,P b→¬ Q b)∧(∀ b,P b∨Q b→T≤b∧b<w'.heap.size∧¬ D b)
def Yy:Value:=.agg #[.slice none 0 0,.slice none 0 0]
theorem cD.nil (T:Nat) (D:Nat→Prop) (w':World):cD T D w' [] [] Yy:=
 ⟨none,0,none,0,fun _=>False,fun _=>False,rfl,gX.nil _ _,gX.nil _ _,fun _ h=>h.elim,fun _ h=>h.elim (fun h=>h.elim) fun h=>h.elim⟩
def kI (w:World) (lab:aP) (K:NK) (v:eT) (a:aR) (N:Nat) (t:rE) (e:Ending) (w':World):Prop:=
 ∃ y lab',e=.returned (.tuple #[y,.int .i64 t.2.2.2])∧fD w' lab' K v {a with now:=t.1} (S1 K {a with now:=t.1}) N∧eU w lab w' lab'∧cD w.heap.size lab'.dom w' t.2.1 t.2.2.1 y
def xF (K:NK) (from_:Int) (r:List V):Int:=
 if from_=2∧K.kind=3 then if aV K.side.length r then 0 else 62 else if from_≠1 then 190 else if aV K.inn r then 0 else 62
theorem jD.kind {w:World} {lab:aP} {K:NK} {v:eT} {a:aR} {N:Nat} (h:jD w lab K v a N):w.cell? ⟨v.n,0,none⟩=some (.pointer (some ⟨v.l,0,none⟩))∧w.cell? ⟨v.n,1,none⟩=some (.iface (cI K) (.pointer (some ⟨v.k,0,none⟩)))∧w.cell? ⟨v.l,0,none⟩=some (.int .i64 K.kind)∧w.cell? ⟨v.l,1,none⟩=some (.int .i64 K.inn)∧w.cell? ⟨v.l,2,none⟩=some (.slice v.kA K.keep.length v.kC)∧w.cell? ⟨v.l,3,none⟩=some (.slice v.sA K.side.length v.sC)∧w.cell? ⟨v.l,4,none⟩=some (.slice v.uA K.up.length v.uC):=
 ⟨h.node.cell 0,h.node.cell 1,h.lv.cell 0,h.lv.cell 1,h.lv.cell 2,h.lv.cell 3,h.lv.cell 4⟩
set_option maxRecDepth 100000 in
theorem Ef {w:World} {lab:aP} {K:NK} {v:eT} {a:aR} {N:Nat} (h:jD w lab K v a N) (from_:Int) {r:List V} {A:Option Addr} {n:Nat} (c:Nat) (ha:bD w A n r) :
 Calls Tryz.prog 65 #[.pointer (some ⟨v.n,0,none⟩),.int .i64 from_,.slice A n c] w fun e w'=>e=.returned (.int .i64 (xF K from_ r))∧aD w w':=by
 have HV:=aA (rX r A n c w ha.at_ ha.len ha.small)
 obtain ⟨n0,-,l0,l1,-,l3,-⟩:=h.kind
 have hl:=ha.at_.len
 clear h ha
 unfold xF aV
 generalize v.n=nb at *
 generalize v.l=l at *
 generalize K.side.length=sl at *
 generalize K.inn=inn at *
 generalize K.kind=kd at *
 generalize cQ r=vr at *
 generalize r.length=m at *
 subst hl
 by_cases hside:from_=2∧kd=3
 ·obtain ⟨rfl,rfl⟩:=hside
  rw [if_pos ⟨rfl,rfl⟩]
  by_cases hm:n=sl
  ·subst hm
   cases vr with
   |true=>
    rw [if_pos (by simp)]
    go_enter Tryz.func65,Tryz.ntmps65
    go_wp2_with ((with_reducible refine HV.out.mono ?_);rintro e w1 ⟨rfl,h1⟩;have X1:=aA h1;clear h1)
    go_ret
    exact ⟨rfl,X1.out⟩
   |false=>
    rw [if_neg (by simp)]
    go_enter Tryz.func65,Tryz.ntmps65
    go_wp2_with ((with_reducible refine HV.out.mono ?_);rintro e w1 ⟨rfl,h1⟩;have X1:=aA h1;clear h1)
    go_ret
    exact ⟨rfl,X1.out⟩
  ·have pT:((n:Int) != (sl:Int))=true:=by simp;omega
   have xT:¬ (n:Int)=(sl:Int):=by omega
   rw [if_neg (by simp [hm])]
   go_enter Tryz.func65,Tryz.ntmps65
   go_wp2_with fail
   go_ret
   exact ⟨rfl,aD.refl _⟩
 ·rw [if_neg hside]
  by_cases h1:from_=1
  ·subst h1
   simp only [ne_eq,not_true_eq_false,if_false]
   by_cases hm:n=inn
   ·subst hm
    cases vr with
    |true=>
     rw [if_pos (by simp)]
     go_enter Tryz.func65,Tryz.ntmps65
     go_wp2_with ((with_reducible refine HV.out.mono ?_);rintro e w1 ⟨rfl,h1⟩;have X1:=aA h1;clear h1)
     go_ret
     exact ⟨rfl,X1.out⟩
    |false=>
     rw [if_neg (by simp)]
     go_enter Tryz.func65,Tryz.ntmps65
     go_wp2_with ((with_reducible refine HV.out.mono ?_);rintro e w1 ⟨rfl,h1⟩;have X1:=aA h1;clear h1)
     go_ret
     exact ⟨rfl,X1.out⟩
   ·have pT:((n:Int) != (inn:Int))=true:=by simp;omega
    have xT:¬ (n:Int)=(inn:Int):=by omega
    rw [if_neg (by simp [hm])]
    go_enter Tryz.func65,Tryz.ntmps65
    go_wp2_with fail
    go_ret
    exact ⟨rfl,aD.refl _⟩
  ·rw [if_pos h1]
   have oY:(from_ != 1)=true:=by simp [h1]
   by_cases h2:from_=2
   ·subst h2
    have hk:¬ kd=3:=fun e=>hside ⟨rfl,e⟩
    have jT:((kd:Int) == 3)=false:=by simp;omega
    clear hside
    go_enter Tryz.func65,Tryz.ntmps65
    go_wp2_with fail
    go_ret
    exact ⟨rfl,aD.refl _⟩
   ·have vS:(from_ == 2)=false:=by simp [h2]
    clear hside
    go_enter Tryz.func65,Tryz.ntmps65
    go_wp2_with fail
    go_ret
    exact ⟨rfl,aD.refl _⟩
end Go.Proofs.YtahdiiaadjdmcaaGreat
