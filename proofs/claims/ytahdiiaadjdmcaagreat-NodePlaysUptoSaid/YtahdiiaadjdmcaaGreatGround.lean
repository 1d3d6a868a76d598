import Derived.StillTail
import Derived.Below
import Derived.Deep.QuietTactic
import Derived.Laws.CopyOwn
import Derived.Laws.OwnMore
import Derived.OwnWalk
import Derived.Maps.AppendAt
import Derived.Test.YtahdiiaadjdmcaaGreatProg
import Derived.WalkKit
import Derived.Lib.Bytealg
import Derived.WalkLawsBesides
import Derived.WalkSpells
import Derived.Outline
namespace Go.Proofs.YtahdiiaadjdmcaaGreat
open Go.RowKit
def aD (w w':World):Prop:=Below w.heap.size w w'
theorem aD.refl (w:World):aD w w:=Below.refl _ _
theorem aD.size {w w':World} (h:aD w w'):w.heap.size≤w'.heap.size:=Below.size h
theorem aD.trans {a b c:World} (h:aD a b) (k:aD b c):aD a c:=Below.trans h (Below.mono k h.size)
theorem aD.drew (w:World):aD w w.drew:=(Below.refl _ _).drew
theorem aD.alloc (w:World) (o:Obj):aD w (w.alloc o):=(Below.refl _ _).alloc (Nat.le_refl _) o
theorem aD.alloc' {a w:World} (h:aD a w) (o:Obj):aD a (w.alloc o):=Below.alloc h h.size o
theorem aD.setCell {a w:World} (h:aD a w) {p:Addr} (hp:a.heap.size≤p.block) (u:Value):aD a (w.setCell p u):=Below.setCell h hp u
theorem aD.cell {w w':World} (h:aD w w') {p:Addr} {v:Value} (hp:w.cell? p=some v):w'.cell? p=some v:=
 (Below.cell h (World.block_lt_of_cell? w p hp)).trans hp
theorem aD.block {w w':World} (h:aD w w') {k:Nat} (hk:k<w.heap.size):w'.heap[k]?=w.heap[k]?:=Below.block h k hk
inductive AV where
 | k (v:Value)
 | p (F:Value→World→Prop)
def AV.sat:AV→Value→World→Prop
 | .k v,u,_=>u=v
 | .p F,u,w=>F u w
def AV.Stable (w0:World) (x:AV):Prop:=∀ u w w',aD w0 w→aD w w'→x.sat u w→x.sat u w'
theorem AV.stable_k (w0:World) (v:Value):(AV.k v).Stable w0:=fun _ _ _ _ _ h=>h
def uM (P:Program) (w:World) (x:AV):Result Next→Prop
 | .ok (.value v) w'=>aD w w'∧x.sat v w'
 | .ok .skip w'=>aD w w'∧x.sat undef w'
 | .ok (.enter f args) w'=>aD w w'∧Calls P f args w' fun e w''=>∃ v,e=.returned v∧aD w' w''∧x.sat v w''
 | _=>False
section
variable {P:Program} {ops:Array Oper} {md:Region.Mode} {w0:World} {n:Nat} {ds:List Deferred}
def oL (P:Program) (ops:Array Oper) (w0:World) (S:Tmp→AV) (o:Oper) (x:AV):Prop:=
 x.Stable w0∧∀ (a:Act) (w:World),aD w0 w→(∀ t∈o.looksAt ops,(S t).sat (a.tmps.getD t undef) w)→
  if Region.wanted o (yielded ops a.tmps) then uM P w x ((execOp a.eval o).run P w) else x.sat undef w
def kZ (S:Tmp→AV) (d:Option Tmp) (x:AV):Tmp→AV:=fun t=>if d=some t then x else S t
theorem rS {S:Tmp→AV} {d:Option Tmp} {x:AV} {t:Tmp} (h:d≠some t):kZ S d x t=S t:=by simp [kZ,h]
theorem Um (S:Tmp→AV) {d e:Option Tmp} (x y:AV) (h:∀ t,d=some t→e≠some t):kZ (kZ S d x) e y=kZ (kZ S e y) d x:=by
 funext t
 unfold kZ
 by_cases h1:d=some t <;> by_cases h2:e=some t <;> simp [h1,h2]
 exact absurd h2 (h t h1)
theorem oL.put {S:Tmp→AV} {o:Oper} {x y:AV} {d:Option Tmp} (h:∀ t,d=some t→t∉o.looksAt ops) (hs:oL P ops w0 (kZ S d y) o x):oL P ops w0 S o x:=
 ⟨hs.1,fun a w hw ht=>hs.2 a w hw fun t hm=>by rw [rS (fun e=>h t e hm)];exact ht t hm⟩
theorem oL.unput {S:Tmp→AV} {o:Oper} {x y:AV} {d:Option Tmp} (h:∀ t,d=some t→t∉o.looksAt ops) (hs:oL P ops w0 S o x):oL P ops w0 (kZ S d y) o x:=
 ⟨hs.1,fun a w hw ht=>hs.2 a w hw fun t hm=>by have:=ht t hm;rw [rS (fun e=>h t e hm)] at this;exact this⟩
def jz (P:Program) (ops:Array Oper) (w0:World) (i:Nat) (K:(Tmp→AV)→Prop) (S:Tmp→AV):Prop:=
 match ops[i]? with
 | none=>K S
 | some o=>∃ x,oL P ops w0 S o x∧K (kZ S o.dst x)
theorem Yc {i:Nat} {S:Tmp→AV} {K K':(Tmp→AV)→Prop} (h:∀ S,K S→K' S) (hh:jz P ops w0 i K S):jz P ops w0 i K' S:=by
 unfold jz at *
 split
 ·exact h _ (by simpa [*] using hh)
 ·rename_i o ho
  simp only [ho] at hh
  obtain ⟨x,h1,h2⟩:=hh
  exact ⟨x,h1,h _ h2⟩
def pR (P:Program) (md:Region.Mode) (ops:Array Oper) (w0:World) (n:Nat) (L:Array Bool→(Tmp→AV)→Prop):Nat→Array Bool→(Tmp→AV)→Prop
 | 0,listed,S=>L listed S
 | f+1,listed,S=>Region.ready md ops listed≠[]∧∀ i∈Region.ready md ops listed,i<n∧jz P ops w0 i (pR P md ops w0 n L f (listed.setIfInBounds i true)) S
def tD (S:Tmp→AV) (m:Nat) (ds:List Deferred) (a:Act) (w:World):Prop:=
 a.tmps.size=m∧a.defers=ds∧∀ t,t<m→(S t).sat (a.tmps.getD t undef) w
def n6 (ops:Array Oper) (m:Nat):Bool:=ops.all fun o=>(o.dst.all (·<m)) && (o.looksAt ops).all (·<m)
theorem tD.put {S:Tmp→AV} {m:Nat} {a:Act} {w w':World} (h:tD S m ds a w) (hS:∀ t,(S t).Stable w0) (h0:aD w0 w) (hw:aD w w') {d:Option Tmp} {v:Value} {x:AV} (hx:x.sat v w') :
 tD (kZ S d x) m ds (a.put d v) w':=by
 obtain ⟨h1,h2,h3⟩:=h
 cases d with
 | none=>exact ⟨h1,h2,fun t ht=>by rw [rS (by simp)];exact hS t _ _ _ h0 hw (h3 t ht)⟩
 |some d=>
  refine ⟨by simp [Act.put,h1],h2,fun t ht=>?_⟩
  by_cases he:d=t
  ·subst he
   have:(a.tmps.setIfInBounds d v).getD d undef=v:=by simp [h1,ht]
   simp only [kZ,Act.put,this]
   simpa using hx
  ·rw [rS (by simpa using he)]
   have:(a.tmps.setIfInBounds d v).getD t undef=a.tmps.getD t undef:=by
    simp [Array.getElem?_setIfInBounds_ne he]
   simp only [Act.put,this]
   exact hS t _ _ _ h0 hw (h3 t ht)
theorem fU {m g:Nat} {L:Array Bool→(Tmp→AV)→Prop} {Q':Exit→Act→World→Prop} (hd:n6 ops m=true)
 (hL:∀ listed S,L listed S→∀ a w,aD w0 w→tD S m ds a w→wpAny P md ops Q' g listed a w) :
 ∀ (f:Nat) (listed:Array Bool) (S:Tmp→AV),(∀ t,(S t).Stable w0)→pR P md ops w0 n L f listed S→∀ a w,aD w0 w→tD S m ds a w→wpAny P md ops Q' (f+g) listed a w
 | 0,listed,S,_,h=>fun a w hw ha=>by rw [Nat.zero_add];exact hL _ _ h a w hw ha
 |f+1,listed,S,hS,h=>fun a w hw ha=>by
  rw [show f+1+g=(f+g)+1 by omega]
  refine ⟨fun h0=>absurd h0 h.1,fun i hi=>?_⟩
  have h2:=(h.2 i hi).2
  unfold jz at h2
  unfold wpOp
  cases ho:ops[i]? with
  | none=>simp only [ho] at h2 ⊢;exact fU hd hL f _ S hS h2 a w hw ha
  |some o=>
   simp only [ho] at h2 ⊢
   obtain ⟨x,⟨fI,hx⟩,hK⟩:=h2
   have bE:(o.dst.all (·<m))=true∧(o.looksAt ops).all (·<m)=true:=by
    have:=Array.all_eq_true_iff_forall_mem.1 hd o (Array.mem_of_getElem? ho)
    simpa using this
   have h3:=hx a w hw fun t ht=>ha.2.2 t (by have:=List.all_eq_true.1 bE.2 t ht;simpa using this)
   have hS':∀ t,(kZ S o.dst x t).Stable w0:=fun t=>by
    unfold kZ
    split
    ·exact fI
    ·exact hS t
   have go:∀ v w',aD w w'→x.sat v w'→wpAny P md ops Q' (f+g) (listed.setIfInBounds i true) (a.put o.dst v) w':=fun v w' hw' hv=>
    fU hd hL f _ _ hS' hK _ _ (hw.trans hw') (ha.put hS hw hw' hv)
   split
   ·rename_i hwant
    simp only [hwant,if_true] at h3
    refine .inl ?_
    unfold Oper.wp
    generalize (execOp a.eval o).run P w=r at h3 ⊢
    cases r with
    |ok nx w'=>
     cases nx <;> simp only [uM] at h3 <;> simp only [Oper.upon]
     case value u=>exact go _ _ h3.1 h3.2
     case skip=>exact go _ _ h3.1 h3.2
     case enter fn args=>exact h3.2.mono fun e w'' ⟨v,he,hw'',hv⟩=>by subst he;exact go _ _ (h3.1.trans hw'') hv
    | halt x w'=>simp only [uM] at h3
   ·rename_i hwant
    simp only [hwant,Bool.false_eq_true,if_false] at h3
    exact go _ _ (aD.refl _) h3
theorem γ {j:Nat} {oi oj:Oper} {x:AV} (hj:ops[j]?=some oj) (hap:oi.apart ops oj=true) {K:(Tmp→AV)→Prop} {S:Tmp→AV}
 (hy:oL P ops w0 S oi x) (h:jz P ops w0 j K (kZ S oi.dst x)):jz P ops w0 j (fun S'=>oL P ops w0 S' oi x∧K (kZ S' oi.dst x)) S:=by
 obtain ⟨h1,h2,h3⟩:=Oper.apart_spec hap
 unfold jz at *
 simp only [hj] at *
 obtain ⟨y,hy',hK⟩:=h
 exact ⟨y,hy'.put h1,hy.unput h3,by rw [← Um S x y h2];exact hK⟩
theorem mA {i:Nat} {oi:Oper} {x:AV} {L:Array Bool→(Tmp→AV)→Prop} (hi:ops[i]?=some oi) (bE:i<n)
 (hT:∀ listed,HeadInv md ops n listed→listed.getD i true=false→∀ t,n≤t→t∉Region.ready md ops listed)
 (hdone:∀ listed S,L listed S→∀ j∈Region.ready md ops listed,n≤j) :
 ∀ (f:Nat) (listed:Array Bool) (S:Tmp→AV),HeadInv md ops n listed→
  (∀ j oj,ops[j]?=some oj→j≠i→listed.getD j true=false→(∀ e∈oj.after,Region.binds md e=true→e.on≠i)→oi.apart ops oj=true)→
  i∈Region.ready md ops listed→oL P ops w0 S oi x→
  pR P md ops w0 n L f (listed.setIfInBounds i true) (kZ S oi.dst x)→pR P md ops w0 n L (f+1) listed S:=by
 have C_:∀ {S:Tmp→AV} {K:(Tmp→AV)→Prop},oL P ops w0 S oi x→K (kZ S oi.dst x)→jz P ops w0 i K S:=fun hy hK=>by
  unfold jz;simp only [hi];exact ⟨x,hy,hK⟩
 intro f
 induction f with
 |zero=>
  intro listed S inv _ hr hy H
  have o6:=(mem_ready.1 hr).1
  refine ⟨fun h=>(by rw [h] at hr;cases hr),fun j hj=>?_⟩
  have zcC:j<n:=by
   rcases Nat.lt_or_ge j n with h | h
   ·exact h
   ·exact absurd hj (hT listed inv o6 j h)
  refine ⟨zcC,?_⟩
  by_cases hji:j=i
  ·subst hji;exact C_ hy H
  ·have:=hdone _ _ H j (ready_mono hj hji)
   omega
 |succ f ih=>
  intro listed S inv hfree hr hy H
  have o6:=(mem_ready.1 hr).1
  refine ⟨fun h=>(by rw [h] at hr;cases hr),fun j hj=>?_⟩
  have zcC:j<n:=by
   rcases Nat.lt_or_ge j n with h | h
   ·exact h
   ·exact absurd hj (hT listed inv o6 j h)
  refine ⟨zcC,?_⟩
  by_cases hji:j=i
  ·subst hji;exact C_ hy H
  ·have h1:=(H.2 j (ready_mono hj hji)).2
   obtain ⟨hjun,oj,hoj,gH⟩:=mem_ready.1 hj
   have zfv:∀ e∈oj.after,Region.binds md e=true→e.on≠i:=fun e he hb zeG=>by
    have h1:=gH e he hb
    rw [zeG,getD_both o6] at h1
    cases h1
   have h2:=γ hoj (hfree j oj hoj hji hjun zfv) hy h1
   have hfree':∀ k ok,ops[k]?=some ok→k≠i→(listed.setIfInBounds j true).getD k true=false→
    (∀ e∈ok.after,Region.binds md e=true→e.on≠i)→oi.apart ops ok=true:=fun k ok hk hki o6 j8=>by
    refine hfree k ok hk hki ?_ j8
    by_cases hjk:j=k
    ·subst hjk;exact hjun
    ·rw [getD_set_ne true hjk] at o6;exact o6
   refine Yc (fun S' h3=>ih (listed.setIfInBounds j true) S' (inv.set hj zcC) hfree' (ready_mono hr (Ne.symm hji)) h3.1 ?_) h2
   rw [Array.setIfInBounds_comm _ _ hji]
   exact h3.2
def qB (P:Program) (ops:Array Oper) (w0:World) (Q:(Tmp→AV)→Prop):List Oper→(Tmp→AV)→Prop
 | [],S=>Q S
 | o :: l,S=>∃ x,oL P ops w0 S o x∧qB P ops w0 Q l (kZ S o.dst x)
theorem tN {g:Nat} {Lq:(Tmp→AV)→Prop} (hT:∀ i,i<n→∀ listed,HeadInv md ops n listed→listed.getD i true=false→∀ t,n≤t→t∉Region.ready md ops listed) :
 ∀ (l:List Oper) (k:Nat) (listed:Array Bool) (S:Tmp→AV),(∀ j,j<l.length→l[j]?=ops[k+j]?)→k+l.length=n→HeadInv md ops n listed→
 Region.lexHead md ops g l.length k listed=true→qB P ops w0 Lq l S→
 pR P md ops w0 n (fun listed' S'=>Region.seqB md ops g n listed'=true∧Lq S') l.length listed S
 |[],k,listed,S,_,hk,_,hB,h=>by
  have:k=n:=by simpa using hk
  subst this
  exact ⟨by simpa [Region.lexHead] using hB,h⟩
 |o :: l,k,listed,S,hl,hk,inv,hB,h=>by
  have h0:ops[k]?=some o:=by simpa using (hl 0 (by simp)).symm
  simp only [List.length_cons,Region.lexHead,Bool.and_eq_true] at hB
  obtain ⟨⟨hr,hf⟩,hB'⟩:=hB
  have Ko:k<n:=by simp only [List.length_cons] at hk;omega
  have hr':k∈Region.ready md ops listed:=by simpa using hr
  obtain ⟨x,hy,hK⟩:=h
  exact mA h0 Ko (hT k Ko) (fun listed' S' hL=>seqB_ready hL.1) l.length listed S inv (Region.free_spec h0 hf) hr' hy
   (tN hT l (k+1) _ _ (fun j hj=>by have:=hl (j+1) (by simp;omega);simpa [Nat.add_assoc,Nat.add_comm 1 j] using this) (by simp only [List.length_cons] at hk;omega) (inv.set hr' Ko) hB' hK)
def Uh (ops:Array Oper) (n:Nat):Bool:=
 decide (n≤ops.size) && (decide (n=ops.size) || Region.sinkB .any ops n && Region.chainB .any ops n) && Region.lexHead .any ops (ops.size - n) n 0 (Array.replicate ops.size false)
theorem Dc {id:Nat} {Q:Exit→Act→World→Prop} {a:Act} {w:World} {l:List Oper} (n:Nat) (S0:Tmp→AV) (m:Nat) (hm:P.follows .mixedOrders=true) (hB:Uh l.toArray n=true) (hd:n6 l.toArray m=true)
 (hS0:∀ t,(S0 t).Stable w) (dW:tD S0 m ds a w)
 (h:qB P l.toArray w (fun S=>∀ a' w',aD w w'→tD S m ds a' w'→wpList P l.toArray Q (l.drop n) a' w') (l.take n) S0):(Code.region id l.toArray true).wp P Q a w:=by
 simp only [Uh,Bool.and_eq_true,decide_eq_true_eq] at hB
 obtain ⟨⟨hn,Fh⟩,hlex⟩:=hB
 have hn':n≤l.length:=by simpa using hn
 have xN:(l.take n).length=n:=by simp;omega
 have xZ:(l.drop n).length=l.toArray.size - n:=by simp
 have inv0:HeadInv .any l.toArray n (Array.replicate l.toArray.size false):=
  ⟨by simp,fun j oj _ hl=>(by rw [getD_replicate_false] at hl;cases hl),fun t _ ht=>getD_in (by simpa using ht) (getD_replicate_false _ _)⟩
 have hT:∀ i,i<n→∀ listed,HeadInv .any l.toArray n listed→listed.getD i true=false→∀ t,n≤t→t∉Region.ready .any l.toArray listed:=by
  intro i hi listed inv o6 t ht hr
  simp only [Bool.or_eq_true,decide_eq_true_eq,Bool.and_eq_true] at Fh
  rcases Fh with Fh | Fh
  ·obtain ⟨_,ot,hot,_⟩:=mem_ready.1 hr
   have Gq:=(Array.getElem?_eq_some_iff.1 hot).1
   omega
  ·by_cases bC:n<l.toArray.size
   ·exact tail_waits Fh.1 Fh.2 bC inv _ i rfl hi o6 t ht hr
   ·obtain ⟨_,ot,hot,_⟩:=mem_ready.1 hr
    have Gq:=(Array.getElem?_eq_some_iff.1 hot).1
    omega
 have H:=tN (md:=.any) (g:=l.toArray.size - n) hT (l.take n) 0 _ S0 (fun j hj=>by
  have hj':j<n:=by rw [xN] at hj;exact hj
  simp [hj']) (by simpa using xN) inv0 (by rw [xN];exact hlex) h
 refine wp_region_any hm ?_
 have aT:aD w {w with drawn:=w.drawn+1}:=aD.drew w
 have:=fU (w0:=w) (ds:=ds) (Q':=Q) (g:=l.toArray.size - n) hd (fun listed S hL a' w' hw' hf=>by
  have:=wpAny_of_seq (md:=.any) (Q':=Q) (l.drop n) n listed a' w' (fun j=>by simp [List.getElem?_drop]) (by rw [xZ];exact hL.1) (hL.2 a' w' hw' hf)
  rwa [xZ] at this) _ _ S0 hS0 H a _ aT ⟨dW.1,dW.2.1,fun t ht=>hS0 t _ _ _ (aD.refl _) aT (dW.2.2 t ht)⟩
 rw [xN,show n+(l.toArray.size - n)=l.toArray.size by omega] at this
 exact this
abbrev bV:=List (Tmp × (Value→World→Prop))
def bV.get (F:bV) (t:Tmp):Option (Value→World→Prop):=(F.find? (·.1 == t)).map (·.2)
def fG (a:Act) (F:bV):Tmp→AV:=fun t=>match F.get t with | some G=>.p G | none=>.k (a.tmps.getD t undef)
def Ri (P:Program) (w:World) (v:Value):Result Next→Prop
 | .ok (.value u) w'=>w'=w∧u=v
 | .ok .skip w'=>w'=w∧v=undef
 | .ok (.enter f args) w'=>w'=w∧Calls P f args w fun e w''=>e=.returned v∧aD w w''
 | _=>False
attribute [go_sem] Ri uM AV.sat
def So (P:Program) (ops:Array Oper) (w0:World) (Q:Act→bV→Prop):List Oper→Act→bV→Prop
 | [],a,F=>Q a F
 | o :: l,a,F=>∃ x F' a',oL P ops w0 (fG a F) o x∧(∀ t,kZ (fG a F) o.dst x t=fG a' F' t)∧a'.tmps.size=a.tmps.size∧a'.defers=a.defers∧So P ops w0 Q l a' F'
theorem aH {Q:Act→bV→Prop} {a:Act} {F:bV} (h:Q a F):So P ops w0 Q [] a F:=h
theorem fV {Q:Act→bV→Prop} {Q':(Tmp→AV)→Prop} {m:Nat} (hQ:∀ a F,a.tmps.size=m→a.defers=ds→Q a F→Q' (fG a F)):∀ (l:List Oper) (a:Act) (F:bV),a.tmps.size=m→a.defers=ds→So P ops w0 Q l a F→qB P ops w0 Q' l (fG a F)
 | [],a,F,h1,h2,h=>hQ a F h1 h2 h
 | o :: l,a,F,h1,h2,⟨x,F',a',hs,he,h3,h4,hr⟩=>⟨x,hs,by rw [funext he];exact fV hQ l a' F' (h3.trans h1) (h4.trans h2) hr⟩
theorem Da {t t':Array Value} {g:Nat} (h:∀ d,(ops[g]?).bind (·.dst)=some d→t.getD d undef=t'.getD d undef):yielded ops t g=yielded ops t' g:=by
 unfold yielded
 cases hd:(ops[g]?).bind (·.dst) with
 | none=>rfl
 |some d=>
  have:=h d hd
  simp only [Option.bind_some]
  rw [Array.getD_eq_getD_getElem?,Array.getD_eq_getD_getElem?] at this
  cases h1:t[d]? <;> cases h2:t'[d]? <;> simp [h1,h2] at this ⊢
  ·subst this;simp [undef]
  ·subst this;simp [undef]
  ·subst this;rfl
theorem uT {a a':Act} {o:Oper} (h:∀ t∈o.looksAt ops,a.tmps.getD t undef=a'.tmps.getD t undef):Region.wanted o (yielded ops a.tmps)=Region.wanted o (yielded ops a'.tmps):=by
 unfold Region.wanted
 cases hg:o.guard with
 | none=>rfl
 |some gw=>
  obtain ⟨g,want⟩:=gw
  simp only []
  rw [Da (t':=a'.tmps) fun d hd=>h d (by simp [Oper.looksAt,hg,hd])]
theorem vN {a a':Act} {o:Oper} (hs:∀ cs b,o.op≠.select cs b) (h:∀ t∈o.looksAt ops,a.tmps.getD t undef=a'.tmps.getD t undef):execOp a.eval o=execOp a'.eval o:=
 execOp_congr o hs fun x hx=>by
  cases x with
  | tmp t=>exact h t (by unfold Oper.looksAt;exact List.mem_append_left _ (List.mem_filterMap.2 ⟨.tmp t,by simpa using hx,rfl⟩))
  | _=>rfl
def Qh (o:Oper):Bool:=match o.op with | .select ..=>false | _=>true
theorem Ah {o:Oper} (h:Qh o=true) (cs:Array SelectCase) (b:Bool):o.op≠.select cs b:=by
 intro e;simp [Qh,e] at h
theorem bN {a:Act} {F:bV} {t:Tmp} (h:F.get t=none):fG a F t=.k (a.tmps.getD t undef):=by simp [fG,h]
theorem gV {a:Act} {F:bV} {t:Tmp} {G:Value→World→Prop} (h:F.get t=some G):fG a F t=.p G:=by simp [fG,h]
theorem bV.get_cons_self {F:bV} {t:Tmp} {G:Value→World→Prop}:bV.get ((t,G) :: F) t=some G:=by simp [bV.get]
theorem bV.get_cons_ne {F:bV} {t d:Tmp} {G:Value→World→Prop} (h:d≠t):bV.get ((d,G) :: F) t=F.get t:=by simp [bV.get,h]
def Gv (ops:Array Oper) (o:Oper) (F:bV):Bool:=Qh o && (o.looksAt ops).all fun t=>F.all (·.1 != t)
theorem iR {F:bV} {t:Tmp} (h:F.all (·.1 != t)=true):F.get t=none:=by
 simp only [bV.get,Option.map_eq_none_iff,List.find?_eq_none]
 intro x hx
 have:=List.all_eq_true.1 h x hx
 simpa using this
theorem Gn {o:Oper} {F:bV} (h:Gv ops o F=true):(∀ cs b,o.op≠.select cs b)∧∀ t∈o.looksAt ops,F.get t=none:=by
 simp only [Gv,Bool.and_eq_true] at h
 exact ⟨fun cs b=>Ah h.1 cs b,fun t ht=>iR (by have:=List.all_eq_true.1 h.2 t ht;simpa using this)⟩
theorem Pn {a:Act} {F:bV} {d:Option Tmp} {v:Value} (hd:d.all (fun t=>F.all (·.1 != t))=true) (hz:d.all (·<a.tmps.size)=true) (t:Tmp):kZ (fG a F) d (.k v) t=fG (a.put d v) F t:=by
 cases d with
 | none=>exact rS (by simp)
 |some d=>
  by_cases h:d=t
  ·subst h
   have h0:F.get d=none:=iR (by simpa using hd)
   have hz':d<a.tmps.size:=by simpa using hz
   have e:((a.put (some d) v).tmps.getD d undef)=v:=by simp [Act.put,hz']
   rw [bN h0,e]
   simp [kZ]
  ·rw [rS (by simpa using h)]
   unfold fG
   cases F.get t with
   | some G=>rfl
   |none=>
    have e:((a.put (some d) v).tmps.getD t undef)=a.tmps.getD t undef:=by simp [Act.put,Array.getElem?_setIfInBounds_ne h]
    simp only [e]
theorem aK {Q:Act→bV→Prop} {o:Oper} {l:List Oper} {a:Act} {F:bV} (hp:Gv ops o F=true) (hd:o.dst.all (fun t=>decide (t<a.tmps.size) && F.all (·.1 != t))=true)
 (hv:∃ v:Value,(∀ w,aD w0 w→if Region.wanted o (yielded ops a.tmps) then Ri P w v ((execOp a.eval o).run P w) else v=undef)∧∀ K:Act→bV→Prop,(∀ a F,So P ops w0 Q l a F→K a F)→K (a.put o.dst v) F):So P ops w0 Q (o :: l) a F:=by
 obtain ⟨v,h,hK⟩:=hv
 have hr:=hK _ fun _ _ h=>h
 obtain ⟨hs,hl⟩:=Gn hp
 have Rl:o.dst.all (fun t=>F.all (·.1 != t))=true:=by
  cases ho:o.dst with
  | none=>rfl
  | some d=>rw [ho] at hd;simp only [Option.all_some,Bool.and_eq_true] at hd ⊢;exact hd.2
 have iJ:o.dst.all (·<a.tmps.size)=true:=by
  cases ho:o.dst with
  | none=>rfl
  | some d=>rw [ho] at hd;simp only [Option.all_some,Bool.and_eq_true] at hd ⊢;exact hd.1
 refine ⟨.k v,F,a.put o.dst v,⟨AV.stable_k _ _,fun a' w hw ht=>?_⟩,Pn Rl iJ,?_,?_,hr⟩
 ·have zcV:∀ t∈o.looksAt ops,a'.tmps.getD t undef=a.tmps.getD t undef:=fun t hm=>by
   have:=ht t hm
   rw [bN (hl t hm)] at this
   exact this
  rw [uT zcV,vN hs zcV]
  have h1:=h w hw
  split
  ·rename_i hwant
   simp only [hwant,if_true] at h1
   generalize (execOp a.eval o).run P w=r at h1 ⊢
   cases r with
   |ok nx w'=>
    cases nx <;> simp only [Ri] at h1 <;> simp only [uM]
    case value u=>obtain ⟨rfl,rfl⟩:=h1;exact ⟨aD.refl _,rfl⟩
    case skip=>obtain ⟨rfl,rfl⟩:=h1;exact ⟨aD.refl _,rfl⟩
    case enter f args=>obtain ⟨rfl,hc⟩:=h1;exact ⟨aD.refl _,hc.mono fun e w'' ⟨he,hw''⟩=>⟨v,he,hw'',rfl⟩⟩
   | halt x w'=>simp only [Ri] at h1
  ·rename_i hwant
   simp only [hwant,Bool.false_eq_true,if_false] at h1
   exact h1.symm
 ·cases ho:o.dst <;> simp [Act.put]
 ·cases ho:o.dst <;> rfl
def cN (F:bV) (w:World):List Tmp→(Act→Prop)→Act→Prop
 | [],k,a=>k a
 | t :: ts,k,a=>∀ u,(∀ G,F.get t=some G→G u w)→cN F w ts k (a.put (some t) u)
theorem Bh {F:bV} {w:World} {a':Act}:∀ (ts:List Tmp) {k:Act→Prop} {a:Act},cN F w ts k a→(∀ t∈ts,t<a.tmps.size)→(∀ t∈ts,∀ G,F.get t=some G→G (a'.tmps.getD t undef) w)→
 ∃ b:Act,k b∧b.tmps.size=a.tmps.size∧∀ t,b.tmps.getD t undef=if t∈ts then a'.tmps.getD t undef else a.tmps.getD t undef
 | [],k,a,h,_,_=>⟨a,h,rfl,fun t=>by simp⟩
 |t :: ts,k,a,h,hz,hG=>by
  obtain ⟨b,hk,hs,hb⟩:=Bh ts (h _ (hG t (by simp))) (fun s hs=>by simpa [Act.put] using hz s (by simp [hs])) (fun s hs=>hG s (by simp [hs]))
  refine ⟨b,hk,by simpa [Act.put] using hs,fun s=>?_⟩
  rw [hb s]
  by_cases h1:s∈ts
  ·simp [h1]
  ·by_cases h2:s=t
   ·subst h2
    have hz':s<a.tmps.size:=hz s (by simp)
    simp [h1,Act.put,hz']
   ·simp [h1,h2,Act.put,Array.getElem?_setIfInBounds_ne (Ne.symm h2)]
def Rk (ops:Array Oper) (o:Oper) (F:bV) (ts:List Tmp) (m:Nat):Bool:=Qh o && ts.all (fun t=>decide (t<m) && (o.looksAt ops).contains t) && (o.looksAt ops).all fun t=>ts.contains t || F.all (·.1 != t)
theorem cU {Q:Act→bV→Prop} {o:Oper} {l:List Oper} {a:Act} {F:bV} {d:Tmp} (ts:List Tmp) (G:Value→World→Prop) (hG:∀ u w w',aD w0 w→aD w w'→G u w→G u w') (hdst:o.dst=some d)
 (hp:Rk ops o F ts a.tmps.size=true)
 (h:∀ w,aD w0 w→cN F w ts (fun a=>if Region.wanted o (yielded ops a.tmps) then uM P w (.p G) ((execOp a.eval o).run P w) else G undef w) a) (hr:So P ops w0 Q l a ((d,G) :: F)):So P ops w0 Q (o :: l) a F:=by
 simp only [Rk,Bool.and_eq_true] at hp
 obtain ⟨⟨hs,hz⟩,hl⟩:=hp
 have hz':∀ t∈ts,t<a.tmps.size:=fun t ht=>by have:=List.all_eq_true.1 hz t ht;simp at this;exact this.1
 have bE:∀ t∈ts,t∈o.looksAt ops:=fun t ht=>by have:=List.all_eq_true.1 hz t ht;simp at this;exact this.2
 refine ⟨.p G,(d,G) :: F,a,⟨fun u w w' h1 h2 h3=>hG u w w' h1 h2 h3,fun a' w hw ht=>?_⟩,fun t=>?_,rfl,rfl,hr⟩
 ·have hl':∀ t∈o.looksAt ops,t∈ts∨F.get t=none:=fun t hm=>by
   have:=List.all_eq_true.1 hl t hm
   simp only [Bool.or_eq_true] at this
   rcases this with h1 | h1
   ·exact .inl (by simpa using h1)
   ·exact .inr (iR h1)
  have gH:∀ t∈ts,∀ G',F.get t=some G'→G' (a'.tmps.getD t undef) w:=fun t Yi G' hG'=>by
   have h1:=ht t (bE t Yi)
   rw [gV hG'] at h1
   exact h1
  obtain ⟨b,hb,_,hbt⟩:=Bh (a':=a') ts (h w hw) hz' gH
  have zcV:∀ t∈o.looksAt ops,a'.tmps.getD t undef=b.tmps.getD t undef:=fun t hm=>by
   rw [hbt t]
   by_cases h1:t∈ts
   ·simp [h1]
   ·have h2:=(hl' t hm).resolve_left h1
    have:=ht t hm
    rw [bN h2] at this
    rw [if_neg h1]
    exact this
  rw [uT zcV,vN (fun cs b=>Ah hs cs b) zcV]
  exact hb
 ·unfold kZ
  rw [hdst]
  by_cases h1:d=t
  ·subst h1;simp [gV bV.get_cons_self]
  ·simp only [Option.some.injEq,h1,if_false]
   unfold fG
   rw [bV.get_cons_ne h1]
def bL (w:World):bV→(Act→Prop)→Act→Prop
 | [],k,a=>k a
 | (t,G) :: F,k,a=>∀ u,G u w→bL w F k (a.put (some t) u)
def iB:bV→Bool
 | []=>true
 | (t,_) :: F=>F.all (·.1 != t) && iB F
theorem kH {w:World} {a':Act}:∀ (F:bV) {k:Act→Prop} {a:Act},iB F=true→bL w F k a→a'.tmps.size=a.tmps.size→a'.defers=a.defers→(F.all fun x=>x.1<a.tmps.size)=true→
 (∀ t G,F.get t=some G→G (a'.tmps.getD t undef) w)→(∀ t,F.get t=none→a'.tmps.getD t undef=a.tmps.getD t undef)→k a'
 |[],k,a,_,h,hs,hd,_,_,hn=>by
  have e:a'=a:=by
   obtain ⟨t',d'⟩:=a'
   obtain ⟨t,d⟩:=a
   simp only at hs hd hn
   subst hd
   have:t'=t:=by
    apply Array.ext hs
    intro i h1 h2
    have:=hn i rfl
    simpa [h1,h2] using this
   rw [this]
  rw [e];exact h
 |(t,G) :: F',k,a,hB,h,hs,hd,hz,hp,hn=>by
  let F:bV:=F'
  simp only [iB,Bool.and_eq_true] at hB
  simp only [List.all_cons,Bool.and_eq_true,decide_eq_true_eq] at hz
  have zkB:bV.get F t=none:=iR hB.1
  refine kH F hB.2 (h _ (hp t G bV.get_cons_self)) (by simpa [Act.put] using hs) hd (by simpa [Act.put] using hz.2) (fun s G' hs'=>?_) (fun s hs'=>?_)
  ·have aZ:t≠s:=fun e=>by subst e;rw [zkB] at hs';cases hs'
   exact hp s G' (by rw [bV.get_cons_ne aZ];exact hs')
  ·by_cases aZ:t=s
   ·subst aZ
    simp [Act.put,hz.1]
   ·rw [hn s (by rw [bV.get_cons_ne aZ];exact hs')]
    simp [Act.put,Array.getElem?_setIfInBounds_ne aZ]
theorem aC {id:Nat} {Q:Exit→Act→World→Prop} {a:Act} {w:World} {l:List Oper} (n:Nat) (hm:P.follows .mixedOrders=true) (hB:Uh l.toArray n=true) (hd:n6 l.toArray a.tmps.size=true)
 (h:So P l.toArray w (fun a1 F=>iB F=true∧(F.all fun x=>x.1<a.tmps.size)=true∧∀ w',aD w w'→bL w' F (fun a'=>wpList P l.toArray Q (l.drop n) a' w') a1) (l.take n) a []):(Code.region id l.toArray true).wp P Q a w:=by
 refine Dc (ds:=a.defers) n (fG a []) a.tmps.size hm hB hd (fun t=>?_) ⟨rfl,rfl,fun t _=>?_⟩ (fV (ds:=a.defers) (m:=a.tmps.size) (fun a1 F gG Rl hq a' w' hw' hf=>?_) _ a [] rfl rfl h)
 ·rw [bN (by rfl)];exact AV.stable_k _ _
 ·rw [bN (by rfl)];rfl
 ·obtain ⟨hB1,hz,hq⟩:=hq
  refine kH (a':=a') F hB1 (hq w' hw') (hf.1.trans gG.symm) (hf.2.1.trans Rl.symm) (by rw [gG];exact hz) (fun t G hG=>?_) (fun t hn=>?_)
  ·have bC:t<a.tmps.size:=by
    have:=hz
    simp only [bV.get,Option.map_eq_some_iff] at hG
    obtain ⟨x,hx,_⟩:=hG
    have h1:=List.find?_some hx
    have h2:=List.all_eq_true.1 hz x (List.mem_of_find?_eq_some hx)
    simp at h1 h2
    rw [← h1];exact h2
   have:=hf.2.2 t bC
   rw [gV hG] at this
   exact this
  ·by_cases bC:t<a.tmps.size
   ·have:=hf.2.2 t bC
    rw [bN hn] at this
    exact this
   ·have h1:a'.tmps.size≤t:=by rw [hf.1];exact Nat.le_of_not_lt bC
    have h2:a1.tmps.size≤t:=by rw [gG];exact Nat.le_of_not_lt bC
    simp [h1,h2]
end
def Sl (w:World) (A:Option Addr) (n size:Nat) (xs:List Value):Prop:=
 xs.length=n*size∧(0<n→∃ b off,A=some ⟨b,off,none⟩∧∀ (j:Nat) (u:Value),xs[j]?=some u→w.cell? ⟨b,off+j,none⟩=some u)
theorem Sl.ext {w w':World} {A:Option Addr} {n size:Nat} {xs:List Value} (h:Sl w A n size xs) (hw:aD w w'):Sl w' A n size xs:=
 ⟨h.1,fun hn=>let ⟨b,off,hA,hc⟩:=h.2 hn;⟨b,off,hA,fun j u hu=>hw.cell (hc j u hu)⟩⟩
theorem Sl.nil (w:World) (A:Option Addr) (size:Nat):Sl w A 0 size []:=⟨by simp,fun h=>absurd h (by omega)⟩
theorem kO (b o i:Nat):(⟨b,o,none⟩ : Addr).add i =⟨b,o+i,none⟩:=by unfold Addr.add;split <;> simp_all
theorem Sl.own {w:World} {base:Nat} {e:TypeId} {size n c:Nat} {A:Option Addr} {xs:List Value} (h:w.ownsRow base e size (.slice A n c) n xs):Sl w A n size xs:=by
 refine ⟨h.1,fun hn=>?_⟩
 rcases h.2 with ⟨h1,h2⟩ | ⟨g,cap,cur,hv,_⟩
 ·omega
 ·injection hv with hA
  subst hA
  refine ⟨g,0,rfl,fun j u hu=>?_⟩
  have:=h.cells (g:=g) rfl j u hu
  rwa [kO] at this
def aL (w:World) (g:Nat) (t:TypeId) (cs:Array Value):Prop:=w.heap[g]?=some (.cells cs t (0,0))
theorem aL.lt {w:World} {g:Nat} {t:TypeId} {cs:Array Value} (h:aL w g t cs):g<w.heap.size:=by
 rcases Nat.lt_or_ge g w.heap.size with bC | sR
 ·exact bC
 ·unfold aL at h;rw [Array.getElem?_eq_none sR] at h;cases h
theorem aL.cell {w:World} {g:Nat} {t:TypeId} {cs:Array Value} (h:aL w g t cs) (i:Nat):w.cell? ⟨g,i,none⟩=cs[i]?:=cell_of_row w g i cs t (0,0) h
theorem aL.frozen {w:World} {g:Nat} {t:TypeId} {cs:Array Value} (h:aL w g t cs) (i:Nat):w.frozen? ⟨g,i,none⟩=false:=by
 unfold aL at h
 simp [World.frozen?,h]
theorem aL.new (w:World) (t:TypeId) (cs:Array Value):aL (w.alloc (.cells cs t)) w.heap.size t cs:=heap_alloc_new w _
theorem aL.ext {w w':World} {g:Nat} {t:TypeId} {cs:Array Value} (h:aL w g t cs) (hw:aD w w'):aL w' g t cs:=(hw.block h.lt).trans h
theorem aL.set_ {w:World} {g:Nat} {t:TypeId} {cs:Array Value} (h:aL w g t cs) (i:Nat) (u:Value):aL (w.setCell ⟨g,i,none⟩ u) g t (cs.setIfInBounds i u):=by
 unfold aL at h ⊢
 simp [World.setCell,Array.getElem?_modify,h]
theorem aL.far {w:World} {g:Nat} {t:TypeId} {cs:Array Value} (h:aL w g t cs) {p:Addr} (hp:g≠p.block) (u:Value):aL (w.setCell p u) g t cs:=(Below.heap_setCell w p u g hp).trans h
theorem aL.sl {w:World} {g:Nat} {t:TypeId} {cs:Array Value} (h:aL w g t cs) {n size:Nat} (hn:cs.size=n*size):Sl w (some ⟨g,0,none⟩) n size cs.toList:=
 ⟨by rw [Array.length_toList];exact hn,fun _=>⟨g,0,rfl,fun j u hu=>by rw [Nat.zero_add,h.cell];simpa using hu⟩⟩
def fA (vals:List Value) (z:Value) (i:Nat):Array Value:=(vals.take i ++ List.replicate (vals.length - i) z).toArray
theorem yC (vals:List Value) (z:Value):madeCells #[z] vals.length=fA vals z 0:=by
 apply Array.toList_inj.1
 rw [toList_madeCells_one];simp [fA]
theorem I1 (vals:List Value) (z:Value) (i:Nat) (h:i≤vals.length):(fA vals z i).size=vals.length:=by simp [fA];omega
theorem Bk (vals:List Value) (z:Value) (i:Nat) (h:i<vals.length):(fA vals z i)[i]?=some z:=by
 simp only [fA,List.getElem?_toArray]
 rw [List.getElem?_append_right (by simp;omega)]
 simp only [List.length_take]
 rw [List.getElem?_replicate]
 simp;omega
theorem tX (vals:List Value) (z:Value) (i:Nat) (v:Value) (h:vals[i]?=some v):(fA vals z i).setIfInBounds i v=fA vals z (i+1):=by
 have hl:i<vals.length:=(List.getElem?_eq_some_iff.1 h).1
 have ht:vals.take (i+1)=vals.take i ++ [v]:=by rw [List.take_add_one,h];rfl
 have hr:List.replicate (vals.length - i) z=z :: List.replicate (vals.length - (i+1)) z:=by
  rw [show vals.length - i=(vals.length - (i+1))+1 by omega,List.replicate_succ]
 unfold fA
 rw [ht,hr,List.setIfInBounds_toArray]
 congr 1
 rw [List.set_append_right _ _ (by simp;omega)]
 simp [Nat.min_eq_left (Nat.le_of_lt hl)]
theorem Ns (vals:List Value) (z:Value):fA vals z vals.length=vals.toArray:=by simp [fA]
def aQ (xs:List Value):Prop:=∀ v∈xs,v.oneCell'=true
def wN (w0:World) (e:TypeId) (size n:Nat) (xs:List Value) (en:Ending) (w':World):Prop:=
 ∃ A c,en=.returned (.slice A n c)∧w'.ownsRow w0.heap.size e size (.slice A n c) n xs∧aD w0 w'
theorem aL.grown {w w':World} {g:Nat} {t:TypeId} {cs:Array Value} {row:Option Nat} (h:aL w g t cs) (hb:w.grownBy w' row) (hg:some g≠row):aL w' g t cs:=(hb.block g h.lt hg).trans h
theorem aN {w:World} {base g:Nat} {e t:TypeId} {size n:Nat} {v:Value} {xs:List Value} {cs:Array Value} (h:w.ownsRow base e size v n xs) (hb:aL w g t cs) (aZ:e≠t):some g≠v.ownBlock:=by
 rcases h.2 with ⟨rfl,_⟩ | ⟨g',cap,cur,rfl,_,hh,_⟩
 ·simp [Value.ownBlock]
 ·intro he
  have:g'=g:=by simpa [Value.ownBlock] using he.symm
  subst this
  unfold aL at hb
  rw [hb] at hh
  injection hh with hh
  injection hh with _ ht
  exact aZ ht.symm
section
variable {P:Program}
theorem Jc (w:World) (dT sT ty elem:TypeId) (g o dLen dCap:Nat) (A:Option Addr) (sLen sCap size:Nat) (cur:Array Value) (t:TypeId) (xs:List Value)
 (hu:P.underlying dT=some (.slice elem)) (hs:(P.info? elem).map (·.size)=some size)
 (hg:w.heap[g]?=some (.cells cur t (0,0))) (hx:Sl w A sLen size xs) (Lr:sLen≤dLen) (dW:o+xs.length≤cur.size) (h1:aQ xs) :
 (Builtin.copy_ #[dT,sT] ty #[.slice (some ⟨g,o,none⟩) dLen dCap,.slice A sLen sCap]).run P w =
  .ok (goInt sLen) (w.setRow g (cur.toList.take o ++ xs ++ cur.toList.drop (o+xs.length)).toArray):=by
 have fI:=run_storeCells_at P g o t xs 0 cur w hg (by simpa using dW) h1
 have hm:Nat.min sLen dLen=sLen:=Nat.min_eq_left Lr
 cases hq:P.info? elem with
 | none=>simp [hq] at hs
 |some i=>
  have hi:i.size=size:=by simpa [hq] using hs
  by_cases h0:sLen=0
  ·subst h0
   have zhg:xs=[]:=List.eq_nil_of_length_eq_zero (by simpa using hx.1)
   subst zhg
   cases A with
   | none=>simp [Builtin.copy_,run_underlying hu,Builtin.lenOf,Builtin.firstCells,sizeOf,typeInfo,hq,fI]
   |some a=>
    have hl:=run_loadCells_list (P:=P) w a [] (fun j v hv=>by simp at hv)
    simp only [List.length_nil] at hl
    simp [Builtin.copy_,run_underlying hu,Builtin.lenOf,Builtin.firstCells,sizeOf,typeInfo,hq,hl,fI]
  ·obtain ⟨b,off,rfl,hc⟩:=hx.2 (by omega)
   have hl:=run_loadCells_list (P:=P) w ⟨b,off,none⟩ xs (fun j v hv=>by rw [kO];exact hc j v hv)
   rw [hx.1] at hl
   simp [Builtin.copy_,run_underlying hu,Builtin.lenOf,Builtin.firstCells,sizeOf,typeInfo,hq,hi,hm,hl,fI]
theorem qL {w:World} {ops:Array Oper} {rest:List Oper} {o:Oper} {a:Act} {Q:Exit→Act→World→Prop} (nK:o.guard=none) (d s:Operand) (dT sT:TypeId)
 (ho:o.op=.call {callee:=.builtin .copy,args:=#[d,s],argTypes:=#[dT,sT]}) (elem:TypeId) (size:Nat) (hu:P.underlying dT=some (.slice elem)) (oZ:(P.info? elem).map (·.size)=some size)
 (A:Option Addr) (g off dLen dCap sLen sCap:Nat) (hd:a.eval d=.slice (some ⟨g,off,none⟩) dLen dCap) (hs:a.eval s=.slice A sLen sCap)
 (cur:Array Value) (t:TypeId) (hg:w.heap[g]?=some (.cells cur t (0,0))) (xs:List Value) (hx:Sl w A sLen size xs) (Lr:sLen≤dLen) (dW:off+xs.length≤cur.size) (h1:aQ xs)
 (w0:World) (hb:aD w0 w) (hBg:w0.heap.size≤g)
 (h:∀ w',Hid (w'.heap[g]?=some (.cells (splice cur.toList off xs).toArray t (0,0)))→Hid (aD w0 w')→w'.heap.size=w.heap.size→wpList P ops Q rest (a.put o.dst (goInt sLen)) w') :
 wpList P ops Q (o :: rest) a w:=by
 refine wpList_plain nK fun K hK=>?_
 have rG:=Jc (P:=P) w dT sT o.type elem g off dLen dCap A sLen sCap size cur t xs hu oZ hg hx Lr dW h1
 unfold Oper.wp
 simp [execOp,ho,resolve,invoke,builtin,hd,hs,rG,Result.andThen]
 refine hK _ _ (h _ ?_ (below_setRow hb hBg _) (by simp [World.setRow]))
 exact (show _=_ by simpa [splice] using setRow_heap w g _ _ t _ hg)
theorem mT (t e:TypeId) (i:TypeInfo) (z:Value) (ht:P.underlying t=some (.slice e)) (hi:P.info? e=some i) (hz:i.zero=some z) (hb:i.bytes≤4096)
 (kl kc:IntKind) (n:Nat) (hn:n≤16777216) (w:World) :
 (Instr.makeSlice t (.int kl (n:Int)) (.int kc (n:Int))).run P w=.ok (.slice (some ⟨w.heap.size,0,none⟩) n n) (w.alloc (.cells (madeCells z.cells (n*i.size)) e)):=by
 have h1:i.bytes*n≤4096*16777216:=Nat.mul_le_mul hb hn
 have h2:(i.bytes:Int)*(n:Int)≤281474976710656:=by
  have h:((i.bytes*n:Nat):Int)≤281474976710656:=by omega
  rwa [Int.natCast_mul] at h
 have hr:=run_make (P:=P) w t e i z ht hi hz kl kc n n (by omega) (by omega) h2 (by omega)
 simp only [Int.toNat_natCast] at hr
 exact hr
theorem oB (w:World) (base:Nat) (t ty e:TypeId) (i:TypeInfo) (z:Value) (size bytes:Nat) (ht:P.underlying t=some (.slice e)) (hi:P.info? e=some i) (hz:i.zero=some z)
 (hsize:i.size=size) (hby:i.bytes=bytes) (hzs:z.cells.size=size) (oZ:0<size)
 (v:Value) (n:Nat) (xs:List Value) (cH:w.ownsRow base e size v n xs)
 (A:Option Addr) (m c:Nat) (news:List Value) (hr:Sl w A m size news) (h1:aQ news)
 (h63:n+m≤maxLen) (hbytes:(n+m)*bytes≤140737488355328) (hbase:base≤w.heap.size) :
 ∃ v' w',(Builtin.append_ #[t,t] ty #[v,.slice A m c]).run P w=.ok v' w'∧w'.ownsRow base e size v' (n+m) (xs ++ news)∧w.grownBy w' v.ownBlock∧
  (v'.ownBlock=v.ownBlock∨v'.ownBlock=some w.heap.size):=by
 rcases A with _ | ad
 ·have hm:m=0:=by
   rcases Nat.eq_zero_or_pos m with h0 | h0
   ·exact h0
   ·obtain ⟨b,off,h,_⟩:=hr.2 h0
    cases h
  subst hm
  have hn:news=[]:=List.eq_nil_of_length_eq_zero (by simpa using hr.1)
  subst hn
  refine ⟨v,w,?_,by simpa using cH,World.grownBy.refl w _,.inl rfl⟩
  rcases cH.2 with ⟨rfl,rfl⟩ | ⟨g,cap,cur,rfl,_,_,zbU,_⟩
  ·simp [Builtin.append_,run_underlying ht,sizeOf,typeInfo,hi,Builtin.lenOf,Builtin.firstCells]
  ·simp [Builtin.append_,run_underlying ht,sizeOf,typeInfo,hi,Builtin.lenOf,Builtin.firstCells,zbU,storeCells]
 ·have zaa:∀ j u,news[j]?=some u→w.cell? (ad.add j)=some u:=by
   intro j u hu
   rcases Nat.eq_zero_or_pos m with h0 | h0
   ·subst h0
    have hn:news=[]:=List.eq_nil_of_length_eq_zero (by simpa using hr.1)
    subst hn
    simp at hu
   ·obtain ⟨b,off,h,hc⟩:=hr.2 h0
    injection h with h
    subst h
    rw [kO]
    exact hc j u hu
  obtain ⟨v',w',rG,h2,h3,_,h5⟩:=run_append_own_at (P:=P) w base t ty e i z size bytes ht hi hz hsize hby hzs oZ v n xs cH ad m c news hr.1 zaa h1 h63 hbytes hbase
  exact ⟨v',w',rG,h2,h3,h5⟩
theorem Io {w:World} {o:Oper} {a:Act} {K:Act→World→Prop} {Q:Exit→Act→World→Prop} (s x:Operand) (t:TypeId)
 (ho:o.op=.call {callee:=.builtin .append,args:=#[s,x],argTypes:=#[t,t]})
 (e:TypeId) (i:TypeInfo) (z:Value) (size bytes:Nat) (ht:P.underlying t=some (.slice e)) (hi:P.info? e=some i) (hz:i.zero=some z)
 (hsize:i.size=size) (hby:i.bytes=bytes) (hzs:z.cells.size=size) (oZ:0<size) (w0:World) (hbase:aD w0 w)
 (v:Value) (n:Nat) (xs:List Value) (hs:a.eval s=v) (cH:w.ownsRow w0.heap.size e size v n xs)
 (A:Option Addr) (m c:Nat) (news:List Value) (hx:a.eval x=.slice A m c) (hr:Sl w A m size news) (h1:aQ news)
 (h63:n+m≤maxLen) (hbytes:(n+m)*bytes≤140737488355328)
 (h:∀ A' c' w',Hid (w'.ownsRow w0.heap.size e size (.slice A' (n+m) c') (n+m) (xs ++ news))→Hid (aD w0 w')→Hid (w.grownBy w' v.ownBlock)→Hid ((Value.slice A' (n+m) c').ownBlock=v.ownBlock∨(Value.slice A' (n+m) c').ownBlock=some w.heap.size)→K (a.put o.dst (.slice A' (n+m) c')) w'):o.wp P a w K Q:=by
 obtain ⟨v',w',rG,h2,h3,h4⟩:=oB (P:=P) w w0.heap.size t o.type e i z size bytes ht hi hz hsize hby hzs oZ v n xs cH A m c news hr h1 h63 hbytes hbase.size
 have hv:∃ A' c',v'=.slice A' (n+m) c':=by
  rcases h2.2 with ⟨h5,h6⟩ | ⟨g,cap,cur,h5,_⟩
  ·exact ⟨none,0,by rw [h5,h6]⟩
  ·exact ⟨_,_,h5⟩
 obtain ⟨A',c',rfl⟩:=hv
 unfold Oper.wp execOp
 simp only [ho,resolve,invoke,builtin,Sem.run_bind,Sem.run_pure,Result.andThen_ok,List.map_toArray,List.map_cons,List.map_nil,hs,hx,rG]
 refine h A' c' w' h2 (Below.grown hbase h3 hbase.size fun k hk=>?_) h3 h4
 exact (cH.lt k hk).1
theorem dJ {w:World} {ops:Array Oper} {rest:List Oper} {o:Oper} {a:Act} {Q:Exit→Act→World→Prop} (nK:o.guard=none) (s x:Operand) (t:TypeId)
 (ho:o.op=.call {callee:=.builtin .append,args:=#[s,x],argTypes:=#[t,t]})
 (e:TypeId) (i:TypeInfo) (z:Value) (size bytes:Nat) (ht:P.underlying t=some (.slice e)) (hi:P.info? e=some i) (hz:i.zero=some z)
 (hsize:i.size=size) (hby:i.bytes=bytes) (hzs:z.cells.size=size) (oZ:0<size) (w0:World) (hbase:aD w0 w)
 (v:Value) (n:Nat) (xs:List Value) (hs:a.eval s=v) (cH:w.ownsRow w0.heap.size e size v n xs)
 (A:Option Addr) (m c:Nat) (news:List Value) (hx:a.eval x=.slice A m c) (hr:Sl w A m size news) (h1:aQ news)
 (h63:n+m≤maxLen) (hbytes:(n+m)*bytes≤140737488355328)
 (h:∀ A' c' w',Hid (w'.ownsRow w0.heap.size e size (.slice A' (n+m) c') (n+m) (xs ++ news))→Hid (aD w0 w')→Hid (w.grownBy w' v.ownBlock)→Hid ((Value.slice A' (n+m) c').ownBlock=v.ownBlock∨(Value.slice A' (n+m) c').ownBlock=some w.heap.size)→wpList P ops Q rest (a.put o.dst (.slice A' (n+m) c')) w'):wpList P ops Q (o :: rest) a w:=
 wpList_plain nK fun _ hK=>Io s x t ho e i z size bytes ht hi hz hsize hby hzs oZ w0 hbase v n xs hs cH A m c news hx hr h1 h63 hbytes fun A' c' w' h2 h3 h4 h5=>hK _ _ (h A' c' w' h2 h3 h4 h5)
end
theorem aA {p:Prop} (h:p):Hid p:=h
structure V where
 k:Int
 i:Int
 t:ByteArray
def V.val (v:V):Value:=.agg #[.int .i64 v.k,.int .i64 v.i,.string v.t]
def V.cells (v:V):List Value:=[.int .i64 v.k,.int .i64 v.i,.string v.t]
def aO:List V→List Value
 | []=>[]
 | v :: r=>v.cells ++ aO r
theorem kG:∀ r:List V,(aO r).length=r.length*3
 | []=>rfl
 | v :: r=>by simp only [aO,List.length_append,kG r,V.cells,List.length_cons,List.length_nil];omega
theorem mF:∀ (r:List V) (i:Nat) (v:V) (j:Nat),r[i]?=some v→j<3→(aO r)[i*3+j]?=v.cells[j]?
 | [],i,v,j,h,_=>by simp at h
 |x :: r,0,v,j,h,hj=>by
  obtain rfl:x=v:=by simpa using h
  simp only [aO,Nat.zero_mul,Nat.zero_add]
  rw [List.getElem?_append_left (by simp [V.cells];omega)]
 |x :: r,i+1,v,j,h,hj=>by
  simp only [aO]
  rw [List.getElem?_append_right (by simp [V.cells];omega)]
  rw [show (i+1)*3+j - x.cells.length=i*3+j by simp [V.cells];omega]
  exact mF r i v j (by simpa using h) hj
theorem fB:∀ r:List V,aQ (aO r)
 | []=>fun v h=>by simp [aO] at h
 |x :: r=>fun v h=>by
  simp only [aO,V.cells,List.cons_append,List.nil_append,List.mem_cons] at h
  rcases h with rfl | rfl | rfl | h
  ·rfl
  ·rfl
  ·rfl
  ·exact fB r v h
theorem nT:∀ r s:List V,aO (r ++ s)=aO r ++ aO s
 | [],_=>rfl
 | x :: r,s=>by simp [aO,nT r s]
def aW (w:World) (A:Option Addr) (n:Nat) (r:List V):Prop:=n=r.length∧Sl w A n 3 (aO r)
theorem aW.len {w:World} {A:Option Addr} {n:Nat} {r:List V} (h:aW w A n r):n=r.length:=h.1
theorem aW.ext {w w':World} {A:Option Addr} {n:Nat} {r:List V} (h:aW w A n r) (hw:aD w w'):aW w' A n r:=⟨h.1,h.2.ext hw⟩
theorem aW.get {w:World} {A:Option Addr} {n:Nat} {r:List V} (h:aW w A n r) {i:Nat} (hi:i<n):∃ b off v,A=some ⟨b,off,none⟩∧r[i]?=some v∧b<w.heap.size∧
 w.cell? ⟨b,off+i*3,none⟩=some (.int .i64 v.k)∧w.cell? ⟨b,off+i*3+1,none⟩=some (.int .i64 v.i)∧w.cell? ⟨b,off+i*3+2,none⟩=some (.string v.t):=by
 obtain ⟨b,off,hA,hc⟩:=h.2.2 (by omega)
 have hl:i<r.length:=by have:=h.1;omega
 have hg:r[i]?=some r[i]:=List.getElem?_eq_getElem hl
 have h0:=hc (i*3) (.int .i64 r[i].k) (by have:=mF r i _ 0 hg (by omega);simpa [V.cells] using this)
 have h1:=hc (i*3+1) (.int .i64 r[i].i) (by have:=mF r i _ 1 hg (by omega);simpa [V.cells] using this)
 have h2:=hc (i*3+2) (.string r[i].t) (by have:=mF r i _ 2 hg (by omega);simpa [V.cells] using this)
 exact ⟨b,off,r[i],hA,hg,World.block_lt_of_cell? w _ h0,h0,by rw [Nat.add_assoc];exact h1,by rw [Nat.add_assoc];exact h2⟩
theorem aW.nil (w:World) (A:Option Addr):aW w A 0 []:=⟨rfl,Sl.nil _ _ _⟩
theorem aW.own {w:World} {base:Nat} {e:TypeId} {n c:Nat} {A:Option Addr} {r:List V} (h:w.ownsRow base e 3 (.slice A n c) n (aO r)):aW w A n r:=by
 have hs:=Sl.own h
 refine ⟨?_,hs⟩
 have:=hs.1
 rw [kG] at this
 omega
def sN (a b:V):Bool:=a.k == b.k && (a.i == b.i && decide (a.t=b.t))
def bP:List V→List V→Bool
 | [],[]=>true
 | [],_ :: _=>false
 | _ :: _,[]=>false
 | a :: l,b :: m=>sN a b && bP l m
theorem Tc {a b:V}:sN a b=true ↔ a=b:=by
 obtain ⟨k,i,t⟩:=a
 obtain ⟨k',i',t'⟩:=b
 simp [sN]
theorem cP:∀ {r s:List V},bP r s=true ↔ r=s
 | [],[]=>by simp [bP]
 | [],_ :: _=>by simp [bP]
 | _ :: _,[]=>by simp [bP]
 | a :: r,b :: s=>by simp [bP,Tc,cP]
theorem Sj {r s:List V} (h:r.length≠s.length):bP r s=false:=by
 cases he:bP r s with
 | false=>rfl
 | true=>exact absurd (congrArg List.length (cP.1 he)) h
theorem Oo (r s:List V) (k:Nat) (a b:V) (ha:r[k]?=some a) (hb:s[k]?=some b):bP (r.drop k) (s.drop k)=(sN a b && bP (r.drop (k+1)) (s.drop (k+1))):=by
 rw [List.getElem?_eq_some_iff] at ha hb
 obtain ⟨ha,ea⟩:=ha
 obtain ⟨hb,eb⟩:=hb
 rw [List.drop_eq_getElem_cons ha,List.drop_eq_getElem_cons hb,ea,eb];rfl
def uH (r:List V):Prop:=∀ v∈r,(-9223372036854775808≤v.k∧v.k≤9223372036854775807)∧(-9223372036854775808≤v.i∧v.i≤9223372036854775807)
def vQ (w:World) (b:Nat) (cs:List Value):Prop:=∀ (i:Nat) (u:Value),cs[i]?=some u→w.cell? ⟨b,i,none⟩=some u
theorem vQ.new (w:World) (cs:List Value) (t:TypeId) (fr:Nat × Nat):vQ (w.alloc (.cells cs.toArray t fr)) w.heap.size cs:=fun i u h=>by
 rw [cell_of_row _ _ i cs.toArray t fr (heap_alloc_new w _)]
 simpa using h
theorem aW.lit (w:World) (r:List V) (t:TypeId):aW (w.alloc (.cells (aO r).toArray t)) (some ⟨w.heap.size,0,none⟩) r.length r:=
 ⟨rfl,kG r,fun _=>⟨w.heap.size,0,rfl,fun j u hu=>by rw [Nat.zero_add];exact vQ.new w (aO r) t (0,0) j u hu⟩⟩
theorem aB {w0:World} {p:Addr} {v:Value} (h:w0.cell? p=some v):∀ w,aD w0 w→w.cell? p=some v:=fun _ hw=>hw.cell h
theorem y7 {k:IntKind} {a b:Int} (h:a=b):Ending.returned (.int k a)=.returned (.int k b):=by rw [h]
theorem bX {a b:Bool} (h:a=b):Ending.returned (.bool a)=.returned (.bool b):=by rw [h]
inductive gJ {α:Type} (R:World→List Value→α→Prop) (s:Nat) (w:World):List Value→List α→Prop
 | nil:gJ R s w [] []
 | cons {cs:List Value} {x:α} {cells:List Value} {xs:List α}:cs.length=s→aQ cs→R w cs x→gJ R s w cells xs→gJ R s w (cs ++ cells) (x :: xs)
def Xc {α:Type} (R:World→List Value→α→Prop):Prop:=∀ w w' cs x,aD w w'→R w cs x→R w' cs x
section
variable {α:Type} {R:World→List Value→α→Prop} {s:Nat} {w w':World}
theorem gJ.len {cells:List Value} {xs:List α} (h:gJ R s w cells xs):cells.length=xs.length*s:=by
 induction h with
 | nil=>simp
 | cons h1 _ _ _ ih=>simp only [List.length_append,List.length_cons,h1,ih,Nat.add_mul];omega
theorem gJ.one {cells:List Value} {xs:List α} (h:gJ R s w cells xs):aQ cells:=by
 induction h with
 | nil=>intro v hv;cases hv
 |cons _ h2 _ _ ih=>
  intro v hv
  rcases List.mem_append.1 hv with h | h
  ·exact h2 v h
  ·exact ih v h
theorem gJ.ext {cells:List Value} {xs:List α} (h:gJ R s w cells xs) (hR:Xc R) (hw:aD w w'):gJ R s w' cells xs:=by
 induction h with
 | nil=>exact .nil
 | cons h1 h2 h3 _ ih=>exact .cons h1 h2 (hR _ _ _ _ hw h3) ih
theorem gJ.mono {R':World→List Value→α→Prop} {cells:List Value} {xs:List α} (h:gJ R s w cells xs) (hR:∀ cs x,R w cs x→R' w' cs x):gJ R' s w' cells xs:=by
 induction h with
 | nil=>exact .nil
 | cons h1 h2 h3 _ ih=>exact .cons h1 h2 (hR _ _ h3) ih
theorem gJ.append {cells cells':List Value} {xs xs':List α} (h:gJ R s w cells xs) (h':gJ R s w cells' xs'):gJ R s w (cells ++ cells') (xs ++ xs'):=by
 induction h with
 | nil=>exact h'
 | cons h1 h2 h3 _ ih=>rw [List.append_assoc,List.cons_append];exact .cons h1 h2 h3 ih
theorem gJ.single {cs:List Value} {x:α} (h1:cs.length=s) (h2:aQ cs) (h3:R w cs x):gJ R s w cs [x]:=by
 have:=gJ.cons h1 h2 h3 (gJ.nil (R:=R) (s:=s) (w:=w))
 rwa [List.append_nil] at this
theorem gJ.snoc {cells cs:List Value} {xs:List α} {x:α} (h:gJ R s w cells xs) (h1:cs.length=s) (h2:aQ cs) (h3:R w cs x):gJ R s w (cells ++ cs) (xs ++ [x]):=
 h.append (.single h1 h2 h3)
theorem gJ.get {cells:List Value} {xs:List α} (h:gJ R s w cells xs):∀ {i:Nat} {x:α},xs[i]?=some x→∃ cs:List Value,cs.length=s∧aQ cs∧R w cs x∧∀ j,j<s→cells[i*s+j]?=cs[j]?:=by
 induction h with
 | nil=>intro i x h;simp at h
 |@cons cs y cells xs h1 h2 h3 _ ih=>
  intro i x hx
  cases i with
  |zero=>
   obtain rfl:y=x:=by simpa using hx
   exact ⟨cs,h1,h2,h3,fun j hj=>by rw [Nat.zero_mul,Nat.zero_add,List.getElem?_append_left (by omega)]⟩
  |succ i=>
   obtain ⟨cs',e1,e2,e3,e4⟩:=ih (by simpa using hx)
   refine ⟨cs',e1,e2,e3,fun j hj=>?_⟩
   rw [List.getElem?_append_right (by rw [h1,Nat.add_mul];omega),h1,← e4 j hj]
   congr 1
   rw [Nat.add_mul];omega
theorem gJ.drop {cells:List Value} {xs:List α} (h:gJ R s w cells xs):∀ k,gJ R s w (cells.drop (k*s)) (xs.drop k):=by
 induction h with
 | nil=>intro k;simpa using gJ.nil
 |@cons cs y cells xs h1 h2 h3 h4 ih=>
  intro k
  cases k with
  | zero=>simpa using gJ.cons h1 h2 h3 h4
  |succ k=>
   have e:(cs ++ cells).drop ((k+1)*s)=cells.drop (k*s):=by
    rw [List.drop_append,h1,List.drop_of_length_le (by rw [h1,Nat.add_mul];omega),List.nil_append]
    congr 1
    rw [Nat.add_mul];omega
   rw [e]
   exact ih k
theorem gJ.take {cells:List Value} {xs:List α} (h:gJ R s w cells xs):∀ k,gJ R s w (cells.take (k*s)) (xs.take k):=by
 induction h with
 | nil=>intro k;simpa using gJ.nil
 |@cons cs y cells xs h1 h2 h3 h4 ih=>
  intro k
  cases k with
  | zero=>simpa using gJ.nil
  |succ k=>
   have e:(cs ++ cells).take ((k+1)*s)=cs ++ cells.take (k*s):=by
    rw [List.take_append,h1,List.take_of_length_le (by rw [h1,Nat.add_mul];omega)]
    congr 2
    rw [Nat.add_mul];omega
   rw [e]
   exact .cons h1 h2 h3 (ih k)
def pO (R:World→List Value→α→Prop) (s:Nat) (w:World) (A:Option Addr) (n:Nat) (xs:List α):Prop:=n=xs.length∧∃ cells,gJ R s w cells xs∧Sl w A n s cells
theorem pO.len {A:Option Addr} {n:Nat} {xs:List α} (h:pO R s w A n xs):n=xs.length:=h.1
theorem pO.ext {A:Option Addr} {n:Nat} {xs:List α} (h:pO R s w A n xs) (hR:Xc R) (hw:aD w w'):pO R s w' A n xs:=by
 obtain ⟨h1,cells,h2,h3⟩:=h
 exact ⟨h1,cells,h2.ext hR hw,h3.ext hw⟩
theorem pO.nil (A:Option Addr):pO R s w A 0 []:=⟨rfl,[],.nil,Sl.nil _ _ _⟩
theorem pO.get (hs:0<s) {A:Option Addr} {n:Nat} {xs:List α} (h:pO R s w A n xs) {i:Nat} (hi:i<n):∃ b off x cs,A=some ⟨b,off,none⟩∧xs[i]?=some x∧b<w.heap.size∧cs.length=s∧aQ cs∧R w cs x∧
 ∀ j,j<s→w.cell? ⟨b,off+i*s+j,none⟩=cs[j]?:=by
 obtain ⟨h1,cells,h2,h3⟩:=h
 obtain ⟨b,off,hA,hc⟩:=h3.2 (by omega)
 have hl:i<xs.length:=by omega
 have hg:xs[i]?=some xs[i]:=List.getElem?_eq_getElem hl
 obtain ⟨cs,e1,e2,e3,e4⟩:=h2.get hg
 have cV:∀ j,j<s→w.cell? ⟨b,off+i*s+j,none⟩=cs[j]?:=fun j hj=>by
  have hj':j<cs.length:=by omega
  have h5:cs[j]?=some cs[j]:=List.getElem?_eq_getElem hj'
  rw [h5,Nat.add_assoc]
  exact hc _ _ ((e4 j hj).trans h5)
 have h0:=cV 0 hs
 have h5:cs[0]?=some cs[0]:=List.getElem?_eq_getElem (by omega)
 exact ⟨b,off,xs[i],cs,hA,hg,World.block_lt_of_cell? w _ (h0.trans h5),e1,e2,e3,cV⟩
theorem pO.drop {b off n:Nat} {xs:List α} (h:pO R s w (some ⟨b,off,none⟩) n xs) (k:Nat) (_hk:k≤n):pO R s w (some ⟨b,off+k*s,none⟩) (n - k) (xs.drop k):=by
 obtain ⟨h1,cells,h2,h3⟩:=h
 refine ⟨by simp;omega,cells.drop (k*s),h2.drop k,by rw [List.length_drop,h3.1,Nat.sub_mul],fun hn=>?_⟩
 obtain ⟨b',off',hA,hc⟩:=h3.2 (by omega)
 injection hA with hA
 injection hA with hb ho
 subst hb;subst ho
 refine ⟨b,off+k*s,rfl,fun j u hu=>?_⟩
 rw [List.getElem?_drop] at hu
 have:=hc _ _ hu
 rwa [← Nat.add_assoc] at this
theorem pO.take {A:Option Addr} {n:Nat} {xs:List α} (h:pO R s w A n xs) (k:Nat) (hk:k≤n):pO R s w A k (xs.take k):=by
 obtain ⟨h1,cells,h2,h3⟩:=h
 have Lr:k*s≤n*s:=Nat.mul_le_mul_right s hk
 refine ⟨by simp;omega,cells.take (k*s),h2.take k,by rw [List.length_take,h3.1];omega,fun hn=>?_⟩
 obtain ⟨b,off,hA,hc⟩:=h3.2 (by omega)
 refine ⟨b,off,hA,fun j u hu=>?_⟩
 rw [List.getElem?_take] at hu
 split at hu
 ·exact hc _ _ hu
 ·cases hu
end
theorem Y0 {α:Type} {R:World→List Value→α→Prop} {s:Nat} {w:World} {b:Nat}:∀ (xs:List α) (off:Nat),
 (∀ (i:Nat) (y:α),xs[i]?=some y→∃ cs:List Value,cs.length=s∧aQ cs∧R w cs y∧∀ j,j<s→w.cell? ⟨b,off+i*s+j,none⟩=cs[j]?)→
 ∃ cells,gJ R s w cells xs∧∀ (j:Nat) (u:Value),cells[j]?=some u→w.cell? ⟨b,off+j,none⟩=some u
 | [],off,_=>⟨[],.nil,fun j u h=>by simp at h⟩
 |x :: xs,off,h=>by
  obtain ⟨cs,h1,h2,h3,h4⟩:=h 0 x rfl
  obtain ⟨cells,e1,e2⟩:=Y0 xs (off+s) (fun i y hy=>by
   obtain ⟨cs,h1,h2,h3,h4⟩:=h (i+1) y (by simpa using hy)
   refine ⟨cs,h1,h2,h3,fun j hj=>?_⟩
   rw [← h4 j hj]
   congr 2
   rw [Nat.add_mul];omega)
  refine ⟨cs ++ cells,.cons h1 h2 h3 e1,fun j u hu=>?_⟩
  rcases Nat.lt_or_ge j s with hj | hj
  ·rw [List.getElem?_append_left (by omega)] at hu
   have:=h4 j hj
   rw [Nat.zero_mul,Nat.add_zero] at this
   rw [this];exact hu
  ·rw [List.getElem?_append_right (by omega),h1] at hu
   have:=e2 _ _ hu
   rw [← this]
   congr 2
   omega
def nW:World→List Value→List V→Prop:=fun w cs r=>∃ A n c,cs=[.slice A n c]∧aW w A n r
theorem nW.stab:Xc nW:=fun _ _ _ _ hw ⟨A,n,c,h1,h2⟩=>⟨A,n,c,h1,h2.ext hw⟩
end Go.Proofs.YtahdiiaadjdmcaaGreat
