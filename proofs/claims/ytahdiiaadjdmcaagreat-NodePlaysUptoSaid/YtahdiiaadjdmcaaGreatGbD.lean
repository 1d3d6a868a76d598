import Derived.Test.YtahdiiaadjdmcaaGreatGaJ
import Derived.OrdersHeld
namespace Go.Proofs.YtahdiiaadjdmcaaGreat
open Go.RowKit
def J6 (P:Program) (ops:Array Oper) (Q:Exit→Act→World→Prop) (last:Oper):List Oper→Act→World→Prop
 | [],a,w=>wpList P ops Q [last] a w
 | o :: l,a,w=>∃ v,(∀ w,(execOp a.eval o).run P w=.ok (.value v) w)∧∀ K:Act→Prop,(∀ a,J6 P ops Q last l a w→K a)→K (a.put o.dst v)
def zdS (P:Program) (ops:Array Oper) (Q:Exit→Act→World→Prop) (last:Oper) (l:List Oper):Exit→Act→World→Prop
 | .normal,a,w=>J6 P ops Q last l a w
 | .panic c,a,w=>Q (.panic c) a w
 | e,a,w=>Q e a w
def iY (md:Region.Mode) (ops:Array Oper):Nat→Nat→Array Bool→Bool
 | 0,k,listed=>decide (Region.ready md ops listed=[k]) && (Region.ready md ops (listed.setIfInBounds k true)).isEmpty
 | f+1,k,listed=>(Region.ready md ops listed).contains k && Region.free md ops listed k && iY md ops f (k+1) (listed.setIfInBounds k true)
def Pr (md:Region.Mode) (ops:Array Oper) (n:Nat) (listed:Array Bool):Bool:=decide (Region.ready md ops listed=[n]) && iY md ops (ops.size - (n+2)) (n+1) (listed.setIfInBounds n true)
section
variable {P:Program} {ops:Array Oper} {md:Region.Mode} {w0:World} {n:Nat} {ds:List Deferred} {Q:Exit→Act→World→Prop}
theorem Hh {o:Oper} {a:Act} {w:World} {K:Act→World→Prop} {i:Nat} (hi:ops[i]?=some o) (hK:∀ a w,Q .normal a w→K a w) (h:wpList P ops Q [o] a w):wpOp P ops Q i K a w:=by
 refine wpOp_mono hK ?_
 unfold wpOp
 simp only [hi]
 unfold wpList at h
 split
 ·rename_i hw
  rw [if_pos hw] at h
  exact h
 ·rename_i hw
  rw [if_neg hw] at h
  exact h
theorem zaR {o last:Oper} {a:Act} {w:World} {l:List Oper} (h:wpList P ops (zdS P ops Q last l) [o] a w) {i:Nat} (hi:ops[i]?=some o):wpOp P ops Q i (J6 P ops Q last l) a w:=by
 unfold wpOp
 simp only [hi]
 unfold wpList at h
 split
 ·rename_i hw
  rw [if_pos hw] at h
  exact h
 ·rename_i hw
  rw [if_neg hw] at h
  exact h
theorem Au {last:Oper} (hQ:∀ c (d:Tmp) v (a:Act) w,Q (.panic c) (a.put (some d) v) w→Q (.panic c) a w) (hns:Region.noSelect ops=true) (nK:(ops.all fun o=>o.guard.isNone)=true) :
 ∀ (l:List Oper) (k:Nat) (listed:Array Bool) (a:Act) (w:World),(∀ j,(l ++ [last])[j]?=ops[k+j]?)→iY md ops l.length k listed=true→J6 P ops Q last l a w→wpAny P md ops Q (l.length+1) listed a w
 |[],k,listed,a,w,hl,hB,h=>by
  have h0:ops[k]?=some last:=by simpa using (hl 0).symm
  simp only [List.length_nil,iY,Bool.and_eq_true,decide_eq_true_eq] at hB
  refine wpAny_all hB.1 (by simp) fun i hi=>?_
  obtain rfl:=List.mem_singleton.1 hi
  exact Hh h0 (fun a w hq=>⟨by simpa using hB.2,hq⟩) h
 |o :: l,k,listed,a,w,hl,hB,⟨v,hv,h⟩=>by
  have h0:ops[k]?=some o:=by simpa using (hl 0).symm
  simp only [List.length_cons,iY,Bool.and_eq_true] at hB
  obtain ⟨⟨hr,hf⟩,hB'⟩:=hB
  have hg:o.guard.isNone=true:=by
   have:=Array.all_eq_true_iff_forall_mem.1 nK o (Array.mem_of_getElem? h0)
   exact this
  have hg':o.guard=none:=by cases h1:o.guard with | none=>rfl | some _=>rw [h1] at hg;cases hg
  exact wpAny_take h0 hns hf hr (fun c a w=>by cases o.dst with | none=>exact id | some d=>exact hQ c d v a w) (.inl ⟨by simp [Region.wanted,hg'],hv⟩) (Au hQ hns nK l (k+1) _ _ w (fun j=>by have:=hl (j+1);simpa [Nat.add_assoc,Nat.add_comm 1 j] using this) hB' (h (fun a=>J6 P ops Q last l a w) fun a h=>h))
end
def vl (ops:Array Oper) (n:Nat):Bool:=
 decide (1<n) && decide (n+1<ops.size) && Qq .any ops n && Qv .any ops n && Region.noSelect ops && Region.free .any ops (Array.replicate ops.size false) 0 && (Region.ready .any ops (Array.replicate ops.size false)).contains 0 && (ops.all fun o=>o.guard.isNone) &&
  mL .any ops (Pr .any ops n) (n - 1) 1 ((Array.replicate ops.size false).setIfInBounds 0 true)
section
variable {md:Region.Mode} {ops:Array Oper}
theorem yD {n:Nat} {listed:Array Bool} (hs:Qq md ops n=true) (hc:Qv md ops n=true) (hn:n<ops.size) (inv:HeadInv md ops n listed) :
 ∀ (d i:Nat),n - i=d→i<n→0<i→listed.getD i true=false→∀ t,n≤t→t∉Region.ready md ops listed:=by
 intro d
 induction d using Nat.strongRecOn with
 |_ d ih=>
  intro i hd hi h0i o6 t ht hr
  obtain ⟨_,ot,hot,gH⟩:=mem_ready.1 hr
  have Gq:t<ops.size:=(Array.getElem?_eq_some_iff.1 hot).1
  by_cases htn:t=n
  ·subst htn
   have h1:=List.all_eq_true.1 hs i (List.mem_range.2 hi)
   rw [Bool.or_eq_true,decide_eq_true_eq] at h1
   obtain ⟨j,hj,Fz⟩:=List.any_eq_true.1 (h1.resolve_left (by omega))
   simp only [Bool.and_eq_true,decide_eq_true_eq] at Fz
   obtain ⟨oj,hoj,e,he,hb,hon⟩:=Region.waitsFor_spec Fz.2
   have zek:j≤t:=by have:=List.mem_range.1 hj;omega
   by_cases hjt:j=t
   ·subst hjt
    have:oj=ot:=Option.some.inj (hoj.symm.trans hot)
    subst this
    have h2:=gH e he hb
    rw [hon,getD_both o6] at h2
    cases h2
   ·cases hl:listed.getD j false with
    |true=>
     have h2:=inv.closed j oj hoj hl e he hb
     rw [hon,getD_both o6] at h2
     cases h2
    |false=>
     have zdr:j<listed.size:=by rw [inv.size];omega
     exact ih (t - j) (by omega) j rfl (by omega) (by omega) (getD_in zdr hl) t (Nat.le_refl _) hr
  ·have h1:=List.all_eq_true.1 hc t (List.mem_range.2 Gq)
   simp only [Bool.or_eq_true,decide_eq_true_eq] at h1
   rcases h1 with h1 | h1
   ·omega
   ·obtain ⟨j,hj,Fz⟩:=List.any_eq_true.1 h1
    simp only [Bool.and_eq_true,decide_eq_true_eq] at Fz
    obtain ⟨o',ho',e,he,hb,hon⟩:=Region.waitsFor_spec Fz.2
    have:o'=ot:=Option.some.inj (ho'.symm.trans hot)
    subst this
    have h2:=gH e he hb
    rw [hon,getD_both (inv.tail j Fz.1 (by have:=List.mem_range.1 hj;omega))] at h2
    cases h2
end
section
variable {P:Program} {ops:Array Oper} {md:Region.Mode} {w0:World} {n:Nat} {ds:List Deferred} {Q:Exit→Act→World→Prop}
theorem pQ {E:Array Bool→Bool} {Lq:(Tmp→AV)→Prop} (hE:∀ listed,E listed=true→∀ j∈Region.ready md ops listed,n≤j) (hT:∀ i,i<n→0<i→∀ listed,HeadInv md ops n listed→listed.getD i true=false→∀ t,n≤t→t∉Region.ready md ops listed) :
 ∀ (l:List Oper) (k:Nat) (listed:Array Bool) (S:Tmp→AV),1≤k→(∀ j,j<l.length→l[j]?=ops[k+j]?)→k+l.length=n→HeadInv md ops n listed→
 mL md ops E l.length k listed=true→qB P ops w0 Lq l S→
 pR P md ops w0 n (fun listed' S'=>E listed'=true∧Lq S') l.length listed S
 | [],k,listed,S,_,_,hk,_,hB,h=>⟨hB,h⟩
 |o :: l,k,listed,S,oI,hl,hk,inv,hB,h=>by
  have h0:ops[k]?=some o:=by simpa using (hl 0 (by simp)).symm
  simp only [List.length_cons,mL,Bool.and_eq_true] at hB
  obtain ⟨⟨hr,hf⟩,hB'⟩:=hB
  have Ko:k<n:=by simp only [List.length_cons] at hk;omega
  have hr':k∈Region.ready md ops listed:=by simpa using hr
  obtain ⟨x,hy,hK⟩:=h
  exact mA h0 Ko (hT k Ko oI) (fun listed' S' hL=>hE _ hL.1) l.length listed S inv (Region.free_spec h0 hf) hr' hy
   (pQ hE hT l (k+1) _ _ (by omega) (fun j hj=>by have:=hl (j+1) (by simp;omega);simpa [Nat.add_assoc,Nat.add_comm 1 j] using this) (by simp only [List.length_cons] at hk;omega) (inv.set hr' Ko) hB' hK)
theorem rF {id:Nat} {Q:Exit→Act→World→Prop} {a:Act} {w:World} {l:List Oper} (n:Nat) (last:Oper) (hlast:l.getLast?=some last) (hm:P.follows .mixedOrders=true) (hB:vl l.toArray n=true) (hd:n6 l.toArray a.tmps.size=true) (hQ2:∀ c (d:Tmp) v (a:Act) w,Q (.panic c) (a.put (some d) v) w→Q (.panic c) a w)
 (h:∃ o0 r v,l=o0 :: r∧(Region.wanted o0 (yielded l.toArray a.tmps)=true∧∀ w,(execOp a.eval o0).run P w=.ok (.value v) w)∧(∀ c a' w,Q (.panic c) (a'.put o0.dst v) w→Q (.panic c) a' w)∧
  ∀ K:Act→bV→Prop,(∀ b F,So P l.toArray w (fun a1 F=>iB F=true∧(F.all fun x=>x.1<a.tmps.size)=true∧∀ w',aD w w'→bL w' F (fun a'=>wpList P l.toArray (zdS P l.toArray Q last ((l.drop (n+1)).dropLast)) ((l.drop n).take 1) a' w') a1) ((l.take n).drop 1) b F→K b F)→K (a.put o0.dst v) []):(Code.region id l.toArray true).wp P Q a w:=by
 obtain ⟨o0,r,v,hl,hy,hQ,hK⟩:=h
 simp only [vl,Bool.and_eq_true,decide_eq_true_eq] at hB
 obtain ⟨⟨⟨⟨⟨⟨⟨⟨m7,hn⟩,hsk⟩,hch⟩,hns⟩,yY⟩,hrd⟩,nK⟩,hlex⟩:=hB
 have hr:=hK _ fun _ _ h=>h
 have h0:l.toArray[0]?=some o0:=by simp [hl]
 have sD:n+1<l.length:=by simpa using hn
 have lP:n<l.length:=by omega
 have xN:((l.take n).drop 1).length=n - 1:=by simp;omega
 have inv0:HeadInv .any l.toArray n (Array.replicate l.toArray.size false):=
  ⟨by simp,fun j oj _ hl=>(by rw [getD_replicate_false] at hl;cases hl),fun t _ ht=>getD_in (by simpa using ht) (getD_replicate_false _ _)⟩
 have inv1:=inv0.set (by simpa using hrd) (show 0<n by omega)
 have oZ:(a.put o0.dst v).tmps.size=a.tmps.size:=by cases o0.dst <;> simp [Act.put]
 have b_:(a.put o0.dst v).defers=a.defers:=by cases o0.dst <;> rfl
 refine wp_region_any hm ?_
 have aT:aD w {w with drawn:=w.drawn+1}:=aD.drew w
 have sB:=wpAny_take (fuel:=l.toArray.size - 1) (w:={w with drawn:=w.drawn+1}) h0 hns yY hrd hQ (.inl hy)
 rw [show l.toArray.size - 1+1=l.toArray.size by omega] at sB
 refine sB ?_
 have hT:∀ i,i<n→0<i→∀ listed,HeadInv .any l.toArray n listed→listed.getD i true=false→∀ t,n≤t→t∉Region.ready .any l.toArray listed:=
  fun i hi h0i listed inv o6 t ht=>yD hsk hch (by simpa using lP) inv _ i rfl hi h0i o6 t ht
 have rA:qB P l.toArray w (fun S=>∀ a' w',aD w w'→tD S a.tmps.size a.defers a' w'→wpList P l.toArray (zdS P l.toArray Q last ((l.drop (n+1)).dropLast)) ((l.drop n).take 1) a' w') ((l.take n).drop 1) (fG (a.put o0.dst v) []):=
  fV (ds:=a.defers) (m:=a.tmps.size) (fun a1 F gG Rl hq a' w' hw' hf=>by
   obtain ⟨hB1,hz,hq⟩:=hq
   refine kH (a':=a') F hB1 (hq w' hw') (hf.1.trans gG.symm) (hf.2.1.trans Rl.symm) (by rw [gG];exact hz) (fun t G hG=>?_) (fun t hn=>?_)
   ·have bC:t<a.tmps.size:=by
     have:=hz
     simp only [bV.get,Option.map_eq_some_iff] at hG
     obtain ⟨x,hx,_⟩:=hG
     have h1:=List.find?_some hx
     have h2:=List.all_eq_true.1 hz x (List.mem_of_find?_eq_some hx)
     simp at h1 h2
     rw [← h1];exact h2
    have:=hf.2.2 t bC
    rw [gV hG] at this
    exact this
   ·by_cases bC:t<a.tmps.size
    ·have:=hf.2.2 t bC
     rw [bN hn] at this
     exact this
    ·have h1:a'.tmps.size≤t:=by rw [hf.1];exact Nat.le_of_not_lt bC
     have h2:a1.tmps.size≤t:=by rw [gG];exact Nat.le_of_not_lt bC
     simp [h1,h2]) _ (a.put o0.dst v) [] oZ b_ hr
 have hE:∀ listed,Pr .any l.toArray n listed=true→∀ j∈Region.ready .any l.toArray listed,n≤j:=fun listed h1 j hj=>by
  simp only [Pr,Bool.and_eq_true,decide_eq_true_eq] at h1
  rw [h1.1] at hj
  have:j=n:=by simpa using hj
  omega
 have H:=pQ (md:=.any) hE hT ((l.take n).drop 1) 1 _ (fG (a.put o0.dst v) []) (Nat.le_refl _) (fun j hj=>by
  have hj':1+j<n:=by rw [xN] at hj;omega
  rw [List.getElem?_drop,List.getElem?_take_of_lt hj',List.getElem?_toArray]) (by rw [xN];omega) inv1 (by rw [xN];exact hlex) rA
 obtain ⟨o,ho⟩ : ∃ o,l[n]?=some o:=⟨_,List.getElem?_eq_getElem lP⟩
 have zcQ:(l.drop n).take 1=[o]:=by
  rw [List.drop_eq_getElem_cons lP]
  rw [List.getElem?_eq_getElem lP] at ho
  simp at ho
  simp [ho]
 have:=fU (w0:=w) (ds:=a.defers) (Q':=Q) (g:=l.toArray.size - (n+1)+1) hd (fun listed S hL a' w' hw' hf=>by
  have h1:=hL.1
  simp only [Pr,Bool.and_eq_true,decide_eq_true_eq] at h1
  have h2:=hL.2 a' w' hw' hf
  rw [zcQ] at h2
  refine ⟨fun h3=>(by rw [h1.1] at h3;cases h3),fun i hi=>?_⟩
  rw [h1.1] at hi
  have bE:i=n:=by simpa using hi
  subst bE
  have h4:=zaR (i:=i) h2 (by simpa using ho)
  refine wpOp_mono (fun a2 w2 h5=>?_) h4
  have xZ:((l.drop (i+1)).dropLast).length=l.toArray.size - (i+2):=by simp;omega
  have ε:(l.drop (i+1)).dropLast ++ [last]=l.drop (i+1):=by
   have aZ:l.drop (i+1)≠[]:=by intro e;have:=congrArg List.length e;simp at this;omega
   have h9:(l.drop (i+1)).getLast?=some last:=by rw [List.getLast?_drop,if_neg (by omega)];exact hlast
   have yQ:(l.drop (i+1)).getLast aZ=last:=by rw [List.getLast?_eq_some_getLast aZ] at h9;exact Option.some.inj h9
   have Cr:=List.dropLast_concat_getLast aZ
   rw [yQ] at Cr;exact Cr
  have h6:=Au (P:=P) (md:=.any) (ops:=l.toArray) (last:=last) hQ2 hns nK ((l.drop (i+1)).dropLast) (i+1) (listed.setIfInBounds i true) a2 w2 (fun j=>by rw [ε];simp [List.getElem?_drop]) (by rw [xZ];simpa using h1.2) h5
  rw [xZ,show l.toArray.size - (i+2)+1=l.toArray.size - (i+1) by simp;omega] at h6
  simpa using h6) _ _ (fG (a.put o0.dst v) []) (fun t=>by rw [bN (by rfl)];exact AV.stable_k _ _) H (a.put o0.dst v) _ aT ⟨oZ,b_,fun t _=>by rw [bN (by rfl)];rfl⟩
 rw [xN,show n - 1+(l.toArray.size - (n+1)+1)=l.toArray.size - 1 by simp;omega] at this
 exact this
end
def P_ (Q:Exit→Act→World→Prop) (St:World→Prop):Exit→Act→World→Prop
 | .normal,a,w=>St w∧Q .normal a w
 | .panic c,a,w=>Q (.panic c) a w
 | e,a,w=>Q e a w
def Wb (P:Program) (ops:Array Oper) (Q:Exit→Act→World→Prop) (St:World→Prop) (last:Oper):List Oper→Act→World→Prop
 | [],a,w=>wpList P ops (P_ Q St) [last] a w
 | o :: l,a,w=>∃ v,(∀ w,(execOp a.eval o).run P w=.ok (.value v) w)∧∀ K:Act→Prop,(∀ a,Wb P ops Q St last l a w→K a)→K (a.put o.dst v)
def zdb (P:Program) (ops:Array Oper) (Q:Exit→Act→World→Prop) (St:World→Prop) (last:Oper) (l:List Oper):Exit→Act→World→Prop
 | .normal,a,w=>St w∧Wb P ops Q St last l a w
 | .panic c,a,w=>Q (.panic c) a w
 | e,a,w=>Q e a w
section
variable {P:Program} {ops:Array Oper} {md:Region.Mode} {w0:World} {n:Nat} {ds:List Deferred} {Q:Exit→Act→World→Prop} {St:World→Prop}
theorem Dd {o:Oper} {a:Act} {w:World} {K:Act→World→Prop} {i:Nat} (hi:ops[i]?=some o) (hK:∀ a w,St w∧Q .normal a w→K a w) (h:wpList P ops (P_ Q St) [o] a w):wpOp P ops Q i K a w:=by
 refine wpOp_mono hK ?_
 unfold wpOp
 simp only [hi]
 unfold wpList at h
 split
 ·rename_i hw
  rw [if_pos hw] at h
  exact h
 ·rename_i hw
  rw [if_neg hw] at h
  exact h
theorem zbQ {o last:Oper} {a:Act} {w:World} {l:List Oper} (h:wpList P ops (zdb P ops Q St last l) [o] a w) {i:Nat} (hi:ops[i]?=some o):wpOp P ops Q i (fun a w=>St w∧Wb P ops Q St last l a w) a w:=by
 unfold wpOp
 simp only [hi]
 unfold wpList at h
 split
 ·rename_i hw
  rw [if_pos hw] at h
  exact h
 ·rename_i hw
  rw [if_neg hw] at h
  exact h
theorem nZ {m g:Nat} {L:Array Bool→(Tmp→AV)→Prop} {Q':Exit→Act→World→Prop} (hd:n6 ops m=true) (hSt:∀ w',aD w0 w'→St w')
 (hL:∀ listed S,L listed S→∀ a w,aD w0 w→tD S m ds a w→wpAnyH P md ops Q' St g listed a w) :
 ∀ (f:Nat) (listed:Array Bool) (S:Tmp→AV),(∀ t,(S t).Stable w0)→pR P md ops w0 n L f listed S→∀ a w,aD w0 w→tD S m ds a w→wpAnyH P md ops Q' St (f+g) listed a w
 | 0,listed,S,_,h=>fun a w hw ha=>by rw [Nat.zero_add];exact hL _ _ h a w hw ha
 |f+1,listed,S,hS,h=>fun a w hw ha=>by
  rw [show f+1+g=(f+g)+1 by omega]
  refine ⟨fun h0=>absurd h0 h.1,fun i hi=>?_⟩
  have h2:=(h.2 i hi).2
  unfold jz at h2
  unfold wpOp
  cases ho:ops[i]? with
  | none=>simp only [ho] at h2 ⊢;exact ⟨hSt w hw,nZ hd hSt hL f _ S hS h2 a w hw ha⟩
  |some o=>
   simp only [ho] at h2 ⊢
   obtain ⟨x,⟨fI,hx⟩,hK⟩:=h2
   have bE:(o.dst.all (·<m))=true∧(o.looksAt ops).all (·<m)=true:=by
    have:=Array.all_eq_true_iff_forall_mem.1 hd o (Array.mem_of_getElem? ho)
    simpa using this
   have h3:=hx a w hw fun t ht=>ha.2.2 t (by have:=List.all_eq_true.1 bE.2 t ht;simpa using this)
   have hS':∀ t,(kZ S o.dst x t).Stable w0:=fun t=>by
    unfold kZ
    split
    ·exact fI
    ·exact hS t
   have go:∀ v w',aD w w'→x.sat v w'→St w'∧wpAnyH P md ops Q' St (f+g) (listed.setIfInBounds i true) (a.put o.dst v) w':=fun v w' hw' hv=>
    ⟨hSt _ (hw.trans hw'),nZ hd hSt hL f _ _ hS' hK _ _ (hw.trans hw') (ha.put hS hw hw' hv)⟩
   split
   ·rename_i hwant
    simp only [hwant,if_true] at h3
    refine .inl ?_
    unfold Oper.wp
    generalize (execOp a.eval o).run P w=r at h3 ⊢
    cases r with
    |ok nx w'=>
     cases nx <;> simp only [uM] at h3 <;> simp only [Oper.upon]
     case value u=>exact go _ _ h3.1 h3.2
     case skip=>exact go _ _ h3.1 h3.2
     case enter fn args=>exact h3.2.mono fun e w'' ⟨v,he,hw'',hv⟩=>by subst he;exact go _ _ (h3.1.trans hw'') hv
    | halt x w'=>simp only [uM] at h3
   ·rename_i hwant
    simp only [hwant,Bool.false_eq_true,if_false] at h3
    exact go _ _ (aD.refl _) h3
theorem Ck {St:World→Prop} {last:Oper} (hQ:∀ c (d:Tmp) v (a:Act) w,Q (.panic c) (a.put (some d) v) w→Q (.panic c) a w) (hns:Region.noSelect ops=true) (nK:(ops.all fun o=>o.guard.isNone)=true) :
 ∀ (l:List Oper) (k:Nat) (listed:Array Bool) (a:Act) (w:World),(∀ j,(l ++ [last])[j]?=ops[k+j]?)→iY md ops l.length k listed=true→St w→Wb P ops Q St last l a w→wpAnyH P md ops Q St (l.length+1) listed a w
 |[],k,listed,a,w,hl,hB,hSw,h=>by
  have h0:ops[k]?=some last:=by simpa using (hl 0).symm
  simp only [List.length_nil,iY,Bool.and_eq_true,decide_eq_true_eq] at hB
  refine wpAnyH_all hB.1 (by simp) fun i hi=>?_
  obtain rfl:=List.mem_singleton.1 hi
  exact Dd h0 (fun a w hq=>⟨hq.1,by simpa using hB.2,hq.2⟩) h
 |o :: l,k,listed,a,w,hl,hB,hSw,⟨v,hv,h⟩=>by
  have h0:ops[k]?=some o:=by simpa using (hl 0).symm
  simp only [List.length_cons,iY,Bool.and_eq_true] at hB
  obtain ⟨⟨hr,hf⟩,hB'⟩:=hB
  have hg:o.guard.isNone=true:=by
   have:=Array.all_eq_true_iff_forall_mem.1 nK o (Array.mem_of_getElem? h0)
   exact this
  have hg':o.guard=none:=by cases h1:o.guard with | none=>rfl | some _=>rw [h1] at hg;cases hg
  exact wpAnyH_take h0 hns hf hr (fun c a w=>by cases o.dst with | none=>exact id | some d=>exact hQ c d v a w) (.inl ⟨by simp [Region.wanted,hg'],fun w _=>hv w⟩) hSw (Ck hQ hns nK l (k+1) _ _ w (fun j=>by have:=hl (j+1);simpa [Nat.add_assoc,Nat.add_comm 1 j] using this) hB' hSw (h (fun a=>Wb P ops Q St last l a w) fun a h=>h))
theorem rN {id:Nat} {Q:Exit→Act→World→Prop} {a:Act} {w:World} {l:List Oper} (n:Nat) (St:World→Prop) (last:Oper) (hlast:l.getLast?=some last) (hm:P.follows .mixedOrders=true) (hB:vl l.toArray n=true) (hSt:∀ w',aD w w'→St w') (hd:n6 l.toArray a.tmps.size=true) (hQ2:∀ c (d:Tmp) v (a:Act) w,Q (.panic c) (a.put (some d) v) w→Q (.panic c) a w)
 (h:∃ o0 r v,l=o0 :: r∧(Region.wanted o0 (yielded l.toArray a.tmps)=true∧∀ w,St w→(execOp a.eval o0).run P w=.ok (.value v) w)∧(∀ c a' w,Q (.panic c) (a'.put o0.dst v) w→Q (.panic c) a' w)∧
  ∀ K:Act→bV→Prop,(∀ b F,So P l.toArray w (fun a1 F=>iB F=true∧(F.all fun x=>x.1<a.tmps.size)=true∧∀ w',aD w w'→bL w' F (fun a'=>wpList P l.toArray (zdb P l.toArray Q St last ((l.drop (n+1)).dropLast)) ((l.drop n).take 1) a' w') a1) ((l.take n).drop 1) b F→K b F)→K (a.put o0.dst v) []):(Code.region id l.toArray true).wp P Q a w:=by
 obtain ⟨o0,r,v,hl,hy,hQ,hK⟩:=h
 simp only [vl,Bool.and_eq_true,decide_eq_true_eq] at hB
 obtain ⟨⟨⟨⟨⟨⟨⟨⟨m7,hn⟩,hsk⟩,hch⟩,hns⟩,yY⟩,hrd⟩,nK⟩,hlex⟩:=hB
 have hr:=hK _ fun _ _ h=>h
 have h0:l.toArray[0]?=some o0:=by simp [hl]
 have sD:n+1<l.length:=by simpa using hn
 have lP:n<l.length:=by omega
 have xN:((l.take n).drop 1).length=n - 1:=by simp;omega
 have inv0:HeadInv .any l.toArray n (Array.replicate l.toArray.size false):=
  ⟨by simp,fun j oj _ hl=>(by rw [getD_replicate_false] at hl;cases hl),fun t _ ht=>getD_in (by simpa using ht) (getD_replicate_false _ _)⟩
 have inv1:=inv0.set (by simpa using hrd) (show 0<n by omega)
 have oZ:(a.put o0.dst v).tmps.size=a.tmps.size:=by cases o0.dst <;> simp [Act.put]
 have b_:(a.put o0.dst v).defers=a.defers:=by cases o0.dst <;> rfl
 refine wp_region_held (S:=St) hm ?_
 have aT:aD w {w with drawn:=w.drawn+1}:=aD.drew w
 have sB:=wpAnyH_take (S:=St) (fuel:=l.toArray.size - 1) (w:={w with drawn:=w.drawn+1}) h0 hns yY hrd hQ (.inl hy) (hSt _ aT)
 rw [show l.toArray.size - 1+1=l.toArray.size by omega] at sB
 refine sB ?_
 have hT:∀ i,i<n→0<i→∀ listed,HeadInv .any l.toArray n listed→listed.getD i true=false→∀ t,n≤t→t∉Region.ready .any l.toArray listed:=
  fun i hi h0i listed inv o6 t ht=>yD hsk hch (by simpa using lP) inv _ i rfl hi h0i o6 t ht
 have rA:qB P l.toArray w (fun S=>∀ a' w',aD w w'→tD S a.tmps.size a.defers a' w'→wpList P l.toArray (zdb P l.toArray Q St last ((l.drop (n+1)).dropLast)) ((l.drop n).take 1) a' w') ((l.take n).drop 1) (fG (a.put o0.dst v) []):=
  fV (ds:=a.defers) (m:=a.tmps.size) (fun a1 F gG Rl hq a' w' hw' hf=>by
   obtain ⟨hB1,hz,hq⟩:=hq
   refine kH (a':=a') F hB1 (hq w' hw') (hf.1.trans gG.symm) (hf.2.1.trans Rl.symm) (by rw [gG];exact hz) (fun t G hG=>?_) (fun t hn=>?_)
   ·have bC:t<a.tmps.size:=by
     have:=hz
     simp only [bV.get,Option.map_eq_some_iff] at hG
     obtain ⟨x,hx,_⟩:=hG
     have h1:=List.find?_some hx
     have h2:=List.all_eq_true.1 hz x (List.mem_of_find?_eq_some hx)
     simp at h1 h2
     rw [← h1];exact h2
    have:=hf.2.2 t bC
    rw [gV hG] at this
    exact this
   ·by_cases bC:t<a.tmps.size
    ·have:=hf.2.2 t bC
     rw [bN hn] at this
     exact this
    ·have h1:a'.tmps.size≤t:=by rw [hf.1];exact Nat.le_of_not_lt bC
     have h2:a1.tmps.size≤t:=by rw [gG];exact Nat.le_of_not_lt bC
     simp [h1,h2]) _ (a.put o0.dst v) [] oZ b_ hr
 have hE:∀ listed,Pr .any l.toArray n listed=true→∀ j∈Region.ready .any l.toArray listed,n≤j:=fun listed h1 j hj=>by
  simp only [Pr,Bool.and_eq_true,decide_eq_true_eq] at h1
  rw [h1.1] at hj
  have:j=n:=by simpa using hj
  omega
 have H:=pQ (md:=.any) hE hT ((l.take n).drop 1) 1 _ (fG (a.put o0.dst v) []) (Nat.le_refl _) (fun j hj=>by
  have hj':1+j<n:=by rw [xN] at hj;omega
  rw [List.getElem?_drop,List.getElem?_take_of_lt hj',List.getElem?_toArray]) (by rw [xN];omega) inv1 (by rw [xN];exact hlex) rA
 obtain ⟨o,ho⟩ : ∃ o,l[n]?=some o:=⟨_,List.getElem?_eq_getElem lP⟩
 have zcQ:(l.drop n).take 1=[o]:=by
  rw [List.drop_eq_getElem_cons lP]
  rw [List.getElem?_eq_getElem lP] at ho
  simp at ho
  simp [ho]
 have:=nZ (w0:=w) (St:=St) (ds:=a.defers) (Q':=Q) (g:=l.toArray.size - (n+1)+1) hd hSt (fun listed S hL a' w' hw' hf=>by
  have h1:=hL.1
  simp only [Pr,Bool.and_eq_true,decide_eq_true_eq] at h1
  have h2:=hL.2 a' w' hw' hf
  rw [zcQ] at h2
  refine ⟨fun h3=>(by rw [h1.1] at h3;cases h3),fun i hi=>?_⟩
  rw [h1.1] at hi
  have bE:i=n:=by simpa using hi
  subst bE
  have h4:=zbQ (i:=i) h2 (by simpa using ho)
  refine wpOp_mono (fun a2 w2 h5=>⟨h5.1,?_⟩) h4
  have xZ:((l.drop (i+1)).dropLast).length=l.toArray.size - (i+2):=by simp;omega
  have ε:(l.drop (i+1)).dropLast ++ [last]=l.drop (i+1):=by
   have aZ:l.drop (i+1)≠[]:=by intro e;have:=congrArg List.length e;simp at this;omega
   have h9:(l.drop (i+1)).getLast?=some last:=by rw [List.getLast?_drop,if_neg (by omega)];exact hlast
   have yQ:(l.drop (i+1)).getLast aZ=last:=by rw [List.getLast?_eq_some_getLast aZ] at h9;exact Option.some.inj h9
   have Cr:=List.dropLast_concat_getLast aZ
   rw [yQ] at Cr;exact Cr
  have h6:=Ck (P:=P) (St:=St) (md:=.any) (ops:=l.toArray) (last:=last) hQ2 hns nK ((l.drop (i+1)).dropLast) (i+1) (listed.setIfInBounds i true) a2 w2 (fun j=>by rw [ε];simp [List.getElem?_drop]) (by rw [xZ];simpa using h1.2) h5.1 h5.2
  rw [xZ,show l.toArray.size - (i+2)+1=l.toArray.size - (i+1) by simp;omega] at h6
  simpa using h6) _ _ (fG (a.put o0.dst v) []) (fun t=>by rw [bN (by rfl)];exact AV.stable_k _ _) H (a.put o0.dst v) _ aT ⟨oZ,b_,fun t _=>by rw [bN (by rfl)];rfl⟩
 rw [xN,show n - 1+(l.toArray.size - (n+1)+1)=l.toArray.size - 1 by simp;omega] at this
 exact this
end
def kB (Q:Exit→Act→World→Prop) (St:World→Prop) (K:Act→World→Prop):Exit→Act→World→Prop
 | .normal,a,w=>St w∧K a w
 | .panic c,a,w=>Q (.panic c) a w
 | e,a,w=>Q e a w
def Bf (md:Region.Mode) (ops:Array Oper):List Bool→Nat→Array Bool→Bool
 | [],_,listed=>(Region.ready md ops listed).isEmpty
 | true :: ks,k,listed=>(Region.ready md ops listed).contains k && Region.free md ops listed k && Bf md ops ks (k+1) (listed.setIfInBounds k true)
 | false :: ks,k,listed=>decide (Region.ready md ops listed=[k]) && Bf md ops ks (k+1) (listed.setIfInBounds k true)
def f_ (ops:Array Oper) (ks:List Bool):Bool:=decide (ks.length=ops.size) && Region.noSelect ops && (ops.all fun o=>o.guard.isNone) && Bf .any ops ks 0 (Array.replicate ops.size false)
def Iv (P:Program) (ops:Array Oper) (Q:Exit→Act→World→Prop) (St:World→Prop):List Bool→List Oper→Act→World→Prop
 | [],[],a,w=>Q .normal a w
 | true :: ks,o :: l,a,w=>∃ v,(∀ w,St w→(execOp a.eval o).run P w=.ok (.value v) w)∧∀ K:Act→Prop,(∀ a,Iv P ops Q St ks l a w→K a)→K (a.put o.dst v)
 | false :: ks,o :: l,a,w=>wpList P ops (kB Q St (Iv P ops Q St ks l)) [o] a w
 | _,_,_,_=>False
section
variable {P:Program} {ops:Array Oper} {md:Region.Mode} {Q:Exit→Act→World→Prop} {St:World→Prop}
theorem Gi {o:Oper} {a:Act} {w:World} {K:Act→World→Prop} (h:wpList P ops (kB Q St K) [o] a w) {i:Nat} (hi:ops[i]?=some o):wpOp P ops Q i (fun a w=>St w∧K a w) a w:=by
 unfold wpOp
 simp only [hi]
 unfold wpList at h
 split
 ·rename_i hw
  rw [if_pos hw] at h
  exact h
 ·rename_i hw
  rw [if_neg hw] at h
  exact h
theorem qK (hQ:∀ c (d:Tmp) v (a:Act) w,Q (.panic c) (a.put (some d) v) w→Q (.panic c) a w) (hns:Region.noSelect ops=true) (nK:(ops.all fun o=>o.guard.isNone)=true) :
 ∀ (ks:List Bool) (l:List Oper) (k:Nat) (listed:Array Bool) (a:Act) (w:World),(∀ j,l[j]?=ops[k+j]?)→Bf md ops ks k listed=true→St w→Iv P ops Q St ks l a w→wpAnyH P md ops Q St ks.length listed a w
 |[],[],k,listed,a,w,hl,hB,hS,h=>by
  simp only [Bf,List.isEmpty_iff] at hB
  exact ⟨hB,h⟩
 |true :: ks,o :: l,k,listed,a,w,hl,hB,hS,⟨v,hv,h⟩=>by
  have h0:ops[k]?=some o:=by simpa using (hl 0).symm
  simp only [Bf,Bool.and_eq_true] at hB
  obtain ⟨⟨hr,hf⟩,hB'⟩:=hB
  have hg:o.guard.isNone=true:=Array.all_eq_true_iff_forall_mem.1 nK o (Array.mem_of_getElem? h0)
  have hg':o.guard=none:=by cases h1:o.guard with | none=>rfl | some _=>rw [h1] at hg;cases hg
  exact wpAnyH_take h0 hns hf hr (fun c a w=>by cases o.dst with | none=>exact id | some d=>exact hQ c d v a w) (.inl ⟨by simp [Region.wanted,hg'],fun w hw=>hv w hw⟩) hS (qK hQ hns nK ks l (k+1) _ _ w (fun j=>by have:=hl (j+1);simpa [Nat.add_assoc,Nat.add_comm 1 j] using this) hB' hS (h (fun a=>Iv P ops Q St ks l a w) fun a h=>h))
 |false :: ks,o :: l,k,listed,a,w,hl,hB,hS,h=>by
  have h0:ops[k]?=some o:=by simpa using (hl 0).symm
  simp only [Bf,Bool.and_eq_true,decide_eq_true_eq] at hB
  refine wpAnyH_all hB.1 (by simp) fun i hi=>?_
  obtain rfl:=List.mem_singleton.1 hi
  refine wpOp_mono (fun a2 w2 h5=>⟨h5.1,?_⟩) (Gi h h0)
  exact qK hQ hns nK ks l (i+1) _ _ w2 (fun j=>by have:=hl (j+1);simpa [Nat.add_assoc,Nat.add_comm 1 j] using this) hB.2 h5.1 h5.2
 | [],_ :: _,_,_,_,_,_,_,_,h=>h.elim
 | true :: _,[],_,_,_,_,_,_,_,h=>h.elim
 | false :: _,[],_,_,_,_,_,_,_,h=>h.elim
theorem mK {id:Nat} {a:Act} {w:World} {l:List Oper} (ks:List Bool) (St:World→Prop) (hm:P.follows .mixedOrders=true) (hB:f_ l.toArray ks=true) (hQ:∀ c (d:Tmp) v (a:Act) w,Q (.panic c) (a.put (some d) v) w→Q (.panic c) a w) (hSt:∀ w',aD w w'→St w')
 (h:∀ w',aD w w'→Iv P l.toArray Q St ks l a w'):(Code.region id l.toArray true).wp P Q a w:=by
 simp only [f_,Bool.and_eq_true,decide_eq_true_eq] at hB
 obtain ⟨⟨⟨cZ,hns⟩,nK⟩,hB⟩:=hB
 refine wp_region_held (S:=St) hm ?_
 have aT:aD w {w with drawn:=w.drawn+1}:=aD.drew w
 have h1:=qK hQ hns nK ks l 0 _ a _ (fun j=>by simp) hB (hSt _ aT) (h _ aT)
 rw [cZ] at h1
 exact h1
end
end Go.Proofs.YtahdiiaadjdmcaaGreat
