import Derived.Test.YtahdiiaadjdmcaaGreatGround
namespace Go.Proofs.YtahdiiaadjdmcaaGreat
open Go.RowKit
def Qq (md:Region.Mode) (ops:Array Oper) (n:Nat):Bool:=
 (List.range n).all fun i=>decide (i=0) || (List.range (n+1)).any fun j=>decide (i<j) && Region.waitsFor md ops j i
section
variable {md:Region.Mode} {ops:Array Oper}
theorem Iy {n:Nat} {listed:Array Bool} (hs:Qq md ops n=true) (hc:Region.chainB md ops n=true) (hn:n<ops.size) (inv:HeadInv md ops n listed) :
 ∀ (d i:Nat),n - i=d→i<n→0<i→listed.getD i true=false→∀ t,n≤t→t∉Region.ready md ops listed:=by
 intro d
 induction d using Nat.strongRecOn with
 |_ d ih=>
  intro i hd hi h0i o6 t ht hr
  obtain ⟨_,ot,hot,gH⟩:=mem_ready.1 hr
  have Gq:t<ops.size:=(Array.getElem?_eq_some_iff.1 hot).1
  by_cases htn:t=n
  ·subst htn
   have h1:=List.all_eq_true.1 hs i (List.mem_range.2 hi)
   rw [Bool.or_eq_true,decide_eq_true_eq] at h1
   obtain ⟨j,hj,Fz⟩:=List.any_eq_true.1 (h1.resolve_left (by omega))
   simp only [Bool.and_eq_true,decide_eq_true_eq] at Fz
   obtain ⟨oj,hoj,e,he,hb,hon⟩:=Region.waitsFor_spec Fz.2
   have zek:j≤t:=by have:=List.mem_range.1 hj;omega
   by_cases hjt:j=t
   ·subst hjt
    have:oj=ot:=Option.some.inj (hoj.symm.trans hot)
    subst this
    have h2:=gH e he hb
    rw [hon,getD_both o6] at h2
    cases h2
   ·cases hl:listed.getD j false with
    |true=>
     have h2:=inv.closed j oj hoj hl e he hb
     rw [hon,getD_both o6] at h2
     cases h2
    |false=>
     have zdr:j<listed.size:=by rw [inv.size];omega
     exact ih (t - j) (by omega) j rfl (by omega) (by omega) (getD_in zdr hl) t (Nat.le_refl _) hr
  ·have h1:=List.all_eq_true.1 hc t (List.mem_range.2 Gq)
   simp only [Bool.or_eq_true,decide_eq_true_eq] at h1
   rcases h1 with h1 | h1
   ·omega
   ·obtain ⟨o',ho',e,he,hb,hon⟩:=Region.waitsFor_spec h1
    have:o'=ot:=Option.some.inj (ho'.symm.trans hot)
    subst this
    have h2:=gH e he hb
    rw [hon,getD_both (inv.tail (t - 1) (by omega) (by omega))] at h2
    cases h2
end
def zey (ops:Array Oper) (n:Nat):Bool:=
 decide (1<n) && decide (n<ops.size) && Qq .any ops n && Region.chainB .any ops n && Region.noSelect ops && Region.free .any ops (Array.replicate ops.size false) 0 && (Region.ready .any ops (Array.replicate ops.size false)).contains 0 && (match ops[0]? with | some o=>o.after.isEmpty | none=>false) &&
  Region.lexHead .any ops (ops.size - n) (n - 1) 1 ((Array.replicate ops.size false).setIfInBounds 0 true)
section
variable {P:Program} {ops:Array Oper} {md:Region.Mode} {w0:World} {n:Nat} {ds:List Deferred}
theorem yA {g:Nat} {Lq:(Tmp→AV)→Prop} (hT:∀ i,i<n→0<i→∀ listed,HeadInv md ops n listed→listed.getD i true=false→∀ t,n≤t→t∉Region.ready md ops listed) :
 ∀ (l:List Oper) (k:Nat) (listed:Array Bool) (S:Tmp→AV),1≤k→(∀ j,j<l.length→l[j]?=ops[k+j]?)→k+l.length=n→HeadInv md ops n listed→
 Region.lexHead md ops g l.length k listed=true→qB P ops w0 Lq l S→
 pR P md ops w0 n (fun listed' S'=>Region.seqB md ops g n listed'=true∧Lq S') l.length listed S
 |[],k,listed,S,_,_,hk,_,hB,h=>by
  have:k=n:=by simpa using hk
  subst this
  exact ⟨by simpa [Region.lexHead] using hB,h⟩
 |o :: l,k,listed,S,oI,hl,hk,inv,hB,h=>by
  have h0:ops[k]?=some o:=by simpa using (hl 0 (by simp)).symm
  simp only [List.length_cons,Region.lexHead,Bool.and_eq_true] at hB
  obtain ⟨⟨hr,hf⟩,hB'⟩:=hB
  have Ko:k<n:=by simp only [List.length_cons] at hk;omega
  have hr':k∈Region.ready md ops listed:=by simpa using hr
  obtain ⟨x,hy,hK⟩:=h
  exact mA h0 Ko (hT k Ko oI) (fun listed' S' hL=>seqB_ready hL.1) l.length listed S inv (Region.free_spec h0 hf) hr' hy
   (yA hT l (k+1) _ _ (by omega) (fun j hj=>by have:=hl (j+1) (by simp;omega);simpa [Nat.add_assoc,Nat.add_comm 1 j] using this) (by simp only [List.length_cons] at hk;omega) (inv.set hr' Ko) hB' hK)
theorem mJ {id:Nat} {Q:Exit→Act→World→Prop} {a:Act} {w:World} {l:List Oper} (n:Nat) (hm:P.follows .mixedOrders=true) (hB:zey l.toArray n=true) (hd:n6 l.toArray a.tmps.size=true)
 (h:∃ o0 r v,l=o0 :: r∧(Region.wanted o0 (yielded l.toArray a.tmps)=true∧∀ w,(execOp a.eval o0).run P w=.ok (.value v) w)∧(∀ c a' w,Q (.panic c) (a'.put o0.dst v) w→Q (.panic c) a' w)∧
  ∀ K:Act→bV→Prop,(∀ b F,So P l.toArray w (fun a1 F=>iB F=true∧(F.all fun x=>x.1<a.tmps.size)=true∧∀ w',aD w w'→bL w' F (fun a'=>wpList P l.toArray Q (l.drop n) a' w') a1) ((l.take n).drop 1) b F→K b F)→K (a.put o0.dst v) []):(Code.region id l.toArray true).wp P Q a w:=by
 obtain ⟨o0,r,v,hl,hy,hQ,hK⟩:=h
 simp only [zey,Bool.and_eq_true,decide_eq_true_eq] at hB
 obtain ⟨⟨⟨⟨⟨⟨⟨⟨m7,hn⟩,hsk⟩,hch⟩,hns⟩,yY⟩,hrd⟩,haf⟩,hlex⟩:=hB
 have hr:=hK _ fun _ _ h=>h
 have h0:l.toArray[0]?=some o0:=by simp [hl]
 have lP:n<l.length:=by simpa using hn
 have xN:((l.take n).drop 1).length=n - 1:=by simp;omega
 have xZ:(l.drop n).length=l.toArray.size - n:=by simp
 have inv0:HeadInv .any l.toArray n (Array.replicate l.toArray.size false):=
  ⟨by simp,fun j oj _ hl=>(by rw [getD_replicate_false] at hl;cases hl),fun t _ ht=>getD_in (by simpa using ht) (getD_replicate_false _ _)⟩
 have inv1:=inv0.set (by simpa using hrd) (show 0<n by omega)
 have oZ:(a.put o0.dst v).tmps.size=a.tmps.size:=by cases o0.dst <;> simp [Act.put]
 have b_:(a.put o0.dst v).defers=a.defers:=by cases o0.dst <;> rfl
 refine wp_region_any hm ?_
 have aT:aD w {w with drawn:=w.drawn+1}:=aD.drew w
 have sB:=wpAny_take (fuel:=l.toArray.size - 1) (w:={w with drawn:=w.drawn+1}) h0 hns yY hrd hQ (.inl hy)
 rw [show l.toArray.size - 1+1=l.toArray.size by omega] at sB
 refine sB ?_
 have hT:∀ i,i<n→0<i→∀ listed,HeadInv .any l.toArray n listed→listed.getD i true=false→∀ t,n≤t→t∉Region.ready .any l.toArray listed:=
  fun i hi h0i listed inv o6 t ht=>Iy hsk hch hn inv _ i rfl hi h0i o6 t ht
 have rA:qB P l.toArray w (fun S=>∀ a' w',aD w w'→tD S a.tmps.size a.defers a' w'→wpList P l.toArray Q (l.drop n) a' w') ((l.take n).drop 1) (fG (a.put o0.dst v) []):=
  fV (ds:=a.defers) (m:=a.tmps.size) (fun a1 F gG Rl hq a' w' hw' hf=>by
   obtain ⟨hB1,hz,hq⟩:=hq
   refine kH (a':=a') F hB1 (hq w' hw') (hf.1.trans gG.symm) (hf.2.1.trans Rl.symm) (by rw [gG];exact hz) (fun t G hG=>?_) (fun t hn=>?_)
   ·have bC:t<a.tmps.size:=by
     have:=hz
     simp only [bV.get,Option.map_eq_some_iff] at hG
     obtain ⟨x,hx,_⟩:=hG
     have h1:=List.find?_some hx
     have h2:=List.all_eq_true.1 hz x (List.mem_of_find?_eq_some hx)
     simp at h1 h2
     rw [← h1];exact h2
    have:=hf.2.2 t bC
    rw [gV hG] at this
    exact this
   ·by_cases bC:t<a.tmps.size
    ·have:=hf.2.2 t bC
     rw [bN hn] at this
     exact this
    ·have h1:a'.tmps.size≤t:=by rw [hf.1];exact Nat.le_of_not_lt bC
     have h2:a1.tmps.size≤t:=by rw [gG];exact Nat.le_of_not_lt bC
     simp [h1,h2]) _ (a.put o0.dst v) [] oZ b_ hr
 have H:=yA (md:=.any) (g:=l.toArray.size - n) hT ((l.take n).drop 1) 1 _ (fG (a.put o0.dst v) []) (Nat.le_refl _) (fun j hj=>by
  have hj':1+j<n:=by rw [xN] at hj;omega
  rw [List.getElem?_drop,List.getElem?_take_of_lt hj',List.getElem?_toArray]) (by rw [xN];omega) inv1 (by rw [xN];exact hlex) rA
 have:=fU (w0:=w) (ds:=a.defers) (Q':=Q) (g:=l.toArray.size - n) hd (fun listed S hL a' w' hw' hf=>by
  have:=wpAny_of_seq (md:=.any) (Q':=Q) (l.drop n) n listed a' w' (fun j=>by simp [List.getElem?_drop]) (by rw [xZ];exact hL.1) (hL.2 a' w' hw' hf)
  rwa [xZ] at this) _ _ (fG (a.put o0.dst v) []) (fun t=>by rw [bN (by rfl)];exact AV.stable_k _ _) H (a.put o0.dst v) _ aT ⟨oZ,b_,fun t _=>by rw [bN (by rfl)];rfl⟩
 rw [xN,show n - 1+(l.toArray.size - n)=l.toArray.size - 1 by omega] at this
 exact this
end
end Go.Proofs.YtahdiiaadjdmcaaGreat
