import Derived.Test.YtahdiiaadjdmcaaGreatGround
import Derived.OrdersIn
import Derived.OwnWalkIn
import Derived.RangeFuncCalls
namespace Go.Proofs.YtahdiiaadjdmcaaGreat
open Go.RowKit
theorem Aq {l n:Nat} {P:Program} {row:String} {args:Array Value} {w:World} {R:Value→World→Prop} (h:Rows P row args w R):RowsIn (Fence.wide.inRound l) n P row args w R:=
 fun c cs _=>let ⟨v,w',r,s⟩:=h c cs;⟨v,w',r,stepsIn_wide.2 s⟩
theorem Nt {l n:Nat} {P:Program} {o:Oper} {a:Act} {w:World} {K:Act→World→Prop} {Q:Exit→Act→World→Prop} (hd:∀ c,o.op≠.defer c) (h:o.wp P a w K Q):o.wpIn (Fence.wide.inRound l) n P a w K Q:=by
 refine ⟨fun _ _=>trivial,?_⟩
 rw [Oper.semAt_plain _ _ _ hd]
 unfold Oper.wp at h
 generalize (execOp a.eval o).run P w=r at *
 cases r with
 |ok x w'=>
  cases x with
  | value v=>exact h
  | skip=>exact h
  | «defer» d=>exact h
  |enter f args=>
   refine ⟨fun hs=>by simp [Fence.wide] at hs,CallsIn.inRound _ (callsIn_wide.2 (Calls.mono h ?_))⟩
   intro e w2 he
   cases e <;> exact he
  | row rw args=>exact ⟨fun hs=>by simp [Fence.wide] at hs,Aq h⟩
  | _=>exact h.elim
 | halt x w'=>cases x <;> exact h
def uN (o:Oper):Bool:=match o.op with | .defer _=>false | _=>true
theorem F4 {o:Oper} (h:uN o=true) (c:Go.Call):o.op≠.defer c:=by
 intro e;simp [uN,e] at h
theorem lR {l n:Nat} {P:Program} {md:Region.Mode} {ops:Array Oper} {Q:Exit→Act→World→Prop} (hd:ops.all uN=true) (hq:∀ a w,¬ Q .outgrown a w) :
 ∀ (k:Nat) (listed:Array Bool) (a:Act) (w:World),wpAny P md ops Q k listed a w→wpAnyIn (Fence.wide.inRound l) n P md ops Q k listed a w
 | 0,_,_,_,h=>h
 |k+1,listed,a,w,h=>by
  refine ⟨h.1,fun i hi=>?_⟩
  have h2:=h.2 i hi
  unfold wpOp at h2
  unfold wpOpIn
  cases ho:ops[i]? with
  |none=>
   rw [ho] at h2
   exact lR hd hq k _ _ _ h2
  |some o=>
   rw [ho] at h2
   simp only at h2 ⊢
   have zjl:uN o=true:=by
    obtain ⟨bC,e⟩:=Array.getElem?_eq_some_iff.1 ho
    exact (Array.all_eq_true.1 hd) i bC |> fun t=>by rw [e] at t;exact t
   split
   ·rename_i hw
    rw [if_pos hw] at h2
    rcases h2 with h2 | ⟨_,a0,w0,h3⟩
    ·exact Oper.wpIn_mono (fun a w=>lR hd hq k _ a w) (Nt (F4 zjl) h2)
    ·exact absurd h3 (hq a0 w0)
   ·rename_i hw
    rw [if_neg hw] at h2
    exact ⟨fun _ _=>trivial,lR hd hq k _ _ _ h2⟩
section
variable {P:Program} {ops:Array Oper} {md:Region.Mode} {w0:World} {n:Nat} {ds:List Deferred}
theorem Bj {Q:Exit→Act→World→Prop} {a:Act} {w:World} {l:List Oper} (n:Nat) (S0:Tmp→AV) (m:Nat) (hB:Uh l.toArray n=true) (hd:n6 l.toArray m=true)
 (hS0:∀ t,(S0 t).Stable w) (dW:tD S0 m ds a w)
 (h:qB P l.toArray w (fun S=>∀ a' w',aD w w'→tD S m ds a' w'→wpList P l.toArray Q (l.drop n) a' w') (l.take n) S0):wpAny P .any l.toArray Q l.toArray.size (Array.replicate l.toArray.size false) a {w with drawn:=w.drawn+1}:=by
 simp only [Uh,Bool.and_eq_true,decide_eq_true_eq] at hB
 obtain ⟨⟨hn,Fh⟩,hlex⟩:=hB
 have hn':n≤l.length:=by simpa using hn
 have xN:(l.take n).length=n:=by simp;omega
 have xZ:(l.drop n).length=l.toArray.size - n:=by simp
 have inv0:HeadInv .any l.toArray n (Array.replicate l.toArray.size false):=
  ⟨by simp,fun j oj _ hl=>(by rw [getD_replicate_false] at hl;cases hl),fun t _ ht=>getD_in (by simpa using ht) (getD_replicate_false _ _)⟩
 have hT:∀ i,i<n→∀ listed,HeadInv .any l.toArray n listed→listed.getD i true=false→∀ t,n≤t→t∉Region.ready .any l.toArray listed:=by
  intro i hi listed inv o6 t ht hr
  simp only [Bool.or_eq_true,decide_eq_true_eq,Bool.and_eq_true] at Fh
  rcases Fh with Fh | Fh
  ·obtain ⟨_,ot,hot,_⟩:=mem_ready.1 hr
   have Gq:=(Array.getElem?_eq_some_iff.1 hot).1
   omega
  ·by_cases bC:n<l.toArray.size
   ·exact tail_waits Fh.1 Fh.2 bC inv _ i rfl hi o6 t ht hr
   ·obtain ⟨_,ot,hot,_⟩:=mem_ready.1 hr
    have Gq:=(Array.getElem?_eq_some_iff.1 hot).1
    omega
 have H:=tN (md:=.any) (g:=l.toArray.size - n) hT (l.take n) 0 _ S0 (fun j hj=>by
  have hj':j<n:=by rw [xN] at hj;exact hj
  simp [hj']) (by simpa using xN) inv0 (by rw [xN];exact hlex) h
 have aT:aD w {w with drawn:=w.drawn+1}:=aD.drew w
 have:=fU (w0:=w) (ds:=ds) (Q':=Q) (g:=l.toArray.size - n) hd (fun listed S hL a' w' hw' hf=>by
  have:=wpAny_of_seq (md:=.any) (Q':=Q) (l.drop n) n listed a' w' (fun j=>by simp [List.getElem?_drop]) (by rw [xZ];exact hL.1) (hL.2 a' w' hw' hf)
  rwa [xZ] at this) _ _ S0 hS0 H a _ aT ⟨dW.1,dW.2.1,fun t ht=>hS0 t _ _ _ (aD.refl _) aT (dW.2.2 t ht)⟩
 rw [xN,show n+(l.toArray.size - n)=l.toArray.size by omega] at this
 exact this
theorem yN {id ll k:Nat} {Q:Exit→Act→World→Prop} {a:Act} {w:World} {l:List Oper} (n:Nat) (hm:P.follows .mixedOrders=true) (jP:l.toArray.all uN=true) (hq:∀ a w,¬ Q .outgrown a w) (hB:Uh l.toArray n=true) (hd:n6 l.toArray a.tmps.size=true)
 (h:So P l.toArray w (fun a1 F=>iB F=true∧(F.all fun x=>x.1<a.tmps.size)=true∧∀ w',aD w w'→bL w' F (fun a'=>wpList P l.toArray Q (l.drop n) a' w') a1) (l.take n) a []):(Code.region id l.toArray true).wpIn (Fence.wide.inRound ll) k P Q a w:=by
 refine wpIn_region_any hm (lR jP hq _ _ _ _ (Bj (ds:=a.defers) n (fG a []) a.tmps.size hB hd (fun t=>?_) ⟨rfl,rfl,fun t _=>?_⟩ (fV (ds:=a.defers) (m:=a.tmps.size) (fun a1 F gG Rl hq a' w' hw' hf=>?_) _ a [] rfl rfl h)))
 ·rw [bN (by rfl)];exact AV.stable_k _ _
 ·rw [bN (by rfl)];rfl
 ·obtain ⟨hB1,hz,hq⟩:=hq
  refine kH (a':=a') F hB1 (hq w' hw') (hf.1.trans gG.symm) (hf.2.1.trans Rl.symm) (by rw [gG];exact hz) (fun t G hG=>?_) (fun t hn=>?_)
  ·have bC:t<a.tmps.size:=by
    have:=hz
    simp only [bV.get,Option.map_eq_some_iff] at hG
    obtain ⟨x,hx,_⟩:=hG
    have h1:=List.find?_some hx
    have h2:=List.all_eq_true.1 hz x (List.mem_of_find?_eq_some hx)
    simp at h1 h2
    rw [← h1];exact h2
   have:=hf.2.2 t bC
   rw [gV hG] at this
   exact this
  ·by_cases bC:t<a.tmps.size
   ·have:=hf.2.2 t bC
    rw [bN hn] at this
    exact this
   ·have h1:a'.tmps.size≤t:=by rw [hf.1];exact Nat.le_of_not_lt bC
    have h2:a1.tmps.size≤t:=by rw [gG];exact Nat.le_of_not_lt bC
    simp [h1,h2]
end
end Go.Proofs.YtahdiiaadjdmcaaGreat
