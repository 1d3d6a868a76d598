import Derived.Test.YtahdiiaadjdmcaaGreatGbN
import Derived.Test.YtahdiiaadjdmcaaGreatRowsB
namespace Go.Proofs.YtahdiiaadjdmcaaGreat
open Go.RowKit Classical
def jW (r:List V):List (List V)→Option Nat
 | []=>none
 | s :: l=>if bP s r then some 0 else (jW r l).map (·+1)
theorem bH (r:List V):bP r r=true:=cP.2 rfl
theorem cJ {r s:List V} (h:r≠s):bP r s=false:=by
 cases hs:bP r s with
 | false=>rfl
 | true=>exact absurd (cP.1 hs) h
theorem pF (r:List V):∀ (l:List (List V)) (i:Nat),oJ r l i=match jW r l with | none=>-1 | some k=>((i+k:Nat):Int)
 | [],i=>rfl
 |s :: l,i=>by
  unfold oJ jW
  split
  ·rfl
  ·rw [pF r l (i+1)]
   cases jW r l with
   | none=>rfl
   | some k=>simp only [Option.map_some];congr 1;omega
theorem kT {r:List V}:∀ {l:List (List V)},jW r l=none ↔ r∉l
 | []=>by simp [jW]
 |s :: l=>by
  unfold jW
  by_cases h:s=r
  ·subst h;simp [bH]
  ·rw [cJ h]
   simp only [Bool.false_eq_true,if_false,Option.map_eq_none_iff,kT,List.mem_cons,not_or]
   exact ⟨fun h2=>⟨fun e=>h e.symm,h2⟩,fun h2=>h2.2⟩
theorem iC {r:List V}:∀ {l:List (List V)} {i:Nat},jW r l=some i→l[i]?=some r
 | [],i,h=>by simp [jW] at h
 |s :: l,i,h=>by
  unfold jW at h
  by_cases hs:s=r
  ·subst hs
   rw [bH] at h
   simp only [if_true,Option.some.injEq] at h
   subst h;rfl
  ·rw [cJ hs] at h
   simp only [Bool.false_eq_true,if_false,Option.map_eq_some_iff] at h
   obtain ⟨j,h1,rfl⟩:=h
   simpa using iC h1
theorem mQ {r:List V} {l:List (List V)} (h:r∈l):∃ i,jW r l=some i:=by
 cases hi:jW r l with
 | none=>exact absurd h (kT.1 hi)
 | some i=>exact ⟨i,rfl⟩
theorem v7 {r:List V}:∀ {l:List (List V)} {i:Nat},jW r l=some i→bS r l=l.eraseIdx i
 | [],i,h=>by simp [jW] at h
 |s :: l,i,h=>by
  unfold jW at h
  unfold bS
  by_cases hs:s=r
  ·subst hs
   rw [bH] at h ⊢
   simp only [if_true,Option.some.injEq] at h
   subst h;rfl
  ·rw [cJ hs] at h ⊢
   simp only [Bool.false_eq_true,if_false,Option.map_eq_some_iff] at h ⊢
   obtain ⟨j,h1,rfl⟩:=h
   rw [v7 h1];rfl
theorem J8 {r:List V}:∀ {l:List (List V)},r∉l→bS r l=l
 | [],_=>rfl
 |s :: l,h=>by
  rw [List.mem_cons,not_or] at h
  unfold bS
  rw [cJ (fun e=>h.1 e.symm),J8 h.2];rfl
theorem kU {r:List V}:∀ {l:List (List V)},l.Nodup→bS r l=l.filter fun x=>!bP x r
 | [],_=>rfl
 |s :: l,h=>by
  rw [List.nodup_cons] at h
  unfold bS
  by_cases hs:s=r
  ·subst hs
   rw [List.filter_cons,bH]
   simp only [if_true,Bool.not_true,Bool.false_eq_true,if_false]
   symm
   rw [List.filter_eq_self]
   intro x hx
   rw [cJ (fun e:x=s=>h.1 (e ▸ hx))];rfl
  ·rw [List.filter_cons,cJ hs,kU h.2];rfl
theorem cK {r x:List V} {l:List (List V)} (h:l.Nodup):x∈bS r l ↔ x∈l∧x≠r:=by
 rw [kU h,List.mem_filter]
 constructor
 ·rintro ⟨h1,h2⟩
  refine ⟨h1,fun e=>?_⟩
  rw [e,bH] at h2;cases h2
 ·rintro ⟨h1,h2⟩
  exact ⟨h1,by rw [cJ h2];rfl⟩
theorem gT {r:List V} {l:List (List V)} (h:l.Nodup):(bS r l).Nodup:=by
 rw [kU h];exact h.filter _
theorem rH {r:List V} {l:List (List V)}:(bS r l).length≤l.length:=by
 induction l with
 | nil=>exact Nat.le_refl _
 | cons s l ih=>unfold bS;split <;> simp <;> omega
def bY:List (List V)→List Nat→List V→Nat
 | q :: l,c :: m,x=>if bP q x then c else bY l m x
 | _,_,_=>0
theorem l8 (x:List V):∀ (l:List (List V)) (m:List Nat),bY l m x=match jW x l with | none=>0 | some i=>m[i]?.getD 0
 | [],m=>by simp [bY,jW]
 |q :: l,[]=>by
  simp only [bY,jW]
  split
  ·rfl
  ·simp
 |q :: l,c :: m=>by
  simp only [bY,jW]
  split
  ·rfl
  ·rw [l8 x l m]
   cases jW x l with
   | none=>rfl
   | some k=>rfl
theorem rL {own:List V} {c:Nat} (x:List V):∀ {l:List (List V)} {m:List Nat} {i:Nat},m.length=l.length→jW own l=some i→bY l (m.set i c) x=if x=own then c else bY l m x
 | [],m,i,_,h=>by simp [jW] at h
 | q :: l,[],i,hl,_=>by simp at hl
 |q :: l,d :: m,i,hl,h=>by
  unfold jW at h
  by_cases hs:q=own
  ·subst hs
   rw [bH] at h
   simp only [if_true,Option.some.injEq] at h
   subst h
   simp only [List.set_cons_zero,bY]
   by_cases hx:x=q
   ·subst hx;simp [bH]
   ·rw [cJ (fun e=>hx e.symm),if_neg hx];rfl
  ·rw [cJ hs] at h
   simp only [Bool.false_eq_true,if_false,Option.map_eq_some_iff] at h
   obtain ⟨j,h1,rfl⟩:=h
   simp only [List.set_cons_succ,bY]
   by_cases hx:q=x
   ·subst hx;simp [bH,hs]
   ·rw [cJ hx]
    exact rL x (by simpa using hl) h1
theorem tY {own:List V} (x:List V):∀ {l:List (List V)} {m:List Nat} {i:Nat},l.Nodup→m.length=l.length→jW own l=some i→bY (l.eraseIdx i) (m.eraseIdx i) x=if x=own then 0 else bY l m x
 | [],m,i,_,_,h=>by simp [jW] at h
 | q :: l,[],i,_,hl,_=>by simp at hl
 |q :: l,d :: m,i,hn,hl,h=>by
  rw [List.nodup_cons] at hn
  unfold jW at h
  by_cases hs:q=own
  ·subst hs
   rw [bH] at h
   simp only [if_true,Option.some.injEq] at h
   subst h
   simp only [List.eraseIdx_cons_zero,bY]
   by_cases hx:x=q
   ·subst hx
    rw [if_pos rfl,l8,kT.2 hn.1]
   ·rw [if_neg hx,cJ (fun e=>hx e.symm)];rfl
  ·rw [cJ hs] at h
   simp only [Bool.false_eq_true,if_false,Option.map_eq_some_iff] at h
   obtain ⟨j,h1,rfl⟩:=h
   simp only [List.eraseIdx_cons_succ,bY]
   by_cases hx:q=x
   ·subst hx;simp [bH,hs]
   ·rw [cJ hx]
    exact tY x hn.2 (by simpa using hl) h1
theorem Av {own:List V} (x:List V) (c:Nat):∀ {l:List (List V)} {m:List Nat},own∉l→m.length=l.length→bY (l ++ [own]) (m ++ [c]) x=if x=own then c else bY l m x
 |[],[],_,_=>by
  simp only [List.nil_append,bY]
  by_cases hx:x=own
  ·subst hx;simp [bH]
  ·rw [cJ (fun e=>hx e.symm),if_neg hx];rfl
 | [],_ :: _,_,hl=>by simp at hl
 | q :: l,[],_,hl=>by simp at hl
 |q :: l,d :: m,hn,hl=>by
  rw [List.mem_cons,not_or] at hn
  simp only [List.cons_append,bY]
  by_cases hx:q=x
  ·subst hx;rw [if_neg (fun e:q=own=>hn.1 e.symm),bH];rfl
  ·rw [cJ hx]
   exact Av x c hn.2 (by simpa using hl)
theorem qT {l:List (List V)} {m:List Nat} (hl:m.length=l.length) (h1:∀ c∈m,1≤c) (x:List V):(x∈l→1≤bY l m x)∧(x∉l→bY l m x=0):=by
 rw [l8]
 cases hi:jW x l with
 | none=>exact ⟨fun h=>absurd h (kT.1 hi),fun _=>rfl⟩
 |some i=>
  refine ⟨fun _=>?_,fun h=>absurd (List.mem_of_getElem? (iC hi)) h⟩
  have bC:=(List.getElem?_eq_some_iff.1 (iC hi)).1
  have:m[i]?=some m[i]:=List.getElem?_eq_getElem (by omega)
  show 1≤m[i]?.getD 0
  rw [this]
  exact h1 _ (List.getElem_mem _)
structure NK where
 kind:Nat
 inn:Nat
 keep:List Nat
 side:List Nat
 up:List Nat
 most:Nat
def NK.width (k:NK):Nat:=if k.kind=2 then k.keep.length else k.inn
structure cR where
 ons:List (List V)
 sides:List (List V)
 cnt:List Nat
 live:List (List V)
abbrev rE:Type:=cR × List (List V) × List (List V) × Int
def aM (k:NK) (s:cR) (r:List V):List (List V):=s.ons.filter fun x=>bP (aE k.side x) r
def sideN (k:NK) (s:cR) (on:Bool) (r:List V):rE:=
 if on then
  if inB s.sides r then (s,[],[],191) else if s.sides.length<k.most then ({s with sides:=s.sides ++ [r],live:=s.live ++ aM k s r},aM k s r,aM k s r,0) else (s,[],[],31)
 else if inB s.sides r then ({s with sides:=bS r s.sides,live:=s.live.filter fun x=>!bP (aE k.side x) r},aM k s r,aM k s r,0) else (s,[],[],192)
def eD (k:NK) (s:cR) (on:Bool) (r:List V):rE:=
 if on then
  if inB s.ons r then (s,[],[],191) else if s.ons.length<k.most then
   if inB s.sides (aE k.side r) then ({s with ons:=s.ons ++ [r],live:=s.live ++ [r]},[r],[r],0) else ({s with ons:=s.ons ++ [r]},[],[r],0)
  else (s,[],[],31)
 else if inB s.ons r then
  if inB s.live r then ({s with ons:=bS r s.ons,live:=bS r s.live},[r],[r],0) else ({s with ons:=bS r s.ons},[],[r],0)
 else (s,[],[],192)
def kM (k:NK) (s:cR) (on:Bool) (r:List V):rE:=
 if on then
  if inB s.live r then (s,[],[],191) else if s.live.length<k.most then ({s with ons:=s.ons ++ [r],live:=s.live ++ [r]},[r],[r],0) else (s,[],[],31)
 else if inB s.live r then ({s with ons:=bS r s.ons,live:=bS r s.live},[r],[r],0) else (s,[],[],192)
def jG (k:NK) (s:cR) (on:Bool) (own:List V):rE:=
 if on then
  if bY s.ons s.cnt own=65536 then (s,[],[],31)
  else if bY s.ons s.cnt own=0 then
   if s.live.length<k.most then ({s with ons:=s.ons ++ [own],cnt:=s.cnt ++ [1],live:=s.live ++ [own]},[own],[own],0) else (s,[],[],31)
  else ({s with cnt:=s.cnt.set ((jW own s.ons).getD 0) (bY s.ons s.cnt own+1)},[],[own],0)
 else if bY s.ons s.cnt own=0 then (s,[],[],192)
 else if bY s.ons s.cnt own=1 then ({s with ons:=bS own s.ons,cnt:=s.cnt.eraseIdx ((jW own s.ons).getD 0),live:=bS own s.live},[own],[own],0)
 else ({s with cnt:=s.cnt.set ((jW own s.ons).getD 0) (bY s.ons s.cnt own - 1)},[],[own],0)
def iE (k:NK) (s:cR) (on:Bool) (from_:Int) (r:List V):rE:=
 if from_=2∧k.kind=3 then if aV k.side.length r then sideN k s on r else (s,[],[],62)
 else if from_≠1 then (s,[],[],190)
 else if aV k.inn r then
  if k.kind=2 then jG k s on (aE k.keep r) else if k.kind=3 then eD k s on r else kM k s on r
 else (s,[],[],62)
def vG (k:NK) (s:cR) (r:List V):Nat:=
 if k.kind=3 then if inB s.ons r then if inB s.live r then 2 else 1 else 0
 else if inB s.live r then if k.kind=2 then bY s.ons s.cnt r else 1 else 0
def nR (k:NK) (s:cR):Nat:=if k.kind=3 then s.ons.length else s.live.length
structure fN (k:NK):Prop where
 kind:k.kind=1∨k.kind=2∨k.kind=3
 inn:k.inn≤30
 most:1≤k.most∧k.most≤65536
 keep:k.keep.length≤30∧∀ c∈k.keep,c<k.inn
 side:k.side.length≤30∧∀ c∈k.side,c<k.inn
 up:k.up.length≤30∧∀ c∈k.up,c<k.width
def yL (w:Nat) (r:List V):Prop:=aV w r=true∧dP r∧uH r
structure iS (k:NK) (s:cR):Prop where
 ons:∀ r∈s.ons,yL k.width r
 nd:s.ons.Nodup
 most:s.ons.length≤k.most
 sides:∀ r∈s.sides,yL k.side.length r
 snd:s.sides.Nodup
 smost:s.sides.length≤k.most
 plain:k.kind≠3→s.live=s.ons
 cnt:k.kind=2→s.cnt.length=s.ons.length∧∀ c∈s.cnt,1≤c∧c≤65536
 lnd:s.live.Nodup
 meet:k.kind=3→∀ r,r∈s.live ↔ r∈s.ons∧aE k.side r∈s.sides
theorem iS.start (k:NK):iS k ⟨[],[],[],[]⟩:=⟨fun _ h=>(by cases h),by simp,Nat.zero_le _,fun _ h=>(by cases h),by simp,Nat.zero_le _,fun _=>rfl,fun _=>⟨rfl,fun _ h=>(by cases h)⟩,by simp,fun _ r=>by simp⟩
theorem bT {l:List (List V)} {r:List V}:inB l r=false ↔ r∉l:=by
 rw [← bK];cases inB l r <;> simp
theorem gP {l:List (List V)} {r:List V} (h:l.Nodup) (hr:r∉l):(l ++ [r]).Nodup:=by
 rw [List.nodup_append]
 exact ⟨h,by simp,fun a ha b hb=>by simp at hb;subst hb;exact fun e=>hr (e ▸ ha)⟩
theorem eJ {k:NK} {s:cR} {r x:List V}:x∈aM k s r ↔ x∈s.ons∧aE k.side x=r:=by
 unfold aM
 rw [List.mem_filter,cP]
theorem Hj {k:NK} (hk:fN k) {s:cR} (h:iS k s) (on:Bool) (from_:Int) {r:List V} (hs:dP r) (hw:uH r):iS k (iE k s on from_ r).1:=by
 unfold iE
 split
 ·rename_i h2
  split
  ·rename_i hf
   unfold sideN
   split
   ·split
    ·exact h
    ·rename_i bE
     split
     ·rename_i hm
      have bE:r∉s.sides:=bT.1 (by simpa using bE)
      refine ⟨h.ons,h.nd,h.most,fun q hq=>?_,gP h.snd bE,by simp;omega,fun h3=>absurd h2.2 h3,h.cnt,?_,fun h3 q=>?_⟩
      ·rcases List.mem_append.1 hq with hq | hq
       ·exact h.sides q hq
       ·simp at hq;subst hq;exact ⟨hf,hs,hw⟩
      ·show (s.live ++ aM k s r).Nodup
       rw [List.nodup_append]
       refine ⟨h.lnd,h.nd.filter _,fun a ha b hb e=>?_⟩
       subst e
       have h4:=((h.meet h2.2 a).1 ha).2
       rw [(eJ.1 hb).2] at h4
       exact bE h4
      ·show q∈s.live ++ aM k s r ↔ q∈s.ons∧aE k.side q∈s.sides ++ [r]
       rw [List.mem_append,h.meet h3 q,eJ,List.mem_append,List.mem_singleton]
       constructor
       ·rintro (h4 | h4)
        ·exact ⟨h4.1,.inl h4.2⟩
        ·exact ⟨h4.1,.inr h4.2⟩
       ·rintro ⟨h4,h5 | h5⟩
        ·exact .inl ⟨h4,h5⟩
        ·exact .inr ⟨h4,h5⟩
     ·exact h
   ·split
    ·rename_i bE
     refine ⟨h.ons,h.nd,h.most,fun q hq=>h.sides q ((cK h.snd).1 hq).1,gT h.snd,Nat.le_trans rH h.smost,fun h3=>absurd h2.2 h3,h.cnt,h.lnd.filter _,fun h3 q=>?_⟩
     show q∈s.live.filter _ ↔ q∈s.ons∧aE k.side q∈bS r s.sides
     rw [List.mem_filter,h.meet h3 q,cK h.snd]
     constructor
     ·rintro ⟨⟨h4,h5⟩,h6⟩
      exact ⟨h4,h5,fun e=>by rw [e,bH] at h6;cases h6⟩
     ·rintro ⟨h4,h5,h6⟩
      exact ⟨⟨h4,h5⟩,by rw [cJ h6];rfl⟩
    ·exact h
  ·exact h
 ·split
  ·exact h
  ·split
   ·rename_i hf
    split
    ·rename_i h2
     have j2:=i7 hf hs hw hk.keep.1 hk.keep.2
     have Dy:k.width=k.keep.length:=by unfold NK.width;rw [if_pos h2]
     have Mh:yL k.width (aE k.keep r):=⟨by rw [Dy];unfold aV;rw [Bool.and_eq_true];exact ⟨decide_eq_true j2.len,j2.ok⟩,j2.small,j2.wf⟩
     have hc:=h.cnt h2
     have hp:=qT hc.1 (fun c mG=>(hc.2 c mG).1) (aE k.keep r)
     have hl:=h.plain (by omega)
     generalize aE k.keep r=own at *
     unfold jG
     split
     ·split
      ·exact h
      ·rename_i aZ
       split
       ·rename_i h0
        have j8:own∉s.ons:=fun hm=>by have:=hp.1 hm;omega
        split
        ·rename_i hm
         rw [hl] at hm
         refine ⟨fun q hq=>?_,gP h.nd j8,by simp;omega,h.sides,h.snd,h.smost,fun _=>by show s.live ++ [own]=s.ons ++ [own];rw [hl],fun _=>⟨by simp [hc.1],fun c mG=>?_⟩,by show (s.live ++ [own]).Nodup;rw [hl];exact gP h.nd j8,fun h3=>by omega⟩
         ·rcases List.mem_append.1 hq with hq | hq
          ·exact h.ons q hq
          ·simp at hq;subst hq;exact Mh
         ·rcases List.mem_append.1 mG with mG | mG
          ·exact hc.2 c mG
          ·simp at mG;omega
        ·exact h
       ·rename_i h0
        refine ⟨h.ons,h.nd,h.most,h.sides,h.snd,h.smost,h.plain,fun _=>⟨by simp [hc.1],fun c mG=>?_⟩,h.lnd,fun h3=>by omega⟩
        rcases List.mem_or_eq_of_mem_set mG with mG | rfl
        ·exact hc.2 c mG
        ·have:bY s.ons s.cnt own≤65536:=by
          rw [l8]
          cases jW own s.ons with
          | none=>simp
          |some i=>
           cases hi:s.cnt[i]? with
           | none=>simp [hi]
           | some c=>simpa [hi] using (hc.2 c (List.mem_of_getElem? hi)).2
         omega
     ·split
      ·exact h
      ·rename_i h0
       have bE:own∈s.ons:=Classical.byContradiction fun hm=>h0 (hp.2 hm)
       obtain ⟨i,hi⟩:=mQ bE
       have bC:=(List.getElem?_eq_some_iff.1 (iC hi)).1
       split
       ·refine ⟨fun q hq=>h.ons q ((cK h.nd).1 hq).1,gT h.nd,Nat.le_trans rH h.most,h.sides,h.snd,h.smost,fun _=>by show bS own s.live=bS own s.ons;rw [hl],fun _=>⟨?_,fun c mG=>hc.2 c (List.mem_of_mem_eraseIdx mG)⟩,by show (bS own s.live).Nodup;rw [hl];exact gT h.nd,fun h3=>by omega⟩
        show (s.cnt.eraseIdx _).length=(bS own s.ons).length
        rw [v7 hi,hi,List.length_eraseIdx,List.length_eraseIdx]
        simp only [Option.getD_some]
        rw [hc.1]
       ·rename_i h1
        refine ⟨h.ons,h.nd,h.most,h.sides,h.snd,h.smost,h.plain,fun _=>⟨by simp [hc.1],fun c mG=>?_⟩,h.lnd,fun h3=>by omega⟩
        rcases List.mem_or_eq_of_mem_set mG with mG | rfl
        ·exact hc.2 c mG
        ·have:bY s.ons s.cnt own≤65536:=by
          rw [l8]
          cases jW own s.ons with
          | none=>simp
          |some i=>
           cases hi:s.cnt[i]? with
           | none=>simp [hi]
           | some c=>simpa [hi] using (hc.2 c (List.mem_of_getElem? hi)).2
         omega
    ·rename_i h2
     have Dy:k.width=k.inn:=by unfold NK.width;rw [if_neg h2]
     have yY:yL k.width r:=⟨by rw [Dy];exact hf,hs,hw⟩
     have gH:∀ q∈s.ons ++ [r],yL k.width q:=fun q hq=>by
      rcases List.mem_append.1 hq with hq | hq
      ·exact h.ons q hq
      ·simp at hq;subst hq;exact yY
     split
     ·rename_i h3
      unfold eD
      split
      ·split
       ·exact h
       ·rename_i bE
        have bE:r∉s.ons:=bT.1 (by simpa using bE)
        split
        ·rename_i hm
         split
         ·rename_i Iw
          have Iw:=bK.1 Iw
          refine ⟨gH,gP h.nd bE,by simp;omega,h.sides,h.snd,h.smost,fun h4=>absurd h3 h4,fun h4=>absurd h4 h2,gP h.lnd fun pT=>bE ((h.meet h3 r).1 pT).1,fun _ q=>?_⟩
          show q∈s.live ++ [r] ↔ q∈s.ons ++ [r]∧aE k.side q∈s.sides
          rw [List.mem_append,List.mem_append,List.mem_singleton,h.meet h3 q]
          constructor
          ·rintro (⟨h4,h5⟩ | rfl)
           ·exact ⟨.inl h4,h5⟩
           ·exact ⟨.inr rfl,Iw⟩
          ·rintro ⟨h4 | h4,h5⟩
           ·exact .inl ⟨h4,h5⟩
           ·exact .inr h4
         ·rename_i Iw
          have Iw:aE k.side r∉s.sides:=bT.1 (by simpa using Iw)
          refine ⟨gH,gP h.nd bE,by simp;omega,h.sides,h.snd,h.smost,fun h4=>absurd h3 h4,fun h4=>absurd h4 h2,h.lnd,fun _ q=>?_⟩
          show q∈s.live ↔ q∈s.ons ++ [r]∧aE k.side q∈s.sides
          rw [List.mem_append,List.mem_singleton,h.meet h3 q]
          constructor
          ·rintro ⟨h4,h5⟩;exact ⟨.inl h4,h5⟩
          ·rintro ⟨h4 | rfl,h5⟩
           ·exact ⟨h4,h5⟩
           ·exact absurd h5 Iw
        ·exact h
      ·split
       ·split
        ·refine ⟨fun q hq=>h.ons q ((cK h.nd).1 hq).1,gT h.nd,Nat.le_trans rH h.most,h.sides,h.snd,h.smost,fun h4=>absurd h3 h4,fun h4=>absurd h4 h2,gT h.lnd,fun _ q=>?_⟩
         show q∈bS r s.live ↔ q∈bS r s.ons∧aE k.side q∈s.sides
         rw [cK h.lnd,cK h.nd,h.meet h3 q]
         exact ⟨fun h4=>⟨⟨h4.1.1,h4.2⟩,h4.1.2⟩,fun h4=>⟨⟨h4.1.1,h4.2⟩,h4.1.2⟩⟩
        ·rename_i pK
         have pK:r∉s.live:=bT.1 (by simpa using pK)
         refine ⟨fun q hq=>h.ons q ((cK h.nd).1 hq).1,gT h.nd,Nat.le_trans rH h.most,h.sides,h.snd,h.smost,fun h4=>absurd h3 h4,fun h4=>absurd h4 h2,h.lnd,fun _ q=>?_⟩
         show q∈s.live ↔ q∈bS r s.ons∧aE k.side q∈s.sides
         rw [cK h.nd,h.meet h3 q]
         refine ⟨fun h4=>⟨⟨h4.1,fun e=>?_⟩,h4.2⟩,fun h4=>⟨h4.1.1,h4.2⟩⟩
         subst e
         exact pK ((h.meet h3 q).2 h4)
       ·exact h
     ·rename_i h3
      have hl:=h.plain h3
      unfold kM
      rw [hl]
      split
      ·split
       ·exact h
       ·rename_i bE
        have bE:r∉s.ons:=bT.1 (by simpa using bE)
        split
        ·rename_i hm
         exact ⟨gH,gP h.nd bE,by simp;omega,h.sides,h.snd,h.smost,fun _=>rfl,fun h4=>absurd h4 h2,gP h.nd bE,fun h4=>absurd h4 h3⟩
        ·exact h
      ·split
       ·exact ⟨fun q hq=>h.ons q ((cK h.nd).1 hq).1,gT h.nd,Nat.le_trans rH h.most,h.sides,h.snd,h.smost,fun _=>rfl,fun h4=>absurd h4 h2,gT h.nd,fun h4=>absurd h4 h3⟩
       ·exact h
   ·exact h
end Go.Proofs.YtahdiiaadjdmcaaGreat
namespace Go.Proofs.YtahdiiaadjdmcaaGreat
open Go.RowKit Classical
def eL (k:NK) (s:cR) (r:List V):Nat:=match jW r s.ons with
 | none=>0
 | some i=>if k.kind=2 then s.cnt[i]?.getD 0 else if k.kind=3∧inB s.sides (aE k.side r)=true then 2 else 1
def bG (k:NK) (s:cR) (r:List V):Bool:=decide (1<eL k s r∨(eL k s r=1∧k.kind≠3))
def iH (l:List (List V)) (on:Bool) (r:List V) (most:Nat):List (List V) × Int:=match jW r l with
 | some i=>if on then (l,191) else (l.eraseIdx i,0)
 | none=>if on then if most≤l.length then (l,31) else (l ++ [r],0) else (l,192)
def eY (s:cR) (on:Bool) (own:List V) (most:Nat):cR × Int:=match jW own s.ons with
 |some i=>if on then if 65536≤s.cnt[i]?.getD 0 then (s,31) else ({s with cnt:=s.cnt.set i (s.cnt[i]?.getD 0+1)},0)
  else if 1<s.cnt[i]?.getD 0 then ({s with cnt:=s.cnt.set i (s.cnt[i]?.getD 0 - 1)},0) else ({s with ons:=s.ons.eraseIdx i,cnt:=s.cnt.eraseIdx i},0)
 | none=>if on then if most≤s.ons.length then (s,31) else ({s with ons:=s.ons ++ [own],cnt:=s.cnt ++ [1]},0) else (s,192)
def gM (k:NK) (s:cR) (on:Bool) (from_:Int) (r:List V):cR × Int:=
 if k.kind=2 then eY s on (aE k.keep r) k.most
 else if from_=2 then ({s with sides:=(iH s.sides on r k.most).1},(iH s.sides on r k.most).2)
 else ({s with ons:=(iH s.ons on r k.most).1},(iH s.ons on r k.most).2)
def eM (s s1:cR) (on:Bool):List (List V):=if on then s1.ons else s.ons
def pY (k:NK) (s s1:cR) (on:Bool):List (List V):=(eM s s1 on).filter fun x=>bG k s1 x != inB s.live x
def pG (k:NK) (s s1:cR) (on:Bool):List (List V):=(eM s s1 on).filter fun x=>eL k s1 x != eL k s x
def Je (k:NK) (s s1:cR) (on:Bool):List (List V):=s.live.filter (bG k s1) ++ (pY k s s1 on).filter (bG k s1)
def tQ (k:NK) (s s1:cR) (on:Bool):rE:=({s1 with live:=Je k s s1 on},pY k s s1 on,pG k s s1 on,0)
def lK (k:NK) (s:cR) (on:Bool) (from_:Int) (r:List V):rE:=
 if (gM k s on from_ r).2=0 then tQ k s (gM k s on from_ r).1 on else (s,[],[],(gM k s on from_ r).2)
def sU (k:NK) (s:cR) (on:Bool) (from_:Int) (r:List V):rE:=
 if from_=2∧k.kind=3 then if aV k.side.length r then lK k s on from_ r else (s,[],[],62)
 else if from_≠1 then (s,[],[],190)
 else if aV k.inn r then lK k s on from_ r else (s,[],[],62)
theorem j1 {k:NK} (h:k.kind=2) (s:cR) (r:List V):eL k s r=bY s.ons s.cnt r:=by
 rw [l8]
 unfold eL
 cases jW r s.ons with
 | none=>rfl
 | some i=>exact if_pos h
theorem nQ {k:NK} (h:k.kind=3) (s:cR) (r:List V):eL k s r=if r∈s.ons then (if aE k.side r∈s.sides then 2 else 1) else 0:=by
 unfold eL
 cases hi:jW r s.ons with
 | none=>rw [if_neg (kT.1 hi)]
 |some i=>
  rw [if_pos (List.mem_of_getElem? (iC hi))]
  simp only [h,bK,true_and,Nat.reduceEqDiff,if_false]
theorem sK {k:NK} (h2:k.kind≠2) (h3:k.kind≠3) (s:cR) (r:List V):eL k s r=if r∈s.ons then 1 else 0:=by
 unfold eL
 cases hi:jW r s.ons with
 | none=>rw [if_neg (kT.1 hi)]
 |some i=>
  rw [if_pos (List.mem_of_getElem? (iC hi))]
  simp only [h2,h3,false_and,if_false]
theorem Ci {k:NK} (h:k.kind=2) (s:cR) (r:List V):bG k s r=decide (1≤bY s.ons s.cnt r):=by
 unfold bG;rw [j1 h];apply decide_eq_decide.2;omega
theorem pL {k:NK} (h:k.kind=3) (s:cR) (r:List V):bG k s r=true ↔ r∈s.ons∧aE k.side r∈s.sides:=by
 unfold bG
 rw [decide_eq_true_iff,nQ h]
 by_cases h1:r∈s.ons
 ·by_cases h2:aE k.side r∈s.sides
  ·simp [h1,h2]
  ·simp [h1,h2,h]
 ·simp [h1]
theorem Nj {k:NK} (h2:k.kind≠2) (h3:k.kind≠3) (s:cR) (r:List V):bG k s r=true ↔ r∈s.ons:=by
 unfold bG
 rw [decide_eq_true_iff,sK h2 h3]
 by_cases h1:r∈s.ons <;> simp [h1,h3]
theorem zbS {k:NK} {s:cR} (h:iS k s) (r:List V):vG k s r=eL k s r:=by
 unfold vG
 by_cases h3:k.kind=3
 ·rw [if_pos h3,nQ h3]
  by_cases h1:r∈s.ons
  ·rw [bK.2 h1,if_pos rfl,if_pos h1]
   by_cases h2:aE k.side r∈s.sides
   ·rw [bK.2 ((h.meet h3 r).2 ⟨h1,h2⟩),if_pos rfl,if_pos h2]
   ·rw [bT.2 (fun hl=>h2 ((h.meet h3 r).1 hl).2),if_neg h2];rfl
  ·rw [bT.2 h1,if_neg h1];rfl
 ·rw [if_neg h3,h.plain h3]
  by_cases h2:k.kind=2
  ·rw [j1 h2]
   have hp:=qT (h.cnt h2).1 (fun c hc=>((h.cnt h2).2 c hc).1) r
   by_cases h1:r∈s.ons
   ·rw [bK.2 h1,if_pos rfl,if_pos h2]
   ·rw [bT.2 h1,hp.2 h1];rfl
  ·rw [sK h2 h3]
   by_cases h1:r∈s.ons
   ·rw [bK.2 h1,if_pos h1,if_pos rfl,if_neg h2]
   ·rw [bT.2 h1,if_neg h1];rfl
theorem sX {l:List (List V)} {p:List V→Bool} {r:List V} (hn:l.Nodup) (hr:r∈l) (hp:∀ x∈l,p x=true ↔ x=r):l.filter p=[r]:=by
 induction l with
 | nil=>cases hr
 |cons a l ih=>
  rw [List.nodup_cons] at hn
  rw [List.filter_cons]
  by_cases ha:a=r
  ·subst ha
   rw [if_pos ((hp a (List.mem_cons_self ..)).2 rfl)]
   congr 1
   rw [List.filter_eq_nil_iff]
   intro x hx h
   have:=(hp x (List.mem_cons_of_mem _ hx)).1 h
   subst this
   exact hn.1 hx
  ·rw [if_neg (fun h=>ha ((hp a (List.mem_cons_self ..)).1 h))]
   exact ih hn.2 ((List.mem_cons.1 hr).resolve_left (fun e=>ha e.symm)) fun x hx=>hp x (List.mem_cons_of_mem _ hx)
theorem filter_nil {l:List (List V)} {p:List V→Bool} (hp:∀ x∈l,p x=false):l.filter p=[]:=by
 rw [List.filter_eq_nil_iff]
 intro x hx h
 rw [hp x hx] at h;cases h
theorem o7 {l:List (List V)} {p:List V→Bool} (hp:∀ x∈l,p x=true):l.filter p=l:=List.filter_eq_self.2 hp
theorem bne_iff' {a b:Bool}:(a != b)=true ↔ ¬ (a=true ↔ b=true):=by cases a <;> cases b <;> simp
theorem Mx {l:List (List V)} {r:List V} (h:r∈l) (on:Bool) (most:Nat):iH l on r most=if on then (l,191) else (bS r l,0):=by
 obtain ⟨i,hi⟩:=mQ h
 unfold iH
 rw [hi,v7 hi]
theorem Gl {l:List (List V)} {r:List V} (h:r∉l) (on:Bool) (most:Nat):iH l on r most=if on then if l.length<most then (l ++ [r],0) else (l,31) else (l,192):=by
 unfold iH
 rw [kT.2 h]
 cases on
 ·rfl
 ·simp only [if_true]
  by_cases hm:l.length<most
  ·rw [if_pos hm,if_neg (by omega)]
  ·rw [if_neg hm,if_pos (by omega)]
theorem rC {k:NK} {s s1:cR} {on:Bool} {L F T:List (List V)} (hf:pY k s s1 on=F) (ht:pG k s s1 on=T) (hl:s.live.filter (bG k s1) ++ F.filter (bG k s1)=L):tQ k s s1 on=({s1 with live:=L},F,T,0):=by
 unfold tQ Je
 rw [hf,ht,hl]
theorem θ {k:NK} {s:cR} (h:iS k s) (h3:k.kind=3) (on:Bool) (r:List V):lK k s on 2 r=sideN k s on r:=by
 have fI:gM k s on 2 r=({s with sides:=(iH s.sides on r k.most).1},(iH s.sides on r k.most).2):=by
  unfold gM;rw [if_neg (by omega),if_pos rfl]
 unfold lK
 rw [fI]
 unfold sideN
 by_cases bE:r∈s.sides
 ·rw [Mx bE,bK.2 bE]
  cases on with
  | true=>rfl
  |false=>
   simp only [Bool.false_eq_true,if_false,if_true]
   refine rC ?_ ?_ ?_
   ·unfold pY aM eM
    simp only [Bool.false_eq_true,if_false]
    apply List.filter_congr
    intro x hx
    apply Bool.eq_iff_iff.2
    rw [bne_iff',pL h3,bK,h.meet h3,cP]
    show ¬ ((x∈s.ons∧aE k.side x∈bS r s.sides) ↔ (x∈s.ons∧aE k.side x∈s.sides)) ↔ _
    rw [cK h.snd]
    constructor
    ·intro hh
     refine Classical.byContradiction fun aZ=>hh ⟨fun h4=>⟨hx,h4.2.1⟩,fun h4=>⟨hx,h4.2,aZ⟩⟩
    ·rintro rfl hh
     exact (hh.2 ⟨hx,bE⟩).2.2 rfl
   ·unfold pG aM eM
    simp only [Bool.false_eq_true,if_false]
    apply List.filter_congr
    intro x hx
    rw [nQ h3,nQ h3]
    show ((if x∈s.ons then if aE k.side x∈bS r s.sides then 2 else 1 else 0) != (if x∈s.ons then if aE k.side x∈s.sides then 2 else 1 else 0))=_
    rw [if_pos hx,if_pos hx]
    by_cases he:aE k.side x=r
    ·subst he
     rw [if_neg (fun h4=>((cK h.snd).1 h4).2 rfl),if_pos bE,bH];rfl
    ·rw [cJ he]
     by_cases hks:aE k.side x∈s.sides
     ·rw [if_pos ((cK h.snd).2 ⟨hks,he⟩),if_pos hks];rfl
     ·rw [if_neg (fun h4=>hks ((cK h.snd).1 h4).1),if_neg hks];rfl
   ·rw [filter_nil (l:=aM k s r),List.append_nil]
    ·apply List.filter_congr
     intro x hx
     have y9:=(h.meet h3 x).1 hx
     apply Bool.eq_iff_iff.2
     rw [pL h3]
     show (x∈s.ons∧aE k.side x∈bS r s.sides) ↔ _
     rw [cK h.snd]
     by_cases he:aE k.side x=r
     ·rw [he,bH];simp
     ·rw [cJ he];simp [y9.1,y9.2,he]
    ·intro x hx
     have y9:=eJ.1 hx
     refine Bool.eq_false_iff.2 fun h4=>?_
     have h5:=((pL h3 _ x).1 h4).2
     exact ((cK h.snd).1 h5).2 y9.2
 ·rw [Gl bE,bT.2 bE]
  cases on with
  | false=>rfl
  |true=>
   simp only [if_true,Bool.false_eq_true,if_false]
   by_cases hm:s.sides.length<k.most
   ·rw [if_pos hm,if_pos hm]
    simp only [if_true]
    refine rC ?_ ?_ ?_
    ·unfold pY aM eM
     simp only [if_true]
     apply List.filter_congr
     intro x hx
     apply Bool.eq_iff_iff.2
     rw [bne_iff',pL h3,bK,h.meet h3,cP]
     show ¬ ((x∈s.ons∧aE k.side x∈s.sides ++ [r]) ↔ (x∈s.ons∧aE k.side x∈s.sides)) ↔ _
     rw [List.mem_append,List.mem_singleton]
     constructor
     ·intro hh
      refine Classical.byContradiction fun aZ=>hh ⟨fun h4=>⟨hx,h4.2.resolve_right aZ⟩,fun h4=>⟨hx,.inl h4.2⟩⟩
     ·rintro rfl hh
      exact bE (hh.1 ⟨hx,.inr rfl⟩).2
    ·unfold pG aM eM
     simp only [if_true]
     apply List.filter_congr
     intro x hx
     rw [nQ h3,nQ h3]
     show ((if x∈s.ons then if aE k.side x∈s.sides ++ [r] then 2 else 1 else 0) != (if x∈s.ons then if aE k.side x∈s.sides then 2 else 1 else 0))=_
     rw [if_pos hx,if_pos hx]
     by_cases he:aE k.side x=r
     ·subst he
      rw [if_pos (List.mem_append_right _ (List.mem_singleton.2 rfl)),if_neg bE,bH];rfl
     ·rw [cJ he]
      by_cases hks:aE k.side x∈s.sides
      ·rw [if_pos (List.mem_append_left _ hks),if_pos hks];rfl
      ·rw [if_neg (fun h4=>(List.mem_append.1 h4).elim hks fun h5=>he (List.mem_singleton.1 h5)),if_neg hks];rfl
    ·congr 1
     ·refine o7 fun x hx=>?_
      have y9:=(h.meet h3 x).1 hx
      exact (pL h3 _ x).2 ⟨y9.1,List.mem_append_left _ y9.2⟩
     ·refine o7 fun x hx=>?_
      have y9:=eJ.1 hx
      exact (pL h3 _ x).2 ⟨y9.1,List.mem_append_right _ (List.mem_singleton.2 y9.2)⟩
   ·rw [if_neg hm,if_neg hm];rfl
end Go.Proofs.YtahdiiaadjdmcaaGreat
namespace Go.Proofs.YtahdiiaadjdmcaaGreat
open Go.RowKit Classical
theorem sY {k:NK} {s s1:cR} {r:List V} (hr:r∉s.ons) (h1:s1.ons=s.ons ++ [r]) (pK:∀ x∈s.ons,bG k s1 x=inB s.live x) (hsup:∀ x∈s.ons,eL k s1 x=eL k s x) (hl:∀ x∈s.live,x∈s.ons) (h0:eL k s r=0) (h2:eL k s1 r≠0) :
 tQ k s s1 true=({s1 with live:=s.live ++ if bG k s1 r then [r] else []},if bG k s1 r then [r] else [],[r],0):=by
 have q_:inB s.live r=false:=bT.2 fun h=>hr (hl r h)
 have hF:pY k s s1 true=if bG k s1 r then [r] else []:=by
  unfold pY eM
  rw [if_pos rfl,h1,List.filter_append,filter_nil (fun x hx=>by rw [pK x hx];simp)]
  rw [List.filter_cons,q_]
  cases bG k s1 r <;> simp
 refine rC hF ?_ ?_
 ·unfold pG eM
  rw [if_pos rfl,h1,List.filter_append,filter_nil (fun x hx=>by rw [hsup x hx];simp)]
  rw [List.filter_cons,h0]
  simp [h2]
 ·rw [o7 (fun x hx=>by rw [pK x (hl x hx)];exact bK.2 hx)]
  congr 1
  cases hb:bG k s1 r with
  | true=>simp [hb]
  | false=>simp
theorem zX {k:NK} {s s1:cR} {r:List V} (hn:s.ons.Nodup) (hr:r∈s.ons) (pK:∀ x∈s.ons,x≠r→bG k s1 x=inB s.live x) (hsup:∀ x∈s.ons,x≠r→eL k s1 x=eL k s x) (hl:∀ x∈s.live,x∈s.ons) (zaf:s.live.Nodup) (h0:eL k s r≠0) (h1:eL k s1 r=0) :
 tQ k s s1 false=({s1 with live:=bS r s.live},if inB s.live r then [r] else [],[r],0):=by
 have ze8:bG k s1 r=false:=by unfold bG;rw [h1];simp
 have hF:pY k s s1 false=if inB s.live r then [r] else []:=by
  unfold pY eM
  rw [if_neg (by simp)]
  cases hb:inB s.live r with
  |true=>
   rw [if_pos rfl]
   refine sX hn hr fun x hx=>⟨fun h=>Classical.byContradiction fun aZ=>?_,fun e=>?_⟩
   ·rw [pK x hx aZ] at h;simp at h
   ·subst e;rw [ze8,hb];rfl
  |false=>
   refine filter_nil fun x hx=>?_
   by_cases he:x=r
   ·subst he;rw [ze8,hb];rfl
   ·rw [pK x hx he];simp
 refine rC hF ?_ ?_
 ·unfold pG eM
  rw [if_neg (by simp)]
  refine sX hn hr fun x hx=>⟨fun h=>Classical.byContradiction fun aZ=>?_,fun e=>?_⟩
  ·rw [hsup x hx aZ] at h;simp at h
  ·subst e;rw [h1];simp;omega
 ·have zkz:(if inB s.live r then [r] else []).filter (bG k s1)=[]:=by
   split
   ·rw [List.filter_cons,ze8];rfl
   ·rfl
  rw [zkz,List.append_nil,kU zaf]
  apply List.filter_congr
  intro x hx
  by_cases he:x=r
  ·subst he;rw [ze8,bH];rfl
  ·rw [pK x (hl x hx) he,bK.2 hx,cJ he];rfl
theorem zL {k:NK} {s s1:cR} {on:Bool} {r:List V} (hn:s.ons.Nodup) (hr:r∈s.ons) (h1:s1.ons=s.ons) (pK:∀ x∈s.ons,bG k s1 x=inB s.live x) (hsup:∀ x∈s.ons,x≠r→eL k s1 x=eL k s x) (hl:∀ x∈s.live,x∈s.ons) (h2:eL k s1 r≠eL k s r) :
 tQ k s s1 on=({s1 with live:=s.live},[],[r],0):=by
 have Vm:eM s s1 on=s.ons:=by unfold eM;rw [h1];simp
 refine rC ?_ ?_ ?_
 ·unfold pY
  rw [Vm]
  exact filter_nil fun x hx=>by rw [pK x hx];simp
 ·unfold pG
  rw [Vm]
  refine sX hn hr fun x hx=>⟨fun h=>Classical.byContradiction fun aZ=>?_,fun e=>?_⟩
  ·rw [hsup x hx aZ] at h;simp at h
  ·subst e;simpa using h2
 ·rw [List.filter_nil,List.append_nil]
  exact o7 fun x hx=>by rw [pK x (hl x hx)];exact bK.2 hx
theorem Tw {k:NK} {s:cR} (h:iS k s) (h3:k.kind=3) (on:Bool) (r:List V):lK k s on 1 r=eD k s on r:=by
 have fI:gM k s on 1 r=({s with ons:=(iH s.ons on r k.most).1},(iH s.ons on r k.most).2):=by
  unfold gM;rw [if_neg (by omega),if_neg (by decide)]
 have hl:∀ x∈s.live,x∈s.ons:=fun x hx=>((h.meet h3 x).1 hx).1
 unfold lK
 rw [fI]
 unfold eD
 by_cases bE:r∈s.ons
 ·rw [Mx bE,bK.2 bE]
  cases on with
  | true=>rfl
  |false=>
   simp only [Bool.false_eq_true,if_false,if_true]
   rw [zX h.nd bE ?_ ?_ hl h.lnd ?_ ?_]
   ·cases hb:inB s.live r with
    | true=>rfl
    | false=>rw [J8 (bT.1 hb)];rfl
   ·intro x hx aZ
    apply Bool.eq_iff_iff.2
    rw [pL h3,bK,h.meet h3]
    show (x∈bS r s.ons∧_) ↔ _
    rw [cK h.nd]
    exact ⟨fun h4=>⟨h4.1.1,h4.2⟩,fun h4=>⟨⟨h4.1,aZ⟩,h4.2⟩⟩
   ·intro x hx aZ
    rw [nQ h3,nQ h3,if_pos hx]
    exact if_pos ((cK h.nd).2 ⟨hx,aZ⟩)
   ·rw [nQ h3,if_pos bE];split <;> omega
   ·rw [nQ h3]
    exact if_neg fun h4=>((cK h.nd).1 h4).2 rfl
 ·rw [Gl bE,bT.2 bE]
  cases on with
  | false=>rfl
  |true=>
   simp only [if_true,Bool.false_eq_true,if_false]
   by_cases hm:s.ons.length<k.most
   ·rw [if_pos hm,if_pos hm]
    simp only [if_true]
    have zdN:bG k {s with ons:=s.ons ++ [r]} r=inB s.sides (aE k.side r):=by
     apply Bool.eq_iff_iff.2
     rw [pL h3,bK]
     exact ⟨fun h4=>h4.2,fun h4=>⟨List.mem_append_right _ (List.mem_singleton.2 rfl),h4⟩⟩
    rw [sY bE rfl ?_ ?_ hl ?_ ?_,zdN]
    ·cases inB s.sides (aE k.side r) with
     | true=>rfl
     | false=>simp only [Bool.false_eq_true,if_false,List.append_nil]
    ·intro x hx
     apply Bool.eq_iff_iff.2
     rw [pL h3,bK,h.meet h3]
     exact ⟨fun h4=>⟨hx,h4.2⟩,fun h4=>⟨List.mem_append_left _ hx,h4.2⟩⟩
    ·intro x hx
     rw [nQ h3,nQ h3,if_pos hx]
     exact if_pos (List.mem_append_left _ hx)
    ·rw [nQ h3,if_neg bE]
    ·rw [nQ h3]
     show (if r∈s.ons ++ [r] then _ else 0)≠0
     rw [if_pos (List.mem_append_right _ (List.mem_singleton.2 rfl))];split <;> omega
   ·rw [if_neg hm,if_neg hm];rfl
theorem vf {k:NK} {s:cR} (h:iS k s) (h2:k.kind≠2) (h3:k.kind≠3) (on:Bool) (r:List V):lK k s on 1 r=kM k s on r:=by
 have fI:gM k s on 1 r=({s with ons:=(iH s.ons on r k.most).1},(iH s.ons on r k.most).2):=by
  unfold gM;rw [if_neg h2,if_neg (by decide)]
 have pK:=h.plain h3
 have hl:∀ x∈s.live,x∈s.ons:=fun x hx=>pK ▸ hx
 have hb:inB s.live r=inB s.ons r:=by rw [pK]
 have zaf:s.live.length=s.ons.length:=by rw [pK]
 unfold lK
 rw [fI]
 unfold kM
 by_cases bE:r∈s.ons
 ·rw [Mx bE,hb,bK.2 bE]
  cases on with
  | true=>rfl
  |false=>
   simp only [Bool.false_eq_true,if_false,if_true]
   rw [zX h.nd bE ?_ ?_ hl h.lnd ?_ ?_]
   ·rw [hb,bK.2 bE];rfl
   ·intro x hx aZ
    apply Bool.eq_iff_iff.2
    rw [Nj h2 h3,bK,pK]
    exact ⟨fun h4=>((cK h.nd).1 h4).1,fun h4=>(cK h.nd).2 ⟨h4,aZ⟩⟩
   ·intro x hx aZ
    rw [sK h2 h3,sK h2 h3,if_pos hx]
    exact if_pos ((cK h.nd).2 ⟨hx,aZ⟩)
   ·rw [sK h2 h3,if_pos bE];omega
   ·rw [sK h2 h3]
    exact if_neg fun h4=>((cK h.nd).1 h4).2 rfl
 ·rw [Gl bE,hb,bT.2 bE]
  cases on with
  | false=>rfl
  |true=>
   simp only [if_true,Bool.false_eq_true,if_false]
   by_cases hm:s.ons.length<k.most
   ·rw [if_pos hm,if_pos (show s.live.length<k.most by omega)]
    simp only [if_true]
    have zdN:bG k {s with ons:=s.ons ++ [r]} r=true:=(Nj h2 h3 _ r).2 (List.mem_append_right _ (List.mem_singleton.2 rfl))
    rw [sY bE rfl ?_ ?_ hl ?_ ?_,zdN]
    ·rfl
    ·intro x hx
     apply Bool.eq_iff_iff.2
     rw [Nj h2 h3,bK,pK]
     exact ⟨fun _=>hx,fun h4=>List.mem_append_left _ hx⟩
    ·intro x hx
     rw [sK h2 h3,sK h2 h3,if_pos hx]
     exact if_pos (List.mem_append_left _ hx)
    ·rw [sK h2 h3,if_neg bE]
    ·rw [sK h2 h3]
     show (if r∈s.ons ++ [r] then 1 else 0)≠0
     rw [if_pos (List.mem_append_right _ (List.mem_singleton.2 rfl))];omega
   ·rw [if_neg hm,if_neg (show ¬ s.live.length<k.most by omega)];rfl
theorem xc {k:NK} {s:cR} (h:iS k s) (h2:k.kind=2) (on:Bool) (r:List V):lK k s on 1 r=jG k s on (aE k.keep r):=by
 have fI:gM k s on 1 r=eY s on (aE k.keep r) k.most:=by unfold gM;rw [if_pos h2]
 have pK:=h.plain (by omega)
 have hl:∀ x∈s.live,x∈s.ons:=fun x hx=>pK ▸ hx
 have hc:=h.cnt h2
 have hp:=fun x=>qT hc.1 (fun c mG=>(hc.2 c mG).1) x
 have Lr:bY s.ons s.cnt (aE k.keep r)≤65536:=by
  rw [l8]
  cases jW (aE k.keep r) s.ons with
  | none=>simp
  |some i=>
   cases hi:s.cnt[i]? with
   | none=>simp [hi]
   | some c=>simpa [hi] using (hc.2 c (List.mem_of_getElem? hi)).2
 have Fw:∀ x∈s.ons,decide (1≤bY s.ons s.cnt x)=inB s.live x:=fun x hx=>by
  rw [pK,bK.2 hx];exact decide_eq_true ((hp x).1 hx)
 have zaf:s.live.length=s.ons.length:=by rw [pK]
 unfold lK
 rw [fI]
 unfold jG eY
 generalize aE k.keep r=own at *
 by_cases bE:own∈s.ons
 ·obtain ⟨i,hi⟩:=mQ bE
  have Tb:s.cnt[i]?.getD 0=bY s.ons s.cnt own:=by rw [l8,hi]
  have h1:=(hp own).1 bE
  rw [hi]
  simp only [Option.getD_some]
  rw [Tb]
  cases on with
  |true=>
   simp only [if_true]
   by_cases hmx:bY s.ons s.cnt own=65536
   ·rw [if_pos (show 65536≤bY s.ons s.cnt own by omega),if_pos hmx];rfl
   ·rw [if_neg (show ¬ 65536≤bY s.ons s.cnt own by omega),if_neg hmx,if_neg (show ¬ bY s.ons s.cnt own=0 by omega)]
    simp only [if_true]
    have hs:=fun x=>rL (own:=own) (c:=bY s.ons s.cnt own+1) x hc.1 hi
    rw [zL (s1:={s with cnt:=s.cnt.set i (bY s.ons s.cnt own+1)}) h.nd bE rfl ?_ ?_ hl ?_]
    ·intro x hx
     rw [Ci h2]
     show decide (1≤bY s.ons (s.cnt.set i _) x)=_
     rw [hs x]
     split
     ·rw [pK,bK.2 hx];exact decide_eq_true (by omega)
     ·exact Fw x hx
    ·intro x hx aZ
     rw [j1 h2,j1 h2]
     exact (hs x).trans (if_neg aZ)
    ·rw [j1 h2,j1 h2]
     show bY s.ons (s.cnt.set i _) own≠_
     rw [hs own,if_pos rfl];omega
  |false=>
   simp only [Bool.false_eq_true,if_false]
   rw [if_neg (show ¬ bY s.ons s.cnt own=0 by omega)]
   by_cases Cr:bY s.ons s.cnt own=1
   ·rw [if_neg (show ¬ 1<bY s.ons s.cnt own by omega),if_pos Cr]
    simp only [if_true]
    have he:=fun x=>tY (own:=own) x h.nd hc.1 hi
    have xZ:=v7 hi
    rw [zX h.nd bE ?_ ?_ hl h.lnd ?_ ?_]
    ·rw [show inB s.live own=true by rw [pK];exact bK.2 bE,if_pos rfl,xZ]
    ·intro x hx aZ
     rw [Ci h2]
     show decide (1≤bY (s.ons.eraseIdx i) (s.cnt.eraseIdx i) x)=_
     rw [he x,if_neg aZ]
     exact Fw x hx
    ·intro x hx aZ
     rw [j1 h2,j1 h2]
     exact (he x).trans (if_neg aZ)
    ·rw [j1 h2];omega
    ·rw [j1 h2]
     exact (he own).trans (if_pos rfl)
   ·rw [if_pos (show 1<bY s.ons s.cnt own by omega),if_neg Cr]
    simp only [if_true]
    have hs:=fun x=>rL (own:=own) (c:=bY s.ons s.cnt own - 1) x hc.1 hi
    rw [zL (s1:={s with cnt:=s.cnt.set i (bY s.ons s.cnt own - 1)}) h.nd bE rfl ?_ ?_ hl ?_]
    ·intro x hx
     rw [Ci h2]
     show decide (1≤bY s.ons (s.cnt.set i _) x)=_
     rw [hs x]
     split
     ·rw [pK,bK.2 hx];exact decide_eq_true (by omega)
     ·exact Fw x hx
    ·intro x hx aZ
     rw [j1 h2,j1 h2]
     exact (hs x).trans (if_neg aZ)
    ·rw [j1 h2,j1 h2]
     show bY s.ons (s.cnt.set i _) own≠_
     rw [hs own,if_pos rfl];omega
 ·have h0:=(hp own).2 bE
  rw [kT.2 bE,h0]
  cases on with
  | false=>rfl
  |true=>
   simp only [if_true]
   rw [if_neg (show ¬ (0:Nat)=65536 by decide),zaf]
   by_cases hm:s.ons.length<k.most
   ·rw [if_pos hm,if_neg (show ¬ k.most≤s.ons.length by omega)]
    simp only [if_true]
    have ha:=fun x=>Av (own:=own) x 1 bE hc.1
    have zdN:bG k {s with ons:=s.ons ++ [own],cnt:=s.cnt ++ [1]} own=true:=by
     rw [Ci h2]
     show decide (1≤bY (s.ons ++ [own]) (s.cnt ++ [1]) own)=true
     rw [ha own,if_pos rfl];rfl
    rw [sY bE rfl ?_ ?_ hl ?_ ?_,zdN]
    ·rfl
    ·intro x hx
     rw [Ci h2]
     show decide (1≤bY (s.ons ++ [own]) (s.cnt ++ [1]) x)=_
     rw [ha x,if_neg (fun e:x=own=>bE (e ▸ hx))]
     exact Fw x hx
    ·intro x hx
     rw [j1 h2,j1 h2]
     exact (ha x).trans (if_neg (fun e:x=own=>bE (e ▸ hx)))
    ·rw [j1 h2];exact h0
    ·rw [j1 h2]
     show bY (s.ons ++ [own]) (s.cnt ++ [1]) own≠0
     rw [ha own,if_pos rfl];omega
   ·rw [if_neg hm,if_pos (show k.most≤s.ons.length by omega)];rfl
theorem Fs {k:NK} {s:cR} (h:iS k s) (on:Bool) (from_:Int) (r:List V):sU k s on from_ r=iE k s on from_ r:=by
 unfold sU iE
 by_cases h1:from_=2∧k.kind=3
 ·rw [if_pos h1,if_pos h1,h1.1,θ h h1.2]
 ·rw [if_neg h1,if_neg h1]
  by_cases h2:from_=1
  ·subst h2
   simp only [ne_eq,not_true_eq_false,if_false]
   split
   ·by_cases k2:k.kind=2
    ·rw [if_pos k2,xc h k2]
    ·rw [if_neg k2]
     by_cases k3:k.kind=3
     ·rw [if_pos k3,Tw h k3]
     ·rw [if_neg k3,vf h k2 k3]
   ·rfl
  ·simp only [ne_eq,h2,not_false_eq_true,if_true]
end Go.Proofs.YtahdiiaadjdmcaaGreat
