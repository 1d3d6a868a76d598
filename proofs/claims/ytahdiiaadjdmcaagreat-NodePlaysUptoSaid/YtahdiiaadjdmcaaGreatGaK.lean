import Derived.Laws.Closers25b
import Derived.Test.YtahdiiaadjdmcaaGreatGaJ
namespace Go.Proofs.YtahdiiaadjdmcaaGreat
def zbB (l:List UInt8):Nat:=l.foldl (fun n c=>n*256+c.toNat) 0
def Pw (N:Nat):Int:=(N:Int) - 9223372036854775808
def sM:List UInt8→Option (List UInt8 × Nat)
 | []=>none
 | [b]=>if b=0 then none else none
 | b :: c :: l=>if b=0 then (if c=0 then some ([],2) else if c=255 then (sM l).map fun p=>(0 :: p.1,p.2+2) else none) else (sM (c :: l)).map fun p=>(b :: p.1,p.2+1)
def one:List UInt8→Option (V × Nat)
 | []=>none
 |h :: l=>
  if h=1 then (if l.length<8 then none else some (⟨1,Pw (zbB (l.take 8)),ByteArray.empty⟩,9))
  else if h=2 then (match sM l with | some (t,k)=>if 64<t.length then none else some (⟨2,0,⟨t.toArray⟩⟩,k+1) | none=>none)
  else none
def Kq:Nat→List UInt8→Option (List V)
 | _,[]=>some []
 | 0,_ :: _=>none
 | k+1,b :: l=>match one (b :: l) with | none=>none | some (v,n)=>(Kq k ((b :: l).drop n)).map (v :: ·)
def zef (b:List UInt8):List V × Int:=match Kq 30 b with | some r=>(r,0) | none=>([],22)
theorem Of {b:UInt8} (l:List UInt8) (h:b≠0):sM (b :: l)=(sM l).map fun p=>(b :: p.1,p.2+1):=by
 cases l with
 | nil=>simp [sM]
 | cons c l=>simp [sM,h]
theorem wO:∀ (t rest:List UInt8),sM (tC t ++ 0 :: 0 :: rest)=some (t,(tC t).length+2)
 | [],rest=>by simp [tC,sM]
 |b :: t,rest=>by
  by_cases h:b=0
  ·subst h
   simp [tC,sM,wO t rest]
  ·simp only [tC,if_neg h,List.cons_append]
   rw [Of _ h,wO t rest]
   simp
theorem zv (N:Nat) (h:N<18446744073709551616):zbB (vC N)=N:=by
 simp [zbB,vC,UInt8.toNat_ofNat']
 omega
theorem Kr {i:Int} (h : -9223372036854775808≤i∧i≤9223372036854775807):Pw (pB i)=i:=by unfold Pw pB;omega
theorem jv (N:Nat):(vC N).length=8:=rfl
def zd4 (v:V):Prop:=-9223372036854775808≤v.i∧v.i≤9223372036854775807
theorem Zu (v:V) (h:bO v=true) (hw:zd4 v) (rest:List UInt8):one (jZ v ++ rest)=some (v,(jZ v).length):=by
 obtain ⟨vk,vi,vt⟩:=v
 unfold bO at h
 unfold jZ
 dsimp only at h ⊢
 split at h
 ·rename_i h1;subst h1
  have h:vt=ByteArray.empty:=(toList_nil_iff_emptyBytes vt).1 (by simpa using h)
  simp only [if_true,List.cons_append,one]
  rw [if_neg (by simp [jv])]
  have e:(vC (pB vi) ++ rest).take 8=vC (pB vi):=List.take_left' rfl
  rw [e,zv _ (x_ hw),Kr hw,h]
  rfl
 ·rename_i h1
  split at h
  ·rename_i h2;subst h2
   split at h
   ·rename_i h3
    have h4:vi=0:=by simpa using h3
    subst h4
    have h5:vt.size≤64:=by have:(vt.size:Int)≤64:=by simpa using h
                           omega
    simp only [if_neg h1,one,List.cons_append,List.append_assoc,List.nil_append]
    rw [wO]
    have h6:vt.data.toList.length=vt.size:=Array.length_toList
    simp [h6]
    omega
   ·cases h
  ·cases h
theorem Te (v:V):0<(jZ v).length:=by
 unfold jZ;split <;> simp
theorem Kh:∀ (k:Nat) (r:List V),r.all bO=true→(∀ v∈r,zd4 v)→r.length≤k→Kq k (dK r)=some r
 | _,[],_,_,_=>by simp [dK,Kq]
 | 0,_ :: _,_,_,h=>by simp at h
 |k+1,v :: r,hv,hw,h=>by
  simp only [List.all_cons,Bool.and_eq_true] at hv
  have e:dK (v :: r)=jZ v ++ dK r:=by simp [dK]
  have h1:=Zu v hv.1 (hw v (by simp)) (dK r)
  rw [e]
  cases hp:jZ v ++ dK r with
  | nil=>have:=Te v;have h0:=congrArg List.length hp;rw [List.length_append,List.length_nil] at h0;omega
  |cons b l=>
   rw [hp] at h1
   simp only [Kq,h1]
   rw [← hp,List.drop_left,Kh k r hv.2 (fun u hu=>hw u (by simp [hu])) (by simp at h;omega)]
   rfl
end Go.Proofs.YtahdiiaadjdmcaaGreat
namespace Go.Proofs.YtahdiiaadjdmcaaGreat
open Classical
abbrev aS:Type:=Nat × List V
noncomputable def Zg (g:List Nat) (r:List V) (P2:List aS):Int:=oi ((P2.find? fun p=>decide (aE g p.2=aE g r)).map (·.1))
def Wp (P2:List aS):Int:=oi (P2.head?.map (·.1))
noncomputable def eC (gs:List (List Nat)) (r:List V) (P2:List aS):List Int:=Wp P2 :: gs.map fun g=>Zg g r P2
noncomputable def eS (L k:Nat) (g:List Nat) (P:List aS) (key:List V):List Nat:=(P.filter fun p=>decide (aE g p.2=key)).map fun p=>p.1*L+(k+1)
structure dD (L k:Nat) (g:List Nat) (P:List aS) (D:List (List V × Nat)) (Gk:m8) (cont:Nat→List Nat):Prop where
 ents:List.Perm Gk (D.map fun d=>(pk d.1,(d.2:Int)))
 keys:(D.map (·.1)).Nodup
 mem:∀ key,key∈D.map (·.1) ↔ ∃ p∈P,aE g p.2=key
 cont:∀ d∈D,cont d.2=eS L k g P d.1
theorem cO (L k:Nat) (g:List Nat) (P1 P2:List aS) (key:List V):eS L k g (P1 ++ P2) key=eS L k g P1 key ++ eS L k g P2 key:=by simp [eS]
theorem lW (L k:Nat) (g:List Nat) (s:Nat) (r:List V) (P:List aS):eS L k g ((s,r) :: P) (aE g r)=(s*L+(k+1)) :: eS L k g P (aE g r):=by simp [eS]
theorem jL (L k:Nat) (g:List Nat) (s:Nat) (r:List V) (P:List aS) {key:List V} (h:aE g r≠key):eS L k g ((s,r) :: P) key=eS L k g P key:=by simp [eS,h]
theorem fW (L k:Nat) (g:List Nat) (P:List aS) (key:List V):eS L k g P key=[] ↔ ∀ p∈P,aE g p.2≠key:=by simp [eS]
theorem Va (L k:Nat) (g:List Nat) (r:List V) (P:List aS):(eS L k g P (aE g r)).head?=((P.find? fun p=>decide (aE g p.2=aE g r)).map (·.1)).map fun s=>s*L+(k+1):=by
 induction P with
 | nil=>rfl
 |cons p P ih=>
  obtain ⟨s,q⟩:=p
  by_cases h:aE g q=aE g r
  ·rw [← h,lW];simp
  ·rw [jL _ _ _ _ _ _ h,ih];simp [h]
theorem dD.old {L k:Nat} {g:List Nat} {P1 P2:List aS} {D:List (List V × Nat)} {Gk:m8} {cont:Nat→List Nat} (h:dD L k g (P1 ++ P2) D Gk cont) {s n:Nat} {r:List V} (hd:(aE g r,n)∈D) (Ja:∀ d∈D,∀ e∈D,d.2=e.2→d=e) :
 dD L k g (P1 ++ (s,r) :: P2) D Gk (jV cont n (eS L k g P1 (aE g r) ++ (s*L+(k+1)) :: eS L k g P2 (aE g r))):=by
 refine ⟨h.ents,h.keys,fun key=>?_,fun d iJ=>?_⟩
 ·rw [h.mem key]
  constructor
  ·rintro ⟨p,hp,e⟩
   refine ⟨p,?_,e⟩
   rcases List.mem_append.1 hp with hp | hp
   ·exact List.mem_append_left _ hp
   ·exact List.mem_append_right _ (List.mem_cons_of_mem _ hp)
  ·rintro ⟨p,hp,e⟩
   rcases List.mem_append.1 hp with hp | hp
   ·exact ⟨p,List.mem_append_left _ hp,e⟩
   ·rcases List.mem_cons.1 hp with rfl | hp
    ·exact (h.mem key).1 (by rw [← e];exact List.mem_map.2 ⟨_,hd,rfl⟩)
    ·exact ⟨p,List.mem_append_right _ hp,e⟩
 ·by_cases hn:d.2=n
  ·obtain rfl:=Ja d iJ _ hd hn
   simp only [jV,if_true]
   rw [cO,lW]
  ·simp only [jV,if_neg hn]
   rw [h.cont d iJ,cO,cO]
   rw [jL]
   intro e
   have h1:d.1=(aE g r,n).1:=e.symm
   have h2:d=(aE g r,n):=by
    have h3:=h.keys
    obtain ⟨i,hi⟩:=List.mem_iff_getElem?.1 iJ
    obtain ⟨j,hj⟩:=List.mem_iff_getElem?.1 hd
    have h4:(D.map (·.1))[i]?=(D.map (·.1))[j]?:=by rw [List.getElem?_map,List.getElem?_map,hi,hj];simp [h1]
    have h5:i<(D.map (·.1)).length:=by rw [List.length_map];exact (List.getElem?_eq_some_iff.1 hi).1
    have h6:=(List.getElem?_inj h5 h3).1 h4
    subst h6
    exact Option.some.inj (hi.symm.trans hj)
   exact hn (by rw [h2])
theorem dD.other {L k:Nat} {g:List Nat} {P:List aS} {D:List (List V × Nat)} {Gk:m8} {cont:Nat→List Nat} (h:dD L k g P D Gk cont) {n:Nat} (hn:∀ d∈D,d.2≠n) (l:List Nat):dD L k g P D Gk (jV cont n l):=
 ⟨h.ents,h.keys,h.mem,fun d hd=>by simp only [jV,if_neg (hn d hd)];exact h.cont d hd⟩
theorem dD.new {L k:Nat} {g:List Nat} {P1 P2:List aS} {D:List (List V × Nat)} {Gk:m8} {cont:Nat→List Nat} (h:dD L k g (P1 ++ P2) D Gk cont) {s n:Nat} {r:List V} (hd:aE g r∉D.map (·.1)) (hn:∀ d∈D,d.2≠n) :
 dD L k g (P1 ++ (s,r) :: P2) ((aE g r,n) :: D) ((pk (aE g r),(n:Int)) :: Gk) (jV cont n [s*L+(k+1)]):=by
 have j8:∀ p∈P1 ++ P2,aE g p.2≠aE g r:=fun p hp e=>hd ((h.mem _).2 ⟨p,hp,e⟩)
 have h1:eS L k g P1 (aE g r)=[]:=(fW L k g P1 _).2 fun p hp=>j8 p (List.mem_append_left _ hp)
 have h2:eS L k g P2 (aE g r)=[]:=(fW L k g P2 _).2 fun p hp=>j8 p (List.mem_append_right _ hp)
 refine ⟨?_,?_,fun key=>?_,fun d iJ=>?_⟩
 ·simp only [List.map_cons];exact h.ents.cons _
 ·simp only [List.map_cons,List.nodup_cons];exact ⟨hd,h.keys⟩
 ·simp only [List.map_cons,List.mem_cons,h.mem key]
  constructor
  ·rintro (rfl | ⟨p,hp,e⟩)
   ·exact ⟨(s,r),List.mem_append_right _ (by simp),rfl⟩
   ·refine ⟨p,?_,e⟩
    rcases List.mem_append.1 hp with hp | hp
    ·exact List.mem_append_left _ hp
    ·exact List.mem_append_right _ (List.mem_cons_of_mem _ hp)
  ·rintro ⟨p,hp,e⟩
   rcases List.mem_append.1 hp with hp | hp
   ·exact .inr ⟨p,List.mem_append_left _ hp,e⟩
   ·rcases List.mem_cons.1 hp with rfl | hp
    ·exact .inl e.symm
    ·exact .inr ⟨p,List.mem_append_right _ hp,e⟩
 ·rcases List.mem_cons.1 iJ with rfl | iJ
  ·simp only [jV,if_true]
   rw [cO,lW,h1,h2];rfl
  ·simp only [jV,if_neg (hn d iJ)]
   rw [h.cont d iJ,cO,cO,jL]
   intro e
   exact hd (by rw [e];exact List.mem_map.2 ⟨d,iJ,rfl⟩)
theorem Cb {D:List (List V × Nat)} (h:(D.map (·.1)).Nodup) {d e:List V × Nat} (hd:d∈D) (he:e∈D) (h1:d.1=e.1):d=e:=by
 obtain ⟨i,hi⟩:=List.mem_iff_getElem?.1 hd
 obtain ⟨j,hj⟩:=List.mem_iff_getElem?.1 he
 have h4:(D.map (·.1))[i]?=(D.map (·.1))[j]?:=by rw [List.getElem?_map,List.getElem?_map,hi,hj];simp [h1]
 have h5:i<(D.map (·.1)).length:=by rw [List.length_map];exact (List.getElem?_eq_some_iff.1 hi).1
 have h6:=(List.getElem?_inj h5 h).1 h4
 subst h6
 exact Option.some.inj (hi.symm.trans hj)
theorem dD.shrink {L k:Nat} {g:List Nat} {P1 P2:List aS} {D:List (List V × Nat)} {Gk:m8} {cont:Nat→List Nat} {s n:Nat} {r:List V} (h:dD L k g (P1 ++ (s,r) :: P2) D Gk cont) (hd:(aE g r,n)∈D) (Ja:∀ d∈D,∀ e∈D,d.2=e.2→d=e) (fI:∃ p∈P1 ++ P2,aE g p.2=aE g r) :
 dD L k g (P1 ++ P2) D Gk (jV cont n (eS L k g P1 (aE g r) ++ eS L k g P2 (aE g r))):=by
 refine ⟨h.ents,h.keys,fun key=>?_,fun d iJ=>?_⟩
 ·rw [h.mem key]
  constructor
  ·rintro ⟨p,hp,e⟩
   rcases List.mem_append.1 hp with hp | hp
   ·exact ⟨p,List.mem_append_left _ hp,e⟩
   ·rcases List.mem_cons.1 hp with rfl | hp
    ·obtain ⟨q,hq,e2⟩:=fI
     exact ⟨q,hq,e2.trans e⟩
    ·exact ⟨p,List.mem_append_right _ hp,e⟩
  ·rintro ⟨p,hp,e⟩
   refine ⟨p,?_,e⟩
   rcases List.mem_append.1 hp with hp | hp
   ·exact List.mem_append_left _ hp
   ·exact List.mem_append_right _ (List.mem_cons_of_mem _ hp)
 ·by_cases hn:d.2=n
  ·obtain rfl:=Ja d iJ _ hd hn
   simp only [jV,if_true]
   rw [cO]
  ·simp only [jV,if_neg hn]
   rw [h.cont d iJ,cO,cO,jL]
   intro e
   exact hn (by rw [Cb h.keys iJ hd e.symm])
theorem dD.gone {L k:Nat} {g:List Nat} {P1 P2:List aS} {D:List (List V × Nat)} {Gk G':m8} {cont:Nat→List Nat} {s n:Nat} {r:List V} (h:dD L k g (P1 ++ (s,r) :: P2) D Gk cont) (hd:(aE g r,n)∈D) (Ja:∀ d∈D,∀ e∈D,d.2=e.2→d=e) (fI:∀ p∈P1 ++ P2,aE g p.2≠aE g r) (hG:List.Perm Gk ((pk (aE g r),(n:Int)) :: G')) (l:List Nat) :
 dD L k g (P1 ++ P2) (D.erase (aE g r,n)) G' (jV cont n l):=by
 have hp:List.Perm D ((aE g r,n) :: D.erase (aE g r,n)):=List.perm_cons_erase hd
 have hk:=(hp.map (·.1)).nodup_iff.1 h.keys
 simp only [List.map_cons,List.nodup_cons] at hk
 refine ⟨?_,hk.2,fun key=>?_,fun d iJ=>?_⟩
 ·have h1:=hG.symm.trans (h.ents.trans (hp.map fun d=>(pk d.1,(d.2:Int))))
  simp only [List.map_cons] at h1
  exact (List.perm_cons _).1 h1
 ·constructor
  ·intro hm
   have h2:key∈D.map (·.1):=(hp.map (·.1)).mem_iff.2 (by simp only [List.map_cons];exact List.mem_cons_of_mem _ hm)
   obtain ⟨p,oK,e⟩:=(h.mem key).1 h2
   rcases List.mem_append.1 oK with oK | oK
   ·exact ⟨p,List.mem_append_left _ oK,e⟩
   ·rcases List.mem_cons.1 oK with rfl | oK
    ·exact absurd (by rw [← e] at hm;exact hm) hk.1
    ·exact ⟨p,List.mem_append_right _ oK,e⟩
  ·rintro ⟨p,oK,e⟩
   have h2:key∈D.map (·.1):=(h.mem key).2 ⟨p,by
    rcases List.mem_append.1 oK with oK | oK
    ·exact List.mem_append_left _ oK
    ·exact List.mem_append_right _ (List.mem_cons_of_mem _ oK),e⟩
   have h3:=(hp.map (·.1)).mem_iff.1 h2
   simp only [List.map_cons,List.mem_cons] at h3
   rcases h3 with h3 | h3
   ·exact absurd (e.trans h3) (fI p oK)
   ·exact h3
 ·have i_:d∈D:=List.mem_of_mem_erase iJ
  have hn:d.2≠n:=fun e=>by
   obtain rfl:=Ja d i_ _ hd e
   exact hk.1 (List.mem_map.2 ⟨_,iJ,rfl⟩)
  simp only [jV,if_neg hn]
  rw [h.cont d i_,cO,cO,jL]
  intro e
  exact hn (by rw [Cb h.keys i_ hd e.symm])
structure dB (v:bI):Prop where
 width:v.width≤30
 most:1≤v.most∧v.most≤65536
 gsl:v.gs.length≤4
 gs:∀ g∈v.gs,g.length≤30∧∀ c∈g,c<v.width
 rows:∀ p∈v.P,aV v.width p.2=true∧dP p.2∧uH p.2
 slots:(v.P.map (·.1)).Nodup
 vals:(v.P.map (·.2)).Nodup
 alive:∀ i,(oV v.sl i).isSome=true ↔ i∈v.P.map (·.1)
 lv:v.lv=v.P.length
 refs:∀ p∈v.P,v.refs p.1=some (.agg #[.int .i64 p.1,.int .i64 (aX v.sl p.1:Int)])
 ents:List.Perm v.E (v.P.map fun p=>(pk p.2,(p.1:Int)))
 gx:v.gx.length=v.gs.length
structure eF (L:Nat) (gs:List (List Nat)) (G:Nat→m8) (cont:Nat→List Nat) (sL:List (fZ Value)) (lL:Nat) (lrefs:iV) (D:Nat→List (List V × Nat)) (Q:Nat→List aS):Prop where
 c0:cont 0=(Q 0).map fun p=>p.1*L
 lane:∀ k g,gs[k]?=some g→dD L k g (Q (k+1)) (D k) (G k) cont
 nums:∀ k j d e,k<gs.length→j<gs.length→d∈D k→e∈D j→d.2=e.2→k=j∧d=e
 lists:∀ k d,k<gs.length→d∈D k→1≤d.2∧(oV sL (d.2 - 1)).isSome=true∧lrefs (d.2 - 1)=some (.agg #[.int .i64 (d.2 - 1:Nat),.int .i64 (aX sL (d.2 - 1):Int)])
 dead:∀ n,1≤n→(∀ k d,k<gs.length→d∈D k→d.2≠n)→cont n=[]
 lL:lL=((List.range gs.length).map fun k=>(D k).length).sum
structure gK (sl sL:List (fZ Value)) (N:Nat):Prop where
 s:∀ i,aX sl i+(if (oV sl i).isSome then 0 else 1)≤N
 L:∀ i,aX sL i+(if (oV sL i).isSome then 0 else 1)≤N
theorem Zn:∀ l:List UInt8,(tC l).length≤2*l.length
 | []=>Nat.le_refl _
 |a :: l=>by
  have:=Zn l
  have h:tC (a :: l)=tC [a] ++ tC l:=pM [a] l
  rw [h,List.length_append]
  have h1:(tC [a]).length≤2:=by
   simp only [tC]
   split <;> simp [tC]
  simp only [List.length_cons];omega
theorem Zz {v:V} (h:bO v=true):(jZ v).length≤131:=by
 unfold jZ
 unfold bO at h
 split
 ·simp [vC]
 ·rename_i hk
  rw [if_neg hk] at h
  split at h
  ·split at h
   ·have h1:=of_decide_eq_true h
    have h2:=Zn v.t.data.toList
    have h3:v.t.data.toList.length=v.t.size:=rfl
    simp only [List.length_cons,List.length_append,List.length_nil]
    omega
   ·cases h
  ·cases h
theorem vD (r:List V):(pk r).length≤4096:=by
 unfold pk iQ
 split
 ·simp
 ·rename_i hl
  split
  ·rename_i hv
   unfold cQ at hv
   rw [Bool.and_eq_true] at hv
   have:∀ l:List V,l.all bO=true→(dK l).length≤131*l.length:=fun l=>by
    induction l with
    | nil=>intro _;simp [dK]
    |cons a l ih=>
     intro h
     rw [List.all_cons,Bool.and_eq_true] at h
     have h1:=ih h.2
     have h2:=Zz h.1
     have e:dK (a :: l)=jZ a ++ dK l:=rfl
     rw [e,List.length_append,List.length_cons];omega
   have h1:=this r hv.2
   simp only;omega
  ·simp
theorem Lf {r:List V} (hv:cQ r=true):pk r=dK r:=by
 have h1:=hv
 simp only [cQ,Bool.and_eq_true,decide_eq_true_eq] at h1
 simp only [pk,iQ,if_neg (show ¬ 30<r.length by omega),hv,if_true]
theorem Ba {r q:List V} (hr:cQ r=true) (wr:uH r) (hq:cQ q=true) (wq:uH q) (h:pk r=pk q):r=q:=by
 rw [Lf hr,Lf hq] at h
 have d:∀ r:List V,cQ r=true→uH r→zef (dK r)=(r,0):=fun r hv hw=>by
  simp only [cQ,Bool.and_eq_true,decide_eq_true_eq] at hv
  rw [zef,Kh 30 r hv.2 (fun v hv=>(hw v hv).2) hv.1]
 have h1:=d r hr wr
 rw [h,d q hq wq] at h1
 exact (congrArg Prod.fst h1).symm
end Go.Proofs.YtahdiiaadjdmcaaGreat
namespace Go.Proofs.YtahdiiaadjdmcaaGreat
open Classical
theorem vP {α β:Type} {f:α→β}:∀ {l:List α},(l.map f).Nodup→l.Nodup
 | [],_=>List.nodup_nil
 |a :: l,h=>by
  rw [List.map_cons,List.nodup_cons] at h
  exact List.nodup_cons.2 ⟨fun h1=>h.1 (List.mem_map.2 ⟨a,h1,rfl⟩),vP h.2⟩
theorem nV {α:Type}:∀ {l m:List α},l.Nodup→(∀ a∈l,a∈m)→l.length≤m.length
 | [],_,_,_=>Nat.zero_le _
 |a :: l,m,h,hs=>by
  rw [List.nodup_cons] at h
  have h1:=nV (m:=m.erase a) h.2 fun b hb=>(List.mem_erase_of_ne (show b≠a from fun e=>h.1 (e ▸ hb))).2 (hs b (List.mem_cons_of_mem _ hb))
  have h2:=hs a (List.mem_cons_self ..)
  rw [List.length_erase_of_mem h2] at h1
  have h3:=List.length_pos_of_mem h2
  simp only [List.length_cons];omega
theorem Fd (r:List V):∀ g:List Nat,(∀ c∈g,c<r.length)→∃ l,fF r (g.map Int.ofNat)=some l∧l.length=g.length∧∀ v∈l,v∈r
 | [],_=>⟨[],rfl,rfl,fun v hv=>by cases hv⟩
 |c :: g,h=>by
  obtain ⟨l,h1,h2,h3⟩:=Fd r g fun d hd=>h d (List.mem_cons_of_mem _ hd)
  have hc:c<r.length:=h c (List.mem_cons_self ..)
  refine ⟨r[c] :: l,?_,by simp [h2],fun v hv=>?_⟩
  ·simp only [List.map_cons,fF,h1]
   rw [if_neg (by simp;omega)]
   simp [hc]
  ·rcases List.mem_cons.1 hv with rfl | hv
   ·exact List.getElem_mem hc
   ·exact h3 v hv
structure nP (g:List Nat) (key:List V):Prop where
 len:key.length=g.length
 ok:cQ key=true
 small:dP key
 wf:uH key
theorem i7 {width:Nat} {g:List Nat} {r:List V} (hf:aV width r=true) (hs:dP r) (hw:uH r) (hg:g.length≤30) (hc:∀ c∈g,c<width):nP g (aE g r):=by
 unfold aV at hf
 rw [Bool.and_eq_true,decide_eq_true_eq] at hf
 obtain ⟨rfl,hv⟩:=hf
 obtain ⟨l,h1,h2,h3⟩:=Fd r g hc
 have e:aE g r=l:=by
  unfold aE dZ
  rw [if_neg (by simp;omega),h1]
 rw [e]
 unfold cQ at hv
 rw [Bool.and_eq_true,decide_eq_true_eq] at hv
 refine ⟨h2,?_,fun v Nf=>hs v (h3 v Nf),fun v Nf=>hw v (h3 v Nf)⟩
 unfold cQ
 rw [Bool.and_eq_true,decide_eq_true_eq]
 exact ⟨by omega,List.all_eq_true.2 fun v Nf=>List.all_eq_true.1 hv.2 v (h3 v Nf)⟩
section
variable {L:Nat} {gs:List (List Nat)} {G:Nat→m8} {cont:Nat→List Nat} {sL:List (fZ Value)} {lL:Nat} {lrefs:iV} {D:Nat→List (List V × Nat)} {Q:Nat→List aS}
theorem Sw {a b i j L:Nat} (hi:i<L) (hj:j<L) (h:a*L+i=b*L+j):a=b∧i=j:=by
 have h1:(a*L+i) / L=(b*L+j) / L:=by rw [h]
 have h2:∀ c k,k<L→(c*L+k) / L=c:=fun c k hk=>by
  rw [Nat.mul_comm,Nat.mul_add_div (by omega),Nat.div_eq_of_lt hk,Nat.add_zero]
 rw [h2 a i hi,h2 b j hj] at h1
 subst h1
 exact ⟨rfl,by omega⟩
theorem eF.cells (h:eF L gs G cont sL lL lrefs D Q) {m c:Nat} (hc:c∈cont m):∃ l p,l≤gs.length∧p∈Q l∧c=p.1*L+l:=by
 rcases Nat.eq_zero_or_pos m with rfl | hm
 ·rw [h.c0,List.mem_map] at hc
  obtain ⟨p,hp,rfl⟩:=hc
  exact ⟨0,p,Nat.zero_le _,hp,rfl⟩
 ·by_cases hd:∀ k d,k<gs.length→d∈D k→d.2≠m
  ·rw [h.dead m hm hd] at hc;cases hc
  ·have:∃ k d,k<gs.length∧d∈D k∧d.2=m:=by
    apply Classical.byContradiction
    intro hn
    exact hd fun k d hk iJ e=>hn ⟨k,d,hk,iJ,e⟩
   obtain ⟨k,d,hk,iJ,rfl⟩:=this
   rw [(h.lane k _ (List.getElem?_eq_getElem hk)).cont d iJ] at hc
   unfold eS at hc
   rw [List.mem_map] at hc
   obtain ⟨p,hp,rfl⟩:=hc
   exact ⟨k+1,p,hk,(List.mem_filter.1 hp).1,rfl⟩
theorem eF.congrQ (h:eF L gs G cont sL lL lrefs D Q) {Q':Nat→List aS} (hQ:∀ l,l≤gs.length→Q l=Q' l):eF L gs G cont sL lL lrefs D Q':=
 ⟨by rw [← hQ 0 (Nat.zero_le _)];exact h.c0,fun k g hg=>by rw [← hQ (k+1) (List.getElem?_eq_some_iff.1 hg).1];exact h.lane k g hg,h.nums,h.lists,h.dead,h.lL⟩
theorem eF.fresh (h:eF L gs G cont sL lL lrefs D Q) (hL:L=gs.length+1) {s l:Nat} (hl:l≤gs.length) (hs:∀ p∈Q l,p.1≠s) (m:Nat):s*L+l∉cont m:=fun hc=>by
 obtain ⟨j,p,hj,hp,e⟩:=h.cells hc
 obtain ⟨rfl,rfl⟩:=Sw (by omega) (by omega) e
 exact hs p hp rfl
theorem zG {k:Nat} {g:List Nat} (h:gs[k]?=some g):k<gs.length:=(List.getElem?_eq_some_iff.1 h).1
theorem eF.step0 (h:eF L gs G cont sL lL lrefs D Q) (P:List aS):eF L gs G (jV cont 0 (P.map fun p=>p.1*L)) sL lL lrefs D (jV Q 0 P):=by
 refine ⟨by rw [bJ,bJ],fun k g hg=>?_,h.nums,h.lists,fun n hn hd=>?_,h.lL⟩
 ·rw [bZ _ _ (by omega)]
  exact (h.lane k g hg).other (fun d hd=>by have:=(h.lists k d (zG hg) hd).1;omega) _
 ·rw [bZ _ _ (by omega)];exact h.dead n hn hd
theorem eF.step (h:eF L gs G cont sL lL lrefs D Q) {k n:Nat} {key:List V} (hk:k<gs.length) (hd:(key,n)∈D k) {P:List aS} {l:List Nat} (fC:∀ g,gs[k]?=some g→dD L k g P (D k) (G k) (jV cont n l)) :
 eF L gs G (jV cont n l) sL lL lrefs D (jV Q (k+1) P):=by
 have m7:=(h.lists k _ hk hd).1
 refine ⟨?_,fun j g hg=>?_,h.nums,h.lists,fun m hm iJ=>?_,h.lL⟩
 ·rw [bZ _ _ (show 0≠n from fun e=>by simp only at m7;omega),bZ _ _ (by omega)];exact h.c0
 ·by_cases hj:j=k
  ·subst hj
   rw [bJ]
   exact fC g hg
  ·rw [bZ _ _ (show j+1≠k+1 by omega)]
   exact (h.lane j g hg).other (fun e he e2=>hj (h.nums j k e _ (zG hg) hk he hd e2).1) _
 ·rw [bZ _ _ (fun e=>iJ k _ hk hd e.symm)];exact h.dead m hm iJ
theorem Hm {f:Nat→Nat} {f':Nat→Nat} {k:Nat} (hf:∀ j,j≠k→f' j=f j):∀ n,k<n→((List.range n).map f').sum+f k=((List.range n).map f).sum+f' k
 | 0,h=>absurd h (by omega)
 |n+1,h=>by
  simp only [List.range_succ,List.map_append,List.sum_append,List.map_cons,List.map_nil,List.sum_cons,List.sum_nil]
  by_cases hn:k=n
  ·subst hn
   have:(List.range k).map f'=(List.range k).map f:=List.map_congr_left fun j hj=>hf j (by have:=List.mem_range.1 hj;omega)
   rw [this];omega
  ·have:=Hm hf n (by omega)
   rw [hf n (by omega)];omega
theorem eF.stepNew (h:eF L gs G cont sL lL lrefs D Q) {k i most:Nat} {key:List V} (hk:k<gs.length) {fL fL':List Nat} {sL':List (fZ Value)} {u:Value} (ht:sS most sL fL u i sL' fL') (hi:oV sL i=none) {Gk:m8} {P:List aS} {l:List Nat}
 (fC:∀ g,gs[k]?=some g→dD L k g P ((key,i+1) :: D k) Gk (jV cont (i+1) l)) :
 eF L gs (sF G k Gk) (jV cont (i+1) l) sL' (lL+1) (lrefs.put i (.agg #[.int .i64 i,.int .i64 ((aX sL i:Nat)+1:Int)])) (jV D k ((key,i+1) :: D k)) (jV Q (k+1) P):=by
 have lQ:∀ j d,j<gs.length→d∈D j→d.2≠i+1:=fun j d hj hd e=>by
  have h1:=(h.lists j d hj hd).2.1
  rw [e,Nat.add_sub_cancel,hi] at h1
  cases h1
 refine ⟨?_,fun j g hg=>?_,fun a b d e ha hb hd he hde=>?_,fun j d hj hd=>?_,fun m hm iJ=>?_,?_⟩
 ·rw [bZ _ _ (by omega),bZ _ _ (by omega)];exact h.c0
 ·by_cases hj:j=k
  ·subst hj
   rw [bJ,bJ]
   simp only [sF,if_true]
   exact fC g hg
  ·rw [bZ _ _ (show j+1≠k+1 by omega),bZ _ _ hj]
   simp only [sF,if_neg hj]
   exact (h.lane j g hg).other (fun e he=>lQ j e (zG hg) he) _
 ·by_cases hak:a=k
  ·subst hak
   rw [bJ] at hd
   by_cases hbk:b=a
   ·subst hbk
    rw [bJ] at he
    rcases List.mem_cons.1 hd with rfl | hd
    ·rcases List.mem_cons.1 he with rfl | he
     ·exact ⟨rfl,rfl⟩
     ·exact absurd hde.symm (lQ _ e hb he)
    ·rcases List.mem_cons.1 he with rfl | he
     ·exact absurd hde (lQ _ d hb hd)
     ·exact h.nums _ _ d e ha hb hd he hde
   ·rw [bZ _ _ hbk] at he
    rcases List.mem_cons.1 hd with rfl | hd
    ·exact absurd hde.symm (lQ _ e hb he)
    ·exact h.nums _ _ d e ha hb hd he hde
  ·rw [bZ _ _ hak] at hd
   by_cases hbk:b=k
   ·subst hbk
    rw [bJ] at he
    rcases List.mem_cons.1 he with rfl | he
    ·exact absurd hde (lQ _ d ha hd)
    ·exact h.nums _ _ d e ha hb hd he hde
   ·rw [bZ _ _ hbk] at he
    exact h.nums _ _ d e ha hb hd he hde
 ·have hold:∀ d,d∈D j→1≤d.2∧(oV sL' (d.2 - 1)).isSome=true∧(lrefs.put i (.agg #[.int .i64 i,.int .i64 ((aX sL i:Nat)+1:Int)])) (d.2 - 1)=some (.agg #[.int .i64 (d.2 - 1:Nat),.int .i64 (aX sL' (d.2 - 1):Int)]):=fun d hd=>by
   obtain ⟨h1,h2,h3⟩:=h.lists j d hj hd
   have aZ:d.2 - 1≠i:=fun e=>lQ j d hj hd (by omega)
   refine ⟨h1,by rw [ht.th,if_neg aZ];exact h2,?_⟩
   rw [ht.ge,if_neg aZ,iV.put,if_neg aZ]
   exact h3
  by_cases hjk:j=k
  ·subst hjk
   rw [bJ] at hd
   rcases List.mem_cons.1 hd with rfl | hd
   ·refine ⟨by simp,by rw [ht.th];simp,?_⟩
    rw [ht.ge]
    simp [iV.put]
   ·exact hold d hd
  ·rw [bZ _ _ hjk] at hd
   exact hold d hd
 ·have nM:m≠i+1:=fun e=>iJ k (key,i+1) hk (by rw [bJ];exact List.mem_cons_self ..) e.symm
  rw [bZ _ _ nM]
  refine h.dead m hm fun j d hj hd=>iJ j d hj ?_
  by_cases hjk:j=k
  ·subst hjk;rw [bJ];exact List.mem_cons_of_mem _ hd
  ·rw [bZ _ _ hjk];exact hd
 ·have h1:=Hm (f:=fun j=>(D j).length) (f':=fun j=>(jV D k ((key,i+1) :: D k) j).length) (k:=k) (fun j hj=>by rw [bZ _ _ hj]) gs.length hk
  simp only [bJ,List.length_cons] at h1
  have h2:=h.lL
  omega
theorem eF.stepGone (h:eF L gs G cont sL lL lrefs D Q) {k i gn:Nat} {key:List V} {u:Value} (hk:k<gs.length) (hd:(key,i+1)∈D k) (hs:sL[i]?=some (gn,some u)) {Gk:m8} {P:List aS}
 (fC:∀ g,gs[k]?=some g→dD L k g P ((D k).erase (key,i+1)) Gk (jV cont (i+1) [])) :
 eF L gs (sF G k Gk) (jV cont (i+1) []) (sL.set i (gn,none)) (lL - 1) (lrefs.del i) (jV D k ((D k).erase (key,i+1))) (jV Q (k+1) P):=by
 have j0:=(List.getElem?_eq_some_iff.1 hs).1
 have Oe:∀ j d,d∈jV D k ((D k).erase (key,i+1)) j→d∈D j:=fun j d iJ=>by
  by_cases hj:j=k
  ·subst hj;rw [bJ] at iJ;exact List.mem_of_mem_erase iJ
  ·rw [bZ _ _ hj] at iJ;exact iJ
 have kY:∃ g,gs[k]?=some g:=⟨_,List.getElem?_eq_getElem hk⟩
 obtain ⟨g0,kY⟩:=kY
 have jP:(D k).Nodup:=by
  exact vP (h.lane k g0 kY).keys
 have lQ:∀ j d,j<gs.length→d∈jV D k ((D k).erase (key,i+1)) j→d.2≠i+1:=fun j d hj iJ e=>by
  obtain ⟨rfl,rfl⟩:=h.nums j k d _ hj hk (Oe j d iJ) hd e
  rw [bJ] at iJ
  exact (List.Nodup.mem_erase_iff jP).1 iJ |>.1 rfl
 refine ⟨?_,fun j g hg=>?_,fun a b d e ha hb hd he hde=>h.nums a b d e ha hb (Oe a d hd) (Oe b e he) hde,fun j d hj iJ=>?_,fun m hm iJ=>?_,?_⟩
 ·rw [bZ _ _ (by omega),bZ _ _ (by omega)];exact h.c0
 ·by_cases hj:j=k
  ·subst hj
   rw [bJ,bJ]
   simp only [sF,if_true]
   exact fC g hg
  ·rw [bZ _ _ (show j+1≠k+1 by omega),bZ _ _ hj]
   simp only [sF,if_neg hj]
   exact (h.lane j g hg).other (fun e he e2=>hj (h.nums j k e _ (zG hg) hk he hd e2).1) _
 ·obtain ⟨h1,h2,h3⟩:=h.lists j d hj (Oe j d iJ)
  have aZ:d.2 - 1≠i:=fun e=>lQ j d hj iJ (by omega)
  refine ⟨h1,by rw [uQ j0,if_neg aZ];exact h2,?_⟩
  rw [kV j0,if_neg aZ,iV.del,if_neg aZ]
  exact h3
 ·by_cases nM:m=i+1
  ·subst nM;rw [bJ]
  ·rw [bZ _ _ nM]
   refine h.dead m hm fun j d hj hd3 e=>?_
   refine iJ j d hj ?_ e
   by_cases hjk:j=k
   ·subst hjk;rw [bJ]
    exact (List.Nodup.mem_erase_iff jP).2 ⟨fun e2=>nM (by rw [← e,e2]),hd3⟩
   ·rw [bZ _ _ hjk];exact hd3
 ·have h1:=Hm (f:=fun j=>(D j).length) (f':=fun j=>(jV D k ((D k).erase (key,i+1)) j).length) (k:=k) (fun j hj=>by rw [bZ _ _ hj]) gs.length hk
  have h4:=List.length_erase_of_mem hd
  have h5:=List.length_pos_of_mem hd
  simp only [bJ] at h1
  have h2:=h.lL
  omega
theorem dD.len_le {k:Nat} {g:List Nat} {P:List aS} {E:List (List V × Nat)} {Gk:m8} (h:dD L k g P E Gk cont):E.length≤P.length:=by
 have h1:(E.map (·.1)).length≤(P.map fun p=>aE g p.2).length:=by
  refine nV h.keys fun key hk=>?_
  obtain ⟨p,hp,e⟩:=(h.mem key).1 hk
  exact List.mem_map.2 ⟨p,hp,e⟩
 simpa using h1
theorem jc {f:Nat→Nat} {m:Nat}:∀ n,(∀ k,k<n→f k≤m)→((List.range n).map f).sum≤n*m
 | 0,_=>by simp
 |n+1,h=>by
  simp only [List.range_succ,List.map_append,List.sum_append,List.map_cons,List.map_nil,List.sum_cons,List.sum_nil]
  have h1:=jc n fun k hk=>h k (by omega)
  have h2:=h n (by omega)
  rw [Nat.succ_mul];omega
theorem eF.lL_le (h:eF L gs G cont sL lL lrefs D Q) {m:Nat} (hQ:∀ l,(Q l).length≤m):lL≤gs.length*m:=by
 rw [h.lL]
 refine jc _ fun k hk=>?_
 exact Nat.le_trans (h.lane k _ (List.getElem?_eq_getElem hk)).len_le (hQ _)
theorem dD.entry {k:Nat} {g:List Nat} {P:List aS} {E:List (List V × Nat)} {Gk:m8} (h:dD L k g P E Gk cont) (hE:∀ d∈E,nP g d.1) {key:List V} (hk:nP g key) {z:Int}:(pk key,z)∈Gk ↔ ∃ n:Nat,(key,n)∈E∧z=n:=by
 rw [h.ents.mem_iff,List.mem_map]
 constructor
 ·rintro ⟨d,hd,e⟩
  injection e with e1 e2
  have iJ:=hE d hd
  obtain rfl:=Ba iJ.ok iJ.wf hk.ok hk.wf e1
  exact ⟨d.2,hd,e2.symm⟩
 ·rintro ⟨n,hn,rfl⟩
  exact ⟨_,hn,rfl⟩
end
end Go.Proofs.YtahdiiaadjdmcaaGreat
namespace Go.Proofs.YtahdiiaadjdmcaaGreat
open Go.RowKit
theorem xE {τ:Type} {sl:List (fZ τ)} {i:Nat} (h:(oV sl i).isSome=true):i<sl.length:=by
 rcases Nat.lt_or_ge i sl.length with h1 | h1
 ·exact h1
 ·unfold oV at h
  rw [List.getElem?_eq_none h1] at h
  cases h
structure oQ (v v':bI):Prop where
 x:v'.x=v.x
 width:v'.width=v.width
 most:v'.most=v.most
 gs:v'.gs=v.gs
 marked:v'.marked=v.marked
 uA:v'.uA=v.uA
 uC:v'.uC=v.uC
 un:v'.un=v.un
 U:v'.U=v.U
theorem oQ.refl (v:bI):oQ v v:=⟨rfl,rfl,rfl,rfl,rfl,rfl,rfl,rfl,rfl⟩
theorem oQ.trans {a b c:bI} (h:oQ a b) (k:oQ b c):oQ a c:=
 ⟨k.x.trans h.x,k.width.trans h.width,k.most.trans h.most,k.gs.trans h.gs,k.marked.trans h.marked,k.uA.trans h.uA,k.uC.trans h.uC,k.un.trans h.un,k.U.trans h.U⟩
theorem oQ.L {v v':bI} (h:oQ v v'):v'.L=v.L:=by unfold bI.L;rw [h.gs]
def Ql (P P':List aS) (l:Nat):Nat→List aS:=fun j=>if j<l then P' else P
theorem Ro (P P':List aS):Ql P P' 0=fun _=>P:=by funext j;simp [Ql]
theorem F3 (P P':List aS) (l:Nat):jV (Ql P P' l) l P'=Ql P P' (l+1):=by
 funext j
 unfold jV Ql
 by_cases h1:j=l
 ·subst h1;simp
 ·rw [if_neg h1]
  by_cases h2:j<l
  ·rw [if_pos h2,if_pos (by omega)]
  ·rw [if_neg h2,if_neg (by omega)]
theorem Jw (P P':List aS) (l:Nat):Ql P P' l l=P:=by simp [Ql]
structure Pp (v v':bI) (Q':Nat→List aS) (nL:Nat) (C1 C2:List Nat) (cell N:Nat):Prop where
 kept:oQ v v'
 row:dB v'
 P:v'.P=v.P
 sl:v'.sl=v.sl
 fr:v'.fr=v.fr
 K:v'.K≤v.K+3
 nb:nL<v.most*v.L+1
 cont:v'.cont nL=C1 ++ C2
 fresh:∀ m,cell∉v'.cont m
 fin:∃ D',eF v'.L v'.gs v'.G (jV v'.cont nL (C1 ++ cell :: C2)) v'.sL v'.lL v'.lrefs D' Q'
 gen:gK v'.sl v'.sL N
structure oD (v:bI) (D:Nat→List (List V × Nat)) (N:Nat):Prop where
 row:dB v
 lan:eF v.L v.gs v.G v.cont v.sL v.lL v.lrefs D (fun _=>v.P)
 gen:gK v.sl v.sL N
theorem gK.lt {sl sL:List (fZ Value)} {N:Nat} (h:gK sl sL N) (hN:N<1073741824):(∀ i,aX sl i<1073741824)∧∀ i,aX sL i<1073741824:=
 ⟨fun i=>by have:=h.s i;omega,fun i=>by have:=h.L i;omega⟩
theorem uO {v:bI} (h:dB v) {k:Nat} {g:List Nat} (hg:v.gs[k]?=some g) {r:List V} (hf:aV v.width r=true) (hs:dP r) (hw:uH r):nP g (aE g r):=
 have h1:=h.gs g (List.mem_of_getElem? hg)
 i7 hf hs hw h1.1 h1.2
theorem gK.took {sl sL sL':List (fZ Value)} {N most i:Nat} {fL fL':List Nat} {u:Value} (h:gK sl sL N) (ht:sS most sL fL u i sL' fL') (hi:oV sL i=none):gK sl sL' N:=by
 refine ⟨h.s,fun j=>?_⟩
 have h1:=h.L j
 rw [ht.th,ht.ge]
 by_cases hj:j=i
 ·subst hj
  rw [hi] at h1
  simp at h1 ⊢;omega
 ·rw [if_neg hj,if_neg hj];exact h1
theorem gK.tookR {sl sl' sL:List (fZ Value)} {N most i:Nat} {fr fr':List Nat} {u:Value} (h:gK sl sL N) (ht:xP most sl fr u i sl' fr') (hi:oV sl i=none):gK sl' sL N:=by
 refine ⟨fun j=>?_,h.L⟩
 have h1:=h.s j
 rw [ht.th,ht.ge]
 by_cases hj:j=i
 ·subst hj
  rw [hi] at h1
  simp at h1 ⊢;omega
 ·rw [if_neg hj,if_neg hj];exact h1
theorem dB.keys {v:bI} (h:dB v) {k:Nat} {g:List Nat} (hg:v.gs[k]?=some g) {P:List aS} {E:List (List V × Nat)} {L:Nat} {Gk:m8} {cont:Nat→List Nat} (hl:dD L k g P E Gk cont) (hP:∀ p∈P,aV v.width p.2=true∧dP p.2∧uH p.2):∀ d∈E,nP g d.1:=fun d hd=>by
 obtain ⟨p,hp,e⟩:=(hl.mem d.1).1 (List.mem_map.2 ⟨d,hd,rfl⟩)
 obtain ⟨h1,h2,h3⟩:=hP p hp
 rw [← e]
 exact uO h hg h1 h2 h3
theorem dD.one {L k:Nat} {g:List Nat} {P:List aS} {E:List (List V × Nat)} {Gk:m8} {cont:Nat→List Nat} (h:dD L k g P E Gk cont) (hE:∀ d∈E,nP g d.1) {key:List V} (hk:nP g key):∀ a b,(pk key,a)∈Gk→(pk key,b)∈Gk→a=b:=fun a b ha hb=>by
 obtain ⟨n,hn,rfl⟩:=(h.entry hE hk).1 ha
 obtain ⟨m,hm,rfl⟩:=(h.entry hE hk).1 hb
 have:=Cb h.keys hn hm rfl
 injection this with _ h2
 rw [h2]
theorem dD.fun_ {L k:Nat} {g:List Nat} {P:List aS} {E:List (List V × Nat)} {Gk:m8} {cont:Nat→List Nat} (h:dD L k g P E Gk cont):Gk.length=E.length:=by
 rw [h.ents.length_eq,List.length_map]
set_option maxRecDepth 100000 in
theorem Ta {w:World} {lab:aP} {v:bI} {D:Nat→List (List V × Nat)} {Q:Nat→List aS} {N:Nat} (h:cW w lab v) (hr:dB v) (hlan:eF v.L v.gs v.G v.cont v.sL v.lL v.lrefs D Q) (kX:gK v.sl v.sL N) (hN:N<1073741824) (hK:v.K≤4611686018427387000)
 {k:Nat} {g:List Nat} (hg:v.gs[k]?=some g) {P1 P2:List aS} {s:Nat} {r:List V} (hQ:Q (k+1)=P1 ++ P2) (hQl:∀ l,(Q l).length≤v.most) (bC:(P1 ++ P2).length<v.most) (hQr:∀ p∈P1 ++ P2,aV v.width p.2=true∧dP p.2∧uH p.2)
 (dW:aV v.width r=true) (Lm:dP r) (hwf:uH r) (hs:∀ p∈P1 ++ P2,p.1≠s) {A:Option Addr} {n:Nat} (c:Nat) (ha:bD w A n (aE g r)) (hA:∀ a,A=some a→¬ lab.dom a.block) :
 Calls Tryz.prog 149 #[.pointer (some ⟨v.x,0,none⟩),.int .i64 k,.slice A n c] w fun e w'=>∃ (nL:Nat) (v':bI),e=.returned (.int .i64 nL)∧fK w lab w' v'∧
  Pp v v' (jV Q (k+1) (P1 ++ (s,r) :: P2)) nL (eS v.L k g P1 (aE g r)) (eS v.L k g P2 (aE g r)) (s*v.L+(k+1)) N:=by
 have hk:=zG hg
 have j2:=uO hr hg dW Lm hwf
 have fC:=hlan.lane k g hg
 rw [hQ] at fC
 have sG:=hr.keys hg fC hQr
 have cZ:(v.G k).length<v.most:=by
  rw [fC.fun_]
  exact Nat.lt_of_le_of_lt fC.len_le bC
 have rV:∃ xk,v.gx[k]?=some xk:=⟨_,List.getElem?_eq_getElem (by rw [hr.gx];exact hk)⟩
 obtain ⟨xk,hxk⟩:=rV
 have nD:=(hr.gs g (List.mem_of_getElem? hg)).1
 have zdt:xR v k xk g (aE g r):=⟨hg,by omega,hxk,j2.len,j2.ok,vD _,fC.one sG j2⟩
 have zgp:v.L=v.gs.length+1:=rfl
 have ju:∀ m,s*v.L+(k+1)∉v.cont m:=hlan.fresh zgp (by omega) (by rw [hQ];exact hs)
 by_cases bE:aE g r∈(D k).map (·.1)
 ·rw [List.mem_map] at bE
  obtain ⟨⟨key,q⟩,hd,yK⟩:=bE
  dsimp only at yK
  subst yK
  have hq:(pk (aE g r),(q:Int))∈v.G k:=(fC.entry sG j2).2 ⟨q,hd,rfl⟩
  refine (Vv h (by omega) zdt c ha hq).mono ?_
  rintro e w' ⟨rfl,h1⟩
  have ze4:v.cont q=eS v.L k g P1 (aE g r) ++ eS v.L k g P2 (aE g r):=by
   have:=fC.cont _ hd
   rw [cO] at this
   exact this
  have Vm:=hlan.lists k _ hk hd
  refine ⟨q,v.tick 1,rfl,h1,⟨⟨rfl,rfl,rfl,rfl,rfl,rfl,rfl,rfl,rfl⟩,⟨hr.width,hr.most,hr.gsl,hr.gs,hr.rows,hr.slots,hr.vals,hr.alive,hr.lv,hr.refs,hr.ents,hr.gx⟩,rfl,rfl,rfl,by show v.K+1≤v.K+3;omega,?_,ze4,ju,⟨D,?_⟩,kX⟩⟩
  ·have h2:=xE Vm.2.1
   have h3:=(h.part 5).ok.len
   have h4:=Vm.1
   dsimp only at h2 h4
   omega
  ·refine hlan.step hk hd fun g' hg'=>?_
   obtain rfl:g=g':=Option.some.inj (hg.symm.trans hg')
   exact fC.old hd fun d iJ e he J7=>(hlan.nums k k d e hk hk iJ he J7).2
 ·have j8:∀ q,(pk (aE g r),q)∉v.G k:=fun q hq=>by
   obtain ⟨n,hn,-⟩:=(fC.entry sG j2).1 hq
   exact bE (List.mem_map.2 ⟨_,hn,rfl⟩)
  have nM:=hr.most
  have zad:=hr.gsl
  have vg:v.lL<v.most*v.L:=by
   have h1:=hlan.lL_le hQl
   rw [zgp,Nat.mul_succ,Nat.mul_comm v.most]
   omega
  have zdQ:v.most*v.L≤1048576:=Nat.le_trans (Nat.mul_le_mul nM.2 (show v.L≤5 by omega)) (by omega)
  refine (Y4 h hK zdt c ha hA j8 cZ vg (kX.lt hN).2 zdQ).mono ?_
  rintro e w' ⟨i,sl',free',ht,rfl,h1⟩
  have vO:oV v.sL i=none:=by
   have h6:=(h.part 5).ok
   have h7:i∈fJ (v.most*v.L) v.sL v.fL:=by rw [ht.fs];simp
   exact (h6.fs_dead (h6.fs_lt i h7)).1 h7
  have hi:i<v.most*v.L:=by
   have h6:=(h.part 5).ok
   exact h6.fs_lt i (by rw [ht.fs];simp)
  have lQ:∀ j d,j<v.gs.length→d∈D j→d.2≠i+1:=fun j d hj hd e=>by
   have h1:=(hlan.lists j d hj hd).2.1
   rw [e,Nat.add_sub_cancel,vO] at h1
   cases h1
  have zgU:v.cont (i+1)=[]:=hlan.dead (i+1) (by omega) lQ
  have zda:∀ p∈P1 ++ P2,aE g p.2≠aE g r:=fun p hp e=>bE ((fC.mem _).2 ⟨p,hp,e⟩)
  have e1:eS v.L k g P1 (aE g r)=[]:=(fW v.L k g P1 _).2 fun p hp=>zda p (List.mem_append_left _ hp)
  have e2:eS v.L k g P2 (aE g r)=[]:=(fW v.L k g P2 _).2 fun p hp=>zda p (List.mem_append_right _ hp)
  refine ⟨i+1,_,by rw [Int.natCast_add];rfl,h1,⟨⟨rfl,rfl,rfl,rfl,rfl,rfl,rfl,rfl,rfl⟩,⟨hr.width,hr.most,hr.gsl,hr.gs,hr.rows,hr.slots,hr.vals,hr.alive,hr.lv,hr.refs,hr.ents,hr.gx⟩,rfl,rfl,rfl,Nat.le_refl _,by omega,by rw [e1,e2];exact zgU,ju,⟨jV D k ((aE g r,i+1) :: D k),?_⟩,kX.took ht vO⟩⟩
  rw [e1,e2]
  refine hlan.stepNew (key:=aE g r) hk ht vO fun g' hg'=>?_
  obtain rfl:g=g':=Option.some.inj (hg.symm.trans hg')
  exact fC.new bE fun d hd=>lQ k d hk hd
theorem km {v:bI} {D:Nat→List (List V × Nat)} {Q:Nat→List aS} {N:Nat} (hr:dB v) (hlan:eF v.L v.gs v.G v.cont v.sL v.lL v.lrefs D Q) (kX:gK v.sl v.sL N) {P1 P2:List aS} {s:Nat} (r:List V) (hQ:Q 0=P1 ++ P2) (hs:∀ p∈P1 ++ P2,p.1≠s) :
 Pp v v (jV Q 0 (P1 ++ (s,r) :: P2)) 0 (P1.map fun p=>p.1*v.L) (P2.map fun p=>p.1*v.L) (s*v.L+0) N:=by
 refine ⟨oQ.refl v,hr,rfl,rfl,rfl,by omega,by omega,by rw [hlan.c0,hQ,List.map_append],hlan.fresh rfl (Nat.zero_le _) (by rw [hQ];exact hs),⟨D,?_⟩,kX⟩
 have:=hlan.step0 (P1 ++ (s,r) :: P2)
 rw [List.map_append,List.map_cons] at this
 exact this
theorem dB.link {v:bI} (h:dB v) {s:Nat} {r:List V} {P1 P2:List aS} {sl':List (fZ Value)} {fr':List Nat} {u:Value} (hP:v.P=P1 ++ P2) (ht:xP v.most v.sl v.fr u s sl' fr') (hs:oV v.sl s=none) (hf:aV v.width r=true) (Lm:dP r) (hwf:uH r) (lQ:r∉v.P.map (·.2)) (K:Nat) :
 dB {v with sl:=sl',fr:=fr',lv:=v.lv+1,P:=P1 ++ (s,r) :: P2,refs:=v.refs.put s (.agg #[.int .i64 s,.int .i64 ((aX v.sl s:Int)+1)]),E:=(pk r,(s:Int)) :: v.E,K:=K}:=by
 have jU:∀ p,p∈P1 ++ (s,r) :: P2 ↔ p=(s,r)∨p∈v.P:=fun p=>by rw [hP];simp only [List.mem_append,List.mem_cons];exact or_left_comm
 have Yv:s∉v.P.map (·.1):=fun h1=>by
  have h2:=(h.alive s).2 h1
  rw [hs] at h2;cases h2
 have jM:List.Perm (P1 ++ (s,r) :: P2) ((s,r) :: v.P):=by rw [hP];exact List.perm_middle
 refine ⟨h.width,h.most,h.gsl,h.gs,fun p hp=>?_,?_,?_,fun i=>?_,?_,fun p hp=>?_,?_,h.gx⟩
 ·rcases (jU p).1 hp with rfl | hp
  ·exact ⟨hf,Lm,hwf⟩
  ·exact h.rows p hp
 ·exact (jM.map (·.1)).nodup_iff.2 (List.nodup_cons.2 ⟨Yv,h.slots⟩)
 ·exact (jM.map (·.2)).nodup_iff.2 (List.nodup_cons.2 ⟨lQ,h.vals⟩)
 ·show (oV sl' i).isSome=true ↔ i∈(P1 ++ (s,r) :: P2).map (·.1)
  rw [(jM.map (·.1)).mem_iff,ht.th]
  simp only [List.map_cons,List.mem_cons]
  by_cases hi:i=s
  ·simp [hi]
  ·rw [if_neg hi,h.alive i]
   simp [hi]
 ·show v.lv+1=(P1 ++ (s,r) :: P2).length
  rw [jM.length_eq,List.length_cons,h.lv]
 ·show (v.refs.put s _) p.1=some (.agg #[.int .i64 p.1,.int .i64 (aX sl' p.1:Int)])
  rcases (jU p).1 hp with rfl | hp
  ·rw [ht.ge,if_pos rfl]
   simp [iV.put]
  ·have aZ:p.1≠s:=fun e=>Yv (by rw [← e];exact List.mem_map.2 ⟨p,hp,rfl⟩)
   rw [ht.ge,if_neg aZ,iV.put,if_neg aZ]
   exact h.refs p hp
 ·show List.Perm ((pk r,(s:Int)) :: v.E) ((P1 ++ (s,r) :: P2).map fun p=>(pk p.2,(p.1:Int)))
  exact (h.ents.cons _).trans (jM.map fun p:aS=>(pk p.2,(p.1:Int))).symm
theorem dB.noEnt {v:bI} (h:dB v) {r:List V} (hv:cQ r=true) (hwf:uH r) (lQ:r∉v.P.map (·.2)):∀ z,(pk r,z)∉v.E:=fun z hz=>by
 rw [h.ents.mem_iff,List.mem_map] at hz
 obtain ⟨p,hp,e⟩:=hz
 injection e with e1 e2
 have h1:=h.rows p hp
 have h2:cQ p.2=true:=by
  have:=h1.1
  unfold aV at this
  rw [Bool.and_eq_true] at this
  exact this.2
 exact lQ (List.mem_map.2 ⟨p,hp,Ba h2 h1.2.2 hv hwf e1⟩)
open Classical in
theorem Et (gs:List (List Nat)) (r:List V) (P2:List aS) (L l:Nat) (hl:l≤gs.length):∃ o:Option Nat,(eC gs r P2)[l]?=some (oi o)∧(l=0→(P2.map fun p=>p.1*L).head?=o.map fun s=>s*L+l)∧(∀ k g,l=k+1→gs[k]?=some g→(eS L k g P2 (aE g r)).head?=o.map fun s=>s*L+l):=by
 rcases l with _ | k
 ·refine ⟨P2.head?.map (·.1),rfl,fun _=>?_,fun k g e=>by omega⟩
  rw [List.head?_map]
  cases P2.head? <;> rfl
 ·have hk:k<gs.length:=by omega
  refine ⟨(P2.find? fun p=>decide (aE gs[k] p.2=aE gs[k] r)).map (·.1),?_,fun e=>by omega,fun k' g e hg=>?_⟩
  ·unfold eC
   rw [List.getElem?_cons_succ,List.getElem?_map,List.getElem?_eq_getElem hk]
   rfl
  ·obtain rfl:k=k':=by omega
   obtain rfl:gs[k]=g:=by rw [List.getElem?_eq_getElem hk] at hg;exact Option.some.inj hg
   exact Va L k _ r P2
end Go.Proofs.YtahdiiaadjdmcaaGreat
