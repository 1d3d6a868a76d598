import Derived.Test.YtahdiiaadjdmcaaGreatGround
import Derived.Laws.Bits64
import Derived.Laws.BitsAll
namespace Go.Proofs.YtahdiiaadjdmcaaGreat
open Go.RowKit
def Gx (k:List UInt8):List Value:=k.map fun b=>.int .u8 (b.toNat:Int)
def eK (w:World) (A:Option Addr) (n:Nat) (k:List UInt8):Prop:=Sl w A n 1 (Gx k)
theorem eK.len {w:World} {A:Option Addr} {n:Nat} {k:List UInt8} (h:eK w A n k):n=k.length:=by
 have:=h.1
 simp [Gx] at this
 omega
theorem eK.ext {w w':World} {A:Option Addr} {n:Nat} {k:List UInt8} (h:eK w A n k) (hw:aD w w'):eK w' A n k:=Sl.ext h hw
theorem eK.get {w:World} {A:Option Addr} {n:Nat} {k:List UInt8} (h:eK w A n k) {i:Nat} (hi:i<n):∃ b off x,A=some ⟨b,off,none⟩∧k[i]?=some x∧w.cell? ⟨b,off+i,none⟩=some (.int .u8 (x.toNat:Int)):=by
 obtain ⟨b,off,hA,hc⟩:=h.2 (by omega)
 have hl:i<k.length:=by have:=h.len;omega
 exact ⟨b,off,k[i],hA,List.getElem?_eq_getElem hl,hc i _ (by simp [Gx,hl])⟩
def sP (h:Nat) (x:UInt8):Nat:=(h ^^^ x.toNat)*1099511628211 % 18446744073709551616
def rA (h:Nat):Nat:=h ^^^ (h / 4294967296)
def uX (k:List UInt8):Nat:=rA (k.foldl sP 14695981039346656037)
theorem Jh (h:Nat) (x:UInt8):sP h x<18446744073709551616:=Nat.mod_lt _ (by omega)
theorem Yx (H:Nat) (x:UInt8) (hH:H<18446744073709551616):IntKind.u64.wrap (bits BinOp.xor IntKind.u64 (H:Int) (IntKind.u64.wrap (x.toNat:Int))*1099511628211)=((sP H x:Nat):Int):=by
 have hx:x.toNat<256:=x.toNat_lt
 rw [show IntKind.u64.wrap (x.toNat:Int)=((x.toNat:Nat):Int) by rw [IntKind.wrap_u64];omega,bits_xor_u64_nat _ _ hH (by omega),IntKind.wrap_u64]
 unfold sP
 generalize H ^^^ x.toNat=y
 omega
theorem xd (H:Nat) (hH:H<18446744073709551616):bits BinOp.xor IntKind.u64 (H:Int) ((H:Int) / 4294967296)=((rA H:Nat):Int):=by
 rw [show (H:Int) / 4294967296=((H / 4294967296:Nat):Int) by omega,bits_xor_u64_nat _ _ hH (by omega)]
 rfl
theorem yu (H:Nat) (hH:H<18446744073709551616):rA H<18446744073709551616:=by
 unfold rA
 have h2:H / 4294967296<2 ^ 64:=by omega
 exact Nat.xor_lt_two_pow (n:=64) hH h2
theorem Qn:∀ (k:List UInt8) (h:Nat),h<18446744073709551616→k.foldl sP h<18446744073709551616
 | [],_,h=>h
 | x :: k,h,_=>Qn k _ (Jh h x)
theorem Zp (k:List UInt8):uX k<18446744073709551616:=yu _ (Qn k _ (by omega))
set_option maxRecDepth 100000 in
theorem Xb (k:List UInt8) (A:Option Addr) (n c:Nat) (w:World) (hk:eK w A n k) (hn:n≤4611686018427387904) :
 Calls Tryz.prog 109 #[.slice A n c] w fun e w'=>e=.returned (.int .u64 ((uX k:Nat):Int))∧w=w':=by
 have HK:=aA hk;have HL:=aA hk.len;clear hk
 go_enter Tryz.func109,Tryz.ntmps109
 go_wp2_with fail
 go_loop [3,5,8] (fun h b i=>∃ (j H:Nat),j≤n∧i=.int .i64 j∧h=.int .u64 H∧H<18446744073709551616∧Hid (uX k=rA ((k.drop j).foldl sP H))) (fun _ _ i=>n - (intOf i).toNat)
 case atStart=>exact ⟨0,14695981039346656037,by omega,rfl,rfl,by omega,rfl⟩
 case round=>
  obtain ⟨j,H,hj,rfl,rfl,hH,hf⟩:=hrel
  by_cases h:j<n
  ·obtain ⟨b,off,x,rfl,hx,hc⟩:=HK.out.get h
   have hs:=aA (show (k.drop j).foldl sP H=(k.drop (j+1)).foldl sP (sP H x) by
    obtain ⟨hl,e⟩:=List.getElem?_eq_some_iff.1 hx
    rw [List.drop_eq_getElem_cons hl,e];rfl)
   have zkp:=aA (Yx H x hH)
   clear hx
   go_wp2_with fail
   go_round
   case rel=>exact ⟨j+1,sP H x,by omega,by go_num,by rw [zkp.out],Jh H x,by have:=hf.out;rw [hs.out] at this;exact this⟩
   case measure=>simp [intOf];omega
  ·have zgD:=aA (xd H hH)
   go_wp2_with fail
   go_ret
   rw [zgD.out,hf.out,List.drop_of_length_le (by have:=HL.out;omega)]
   exact ⟨rfl,rfl⟩
structure Pl where
 st:Nat
 key:List UInt8
 num:Int
def qS (T:List Pl) (key:List UInt8):Nat→Nat→Option Nat→Option Nat × Option Nat
 | 0,_,fr=>(none,fr)
 |k+1,i,fr=>match T[i]? with
  | none=>(none,fr)
  | some p=>if p.st=0 then (none,fr.or (some i)) else if p.st=2 then qS T key k ((i+1) % T.length) (fr.or (some i)) else if p.key=key then (some i,some i) else qS T key k ((i+1) % T.length) fr
def gZ (T:List Pl) (key:List UInt8) (d:Nat):Nat:=(uX key % T.length+d) % T.length
def vW (T:List Pl) (key:List UInt8):Option Nat × Option Nat:=qS T key T.length (gZ T key 0) none
def ent (p:Pl):Option (List UInt8 × Int):=if p.st=1 then some (p.key,p.num) else none
def ents (T:List Pl):List (List UInt8 × Int):=T.filterMap ent
def bM (T:List Pl):Nat:=T.countP (fun p=>p.st == 2)
def Fj (T:List Pl) (key:List UInt8) (i:Nat):Prop:=∃ d,d<T.length∧gZ T key d=i∧∀ e,e<d→∃ q,T[gZ T key e]?=some q∧q.st≠0
structure kQ (T:List Pl):Prop where
 st:∀ p∈T,p.st≤2
 room:(ents T).length+bM T<T.length
 keys:∀ (i j:Nat) (p q:Pl),T[i]?=some p→T[j]?=some q→p.st=1→q.st=1→p.key=q.key→i=j
 reach:∀ (i:Nat) (p:Pl),T[i]?=some p→p.st=1→Fj T p.key i
theorem Rd {T:List Pl} (key:List UInt8) (d:Nat) (h:0<T.length):gZ T key d<T.length:=Nat.mod_lt _ h
theorem rQ (T:List Pl) (key:List UInt8) (d:Nat):gZ T key (d+1)=(gZ T key d+1) % T.length:=by
 unfold gZ;simp only [Nat.mod_add_mod,Nat.add_assoc]
theorem Kk {T:List Pl} (key:List UInt8) (d:Nat) (h:0<T.length):∃ p,T[gZ T key d]?=some p:=⟨_,List.getElem?_eq_getElem (Rd key d h)⟩
theorem Yh {T:List Pl} (key:List UInt8) {i:Nat} (h:i<T.length):∃ d,d<T.length∧gZ T key d=i:=by
 have h0:uX key % T.length<T.length:=Nat.mod_lt _ (by omega)
 generalize hh:uX key % T.length=a at *
 by_cases h1:a≤i
 ·exact ⟨i - a,by omega,by unfold gZ;rw [hh,show a+(i - a)=i by omega,Nat.mod_eq_of_lt h]⟩
 ·exact ⟨i+T.length - a,by omega,by unfold gZ;rw [hh,show a+(i+T.length - a)=i+T.length by omega,Nat.add_mod_right,Nat.mod_eq_of_lt h]⟩
def mS (T:List Pl) (key:List UInt8) (d:Nat):Prop:=∀ e,e<d→∃ q,T[gZ T key e]?=some q∧q.st≠0∧¬ (q.st=1∧q.key=key)
def nY (T:List Pl) (key:List UInt8) (f:Nat):Prop:=Fj T key f∧∃ q,T[f]?=some q∧q.st≠1
theorem mS.zero (T:List Pl) (key:List UInt8):mS T key 0:=fun _ h=>absurd h (by omega)
theorem mS.succ {T:List Pl} {key:List UInt8} {d:Nat} (h:mS T key d) {q:Pl} (hq:T[gZ T key d]?=some q) (h0:q.st≠0) (h1:¬ (q.st=1∧q.key=key)):mS T key (d+1):=fun e he=>by
 rcases Nat.lt_succ_iff_lt_or_eq.1 he with h2 | rfl
 ·exact h e h2
 ·exact ⟨q,hq,h0,h1⟩
theorem mS.reach {T:List Pl} {key:List UInt8} {d:Nat} (h:mS T key d) (hd:d<T.length):Fj T key (gZ T key d):=
 ⟨d,hd,rfl,fun e he=>by obtain ⟨q,h1,h2,_⟩:=h e he;exact ⟨q,h1,h2⟩⟩
theorem wW {T:List Pl} (key:List UInt8) (fI:∀ p∈T,p.st≤2) (h0:0<T.length):∀ (k d:Nat) (fr:Option Nat),d+k=T.length→mS T key d→(∀ f,fr=some f→nY T key f)→
 (∃ i p,qS T key k (gZ T key d) fr=(some i,some i)∧T[i]?=some p∧p.st=1∧p.key=key)∨
 (∃ fr',qS T key k (gZ T key d) fr=(none,fr')∧(∀ f,fr'=some f→nY T key f)∧(mS T key T.length∨fr'≠none∧∃ d',d'<T.length∧mS T key d'∧∃ q,T[gZ T key d']?=some q∧q.st=0))
 | 0,d,fr,hd,hp,hf=>.inr ⟨fr,rfl,hf,.inl (by rw [← hd];exact hp)⟩
 |k+1,d,fr,hd,hp,hf=>by
  obtain ⟨p,hq⟩:=Kk key d h0
  have Lr:=fI p (List.mem_of_getElem? hq)
  have xZ:d<T.length:=by omega
  simp only [qS,hq]
  have zcT:p.st≠1→∀ f,fr.or (some (gZ T key d))=some f→nY T key f:=fun h1 f he=>by
   cases fr with
   | some g=>exact hf f (by simpa using he)
   |none=>
    obtain rfl:gZ T key d=f:=by simpa using he
    exact ⟨hp.reach xZ,p,hq,h1⟩
  by_cases h:p.st=0
  ·rw [if_pos h]
   exact .inr ⟨_,rfl,zcT (by omega),.inr ⟨by cases fr <;> simp,d,xZ,hp,p,hq,h⟩⟩
  ·rw [if_neg h]
   by_cases h2:p.st=2
   ·rw [if_pos h2,← rQ]
    exact wW key fI h0 k (d+1) _ (by omega) (hp.succ hq h (by omega)) (zcT (by omega))
   ·rw [if_neg h2]
    by_cases h3:p.key=key
    ·rw [if_pos h3]
     exact .inl ⟨_,p,rfl,hq,by omega,h3⟩
    ·rw [if_neg h3,← rQ]
     exact wW key fI h0 k (d+1) _ (by omega) (hp.succ hq h (fun x=>h3 x.2)) hf
theorem xO:∀ (T:List Pl),(∀ p∈T,p.st≤2)→(ents T).length+bM T+T.countP (fun p=>p.st == 0)=T.length
 | [],_=>rfl
 |p :: T,h=>by
  have ih:=xO T fun q hq=>h q (List.mem_cons_of_mem _ hq)
  have h1:=h p (List.mem_cons_self ..)
  unfold ents bM at *
  simp only [List.filterMap_cons,List.countP_cons,List.length_cons]
  obtain h2 | h2 | h2:p.st=0∨p.st=1∨p.st=2:=by omega
  ·simp [ent,h2];omega
  ·simp [ent,h2];omega
  ·simp [ent,h2];omega
theorem kQ.pos {T:List Pl} (h:kQ T):0<T.length:=by have:=h.room;omega
theorem kQ.hole {T:List Pl} (h:kQ T):∃ (i:Nat) (q:Pl),T[i]?=some q∧q.st=0:=by
 have h1:=xO T h.st
 have h2:=h.room
 have h3:0<T.countP (fun p=>p.st == 0):=by omega
 obtain ⟨q,hq,h4⟩:=List.countP_pos_iff.1 h3
 obtain ⟨i,hi,e⟩:=List.getElem_of_mem hq
 exact ⟨i,q,by rw [List.getElem?_eq_getElem hi,e],by simpa using h4⟩
theorem mB {T:List Pl} (hG:kQ T) (key:List UInt8) :
 (∃ i p,vW T key=(some i,some i)∧T[i]?=some p∧p.st=1∧p.key=key)∨
 (∃ f,vW T key=(none,some f)∧nY T key f∧∀ (i:Nat) (p:Pl),T[i]?=some p→p.st=1→p.key≠key):=by
 rcases wW key hG.st hG.pos T.length 0 none (by omega) (mS.zero _ _) (fun _ h=>by cases h) with h | ⟨fr',h1,h2,h3 | ⟨h3,d',hd',hp',q,hq,K_⟩⟩
 ·exact .inl h
 ·obtain ⟨i,q,hq,h0⟩:=hG.hole
  obtain ⟨d,hd,e⟩:=Yh key (i:=i) (by have:=List.getElem?_eq_some_iff.1 hq;exact this.1)
  obtain ⟨q',hq',hn,_⟩:=h3 d hd
  rw [e,hq] at hq'
  injection hq' with hq'
  subst hq'
  exact absurd h0 hn
 ·cases fr' with
  | none=>exact absurd rfl h3
  |some f=>
   refine .inr ⟨f,h1,h2 f rfl,fun i p hi iD hk=>?_⟩
   obtain ⟨d,hd,e,hr⟩:=hG.reach i p hi iD
   rw [hk] at e hr
   rcases Nat.lt_trichotomy d d' with bC | rfl | bC
   ·obtain ⟨q',hq',_,hn⟩:=hp' d bC
    rw [e,hi] at hq'
    injection hq' with hq'
    subst hq'
    exact hn ⟨iD,hk⟩
   ·rw [e,hi] at hq
    injection hq with hq
    subst hq
    omega
   ·obtain ⟨q',hq',hn⟩:=hr d' bC
    rw [hq] at hq'
    injection hq' with hq'
    subst hq'
    exact hn K_
theorem Fj.set_ {T:List Pl} {key:List UInt8} {i j:Nat} {p:Pl} (h:Fj T key i) (hp:p.st≠0):Fj (T.set j p) key i:=by
 obtain ⟨d,hd,e,hr⟩:=h
 have hl:(T.set j p).length=T.length:=List.length_set
 refine ⟨d,by rw [hl];exact hd,by unfold gZ at *;rw [hl];exact e,fun e he=>?_⟩
 obtain ⟨q,hq,hn⟩:=hr e he
 unfold gZ at *
 rw [hl]
 by_cases h1:j=(uX key % T.length+e) % T.length
 ·exact ⟨p,by rw [← h1];exact List.getElem?_set_self (by rw [h1];exact (List.getElem?_eq_some_iff.1 hq).1),hp⟩
 ·exact ⟨q,by rw [List.getElem?_set_ne h1];exact hq,hn⟩
theorem tK {T:List Pl} {i:Nat} {p:Pl} (h:T[i]?=some p):List.Perm (ents T) ((ent p).toList ++ (ents (T.take i) ++ ents (T.drop (i+1)))):=by
 obtain ⟨hi,e⟩:=List.getElem?_eq_some_iff.1 h
 have h1:T=T.take i ++ (p :: T.drop (i+1)):=by rw [← e,← List.drop_eq_getElem_cons hi,List.take_append_drop]
 have h2:ents T=ents (T.take i) ++ ((ent p).toList ++ ents (T.drop (i+1))):=by
  conv=>lhs;rw [h1]
  unfold ents
  rw [List.filterMap_append,List.filterMap_cons]
  cases ent p <;> rfl
 rw [h2,← List.append_assoc,← List.append_assoc]
 exact List.Perm.append_right _ List.perm_append_comm
theorem Km {T:List Pl} {i:Nat} {p:Pl} (hi:i<T.length):List.Perm (ents (T.set i p)) ((ent p).toList ++ (ents (T.take i) ++ ents (T.drop (i+1)))):=by
 have h:=tK (T:=T.set i p) (i:=i) (p:=p) (List.getElem?_set_self hi)
 rwa [List.take_set_of_le (Nat.le_refl _),List.drop_set_of_lt (by omega)] at h
theorem Kj {T:List Pl} {i:Nat} {p q:Pl} (h:T[i]?=some q):bM (T.set i p)+(if q.st=2 then 1 else 0)=bM T+(if p.st=2 then 1 else 0):=by
 obtain ⟨hi,e⟩:=List.getElem?_eq_some_iff.1 h
 have h1:T=T.take i ++ (q :: T.drop (i+1)):=by rw [← e,← List.drop_eq_getElem_cons hi,List.take_append_drop]
 have h2:T.set i p=T.take i ++ (p :: T.drop (i+1)):=by
  rw [List.set_eq_take_append_cons_drop,if_pos hi]
 rw [h2]
 conv=>rhs;rw [h1]
 unfold bM
 simp only [List.countP_append,List.countP_cons,beq_iff_eq]
 omega
theorem iO {T:List Pl} {k:List UInt8} {n:Int}:(k,n)∈ents T ↔ ∃ (i:Nat) (p:Pl),T[i]?=some p∧p.st=1∧p.key=k∧p.num=n:=by
 unfold ents
 rw [List.mem_filterMap]
 constructor
 ·rintro ⟨p,hp,he⟩
  obtain ⟨i,hi,e⟩:=List.getElem_of_mem hp
  unfold ent at he
  split at he
  ·rename_i h1
   injection he with he
   injection he with h2 h3
   exact ⟨i,p,by rw [List.getElem?_eq_getElem hi,e],h1,h2,h3⟩
  ·cases he
 ·rintro ⟨i,p,hp,h1,rfl,rfl⟩
  exact ⟨p,List.mem_of_getElem? hp,by rw [ent,if_pos h1]⟩
theorem Iz {T:List Pl} {key:List UInt8} {f:Nat} {n:Int} (hG:kQ T) (hf:nY T key f) (hk:∀ (i:Nat) (p:Pl),T[i]?=some p→p.st=1→p.key≠key)
 (hr:(ents T).length+bM T+1<T.length):kQ (T.set f ⟨1,key,n⟩)∧List.Perm (ents (T.set f ⟨1,key,n⟩)) ((key,n) :: ents T)∧∃ q,T[f]?=some q∧bM (T.set f ⟨1,key,n⟩)+(if q.st=2 then 1 else 0)=bM T:=by
 obtain ⟨hre,q,hq,hq1⟩:=hf
 have yB:f<T.length:=(List.getElem?_eq_some_iff.1 hq).1
 have iD:=tK hq
 have oK:=Km (T:=T) (i:=f) (p:=⟨1,key,n⟩) yB
 have hg:=Kj (p:=⟨1,key,n⟩) hq
 rw [show ent q=none by rw [ent,if_neg hq1]] at iD
 simp only [Option.toList_none,List.nil_append] at iD
 rw [show ent ⟨1,key,n⟩=some (key,n) from rfl] at oK
 simp only [Option.toList_some,List.singleton_append] at oK
 have zfu:List.Perm (ents (T.set f ⟨1,key,n⟩)) ((key,n) :: ents T):=oK.trans (List.Perm.cons _ iD.symm)
 have hl:=zfu.length_eq
 rw [List.length_cons] at hl
 have hg:bM (T.set f ⟨1,key,n⟩)+(if q.st=2 then 1 else 0)=bM T:=hg
 refine ⟨⟨fun p hp=>?_,?_,fun i j a b ha hb h1 h2 he=>?_,fun i a ha h1=>?_⟩,zfu,q,hq,hg⟩
 ·rcases List.mem_or_eq_of_mem_set hp with h | rfl
  ·exact hG.st p h
  ·exact (by omega:(1:Nat)≤2)
 ·rw [List.length_set,hl];omega
 ·by_cases hi:f=i
  ·by_cases hj:f=j
   ·omega
   ·subst hi
    rw [List.getElem?_set_self yB] at ha
    rw [List.getElem?_set_ne hj] at hb
    injection ha with ha
    subst ha
    exact absurd he.symm (hk j b hb h2)
  ·rw [List.getElem?_set_ne hi] at ha
   by_cases hj:f=j
   ·subst hj
    rw [List.getElem?_set_self yB] at hb
    injection hb with hb
    subst hb
    exact absurd he (hk i a ha h1)
   ·rw [List.getElem?_set_ne hj] at hb
    exact hG.keys i j a b ha hb h1 h2 he
 ·by_cases hi:f=i
  ·subst hi
   rw [List.getElem?_set_self yB] at ha
   injection ha with ha
   subst ha
   exact hre.set_ (fun h=>Nat.noConfusion h)
  ·rw [List.getElem?_set_ne hi] at ha
   exact (hG.reach i a ha h1).set_ (fun h=>Nat.noConfusion h)
theorem Ev {T:List Pl} {i:Nat} {q p:Pl} (hG:kQ T) (hq:T[i]?=some q) (hq1:q.st=1) (hp:p.st=1∧p.key=q.key∨p.st=2):kQ (T.set i p)∧
 ∃ R,List.Perm (ents T) ((q.key,q.num) :: R)∧List.Perm (ents (T.set i p)) ((ent p).toList ++ R)∧bM (T.set i p)=bM T+(if p.st=2 then 1 else 0):=by
 have j0:i<T.length:=(List.getElem?_eq_some_iff.1 hq).1
 have iD:=tK hq
 have oK:=Km (T:=T) (i:=i) (p:=p) j0
 have hg:=Kj (p:=p) hq
 rw [show ent q=some (q.key,q.num) by rw [ent,if_pos hq1]] at iD
 simp only [Option.toList_some,List.singleton_append] at iD
 rw [if_neg (show ¬ q.st=2 by omega),Nat.add_zero] at hg
 refine ⟨⟨fun x hx=>?_,?_,fun j k a b ha hb h1 h2 he=>?_,fun j a ha h1=>?_⟩,_,iD,oK,hg⟩
 ·rcases List.mem_or_eq_of_mem_set hx with h | rfl
  ·exact hG.st x h
  ·omega
 ·have h1:=iD.length_eq
  have h2:=oK.length_eq
  have h3:=hG.room
  rw [List.length_cons] at h1
  rw [List.length_append] at h2
  rw [List.length_set,hg,h2]
  rcases hp with ⟨h4,_⟩ | h4
  ·rw [show ent p=some (p.key,p.num) by rw [ent,if_pos h4],if_neg (by omega)]
   simp only [Option.toList_some,List.length_cons,List.length_nil];omega
  ·rw [show ent p=none by rw [ent,if_neg (by omega)],if_pos h4]
   simp only [Option.toList_none,List.length_nil];omega
 ·by_cases hj:i=j
  ·by_cases hk:i=k
   ·omega
   ·subst hj
    rw [List.getElem?_set_self j0] at ha
    rw [List.getElem?_set_ne hk] at hb
    injection ha with ha
    subst ha
    rcases hp with ⟨_,h4⟩ | h4
    ·exact hG.keys i k q b hq hb hq1 h2 (h4.symm.trans he)
    ·omega
  ·rw [List.getElem?_set_ne hj] at ha
   by_cases hk:i=k
   ·subst hk
    rw [List.getElem?_set_self j0] at hb
    injection hb with hb
    subst hb
    rcases hp with ⟨_,h4⟩ | h4
    ·exact hG.keys j i a q ha hq h1 hq1 (he.trans h4)
    ·omega
   ·rw [List.getElem?_set_ne hk] at hb
    exact hG.keys j k a b ha hb h1 h2 he
 ·by_cases hj:i=j
  ·subst hj
   rw [List.getElem?_set_self j0] at ha
   injection ha with ha
   subst ha
   rcases hp with ⟨_,h4⟩ | h4
   ·rw [h4];exact (hG.reach i q hq hq1).set_ (by omega)
   ·omega
  ·rw [List.getElem?_set_ne hj] at ha
   exact (hG.reach j a ha h1).set_ (by omega)
theorem Cg (n:Nat) (h:0<n):kQ (List.replicate n ⟨0,[],0⟩)∧ents (List.replicate n ⟨0,[],0⟩)=[]∧bM (List.replicate n ⟨0,[],0⟩)=0:=by
 have h1:ents (List.replicate n ⟨0,[],0⟩)=[]:=by
  unfold ents;rw [List.filterMap_replicate];rfl
 have h2:bM (List.replicate n ⟨0,[],0⟩)=0:=by
  unfold bM;rw [List.countP_replicate];rfl
 have h3:∀ (i:Nat) (p:Pl),(List.replicate n (⟨0,[],0⟩ : Pl))[i]?=some p→p.st=0:=fun i p hp=>by
  rw [List.getElem?_replicate] at hp
  split at hp
  ·injection hp with hp;subst hp;rfl
  ·cases hp
 refine ⟨⟨fun p hp=>by rw [(List.mem_replicate.1 hp).2];decide,by rw [h1,h2,List.length_replicate];simpa using h,fun i j a b ha _ h4=>?_,fun i a ha h4=>?_⟩,h1,h2⟩
 ·have:=h3 i a ha;omega
 ·have:=h3 i a ha;omega
end Go.Proofs.YtahdiiaadjdmcaaGreat
