import Derived.Test.YtahdiiaadjdmcaaGreatGbA
import Derived.Test.YtahdiiaadjdmcaaGreatShelf
import Derived.Shelf.Bytes.SlSmallAll
namespace Go.Proofs.YtahdiiaadjdmcaaGreat
open Go.RowKit
structure aF (B:Nat→Prop) (w w':World):Prop where
 os:w'.os=w.os
 tape:w'.tape=w.tape
 output:w'.output=w.output
 size:w.heap.size≤w'.heap.size
 block:∀ k,k<w.heap.size→¬ B k→w'.heap[k]?=w.heap[k]?
theorem aF.of {B:Nat→Prop} {w w':World} (h:aD w w'):aF B w w':=⟨Below.os h,Below.tape h,Below.output h,h.size,fun _ hk _=>h.block hk⟩
theorem aF.refl (B:Nat→Prop) (w:World):aF B w w:=.of (aD.refl w)
theorem aF.trans {B C:Nat→Prop} {a b c:World} (h:aF B a b) (k:aF C b c) (hC:∀ g,C g→g<a.heap.size→B g):aF B a c:=
 ⟨k.os.trans h.os,k.tape.trans h.tape,k.output.trans h.output,Nat.le_trans h.size k.size,fun g hg hB=>(k.block g (Nat.lt_of_lt_of_le hg h.size) (fun x=>hB (hC g x hg))).trans (h.block g hg hB)⟩
theorem aF.trans' {B:Nat→Prop} {a b c:World} (h:aF B a b) (k:aF B b c):aF B a c:=h.trans k fun _ x _=>x
theorem aF.mono {B C:Nat→Prop} {w w':World} (h:aF B w w') (hC:∀ g,B g→g<w.heap.size→C g):aF C w w':=
 ⟨h.os,h.tape,h.output,h.size,fun k hk hn=>h.block k hk fun x=>hn (hC k x hk)⟩
theorem aF.ext {B:Nat→Prop} {w0 w w':World} (h:aF B w w') (h0:aD w0 w) (hB:∀ g,B g→w0.heap.size≤g):aD w0 w':=
 Below.trans h0 ⟨h.os,h.tape,h.output,h.size,fun k hk=>h.block k (Nat.lt_of_lt_of_le hk h0.size) fun x=>absurd (hB k x) (by omega)⟩
theorem aF.setCell {B:Nat→Prop} {a w:World} (h:aF B a w) {p:Addr} (hp:B p.block∨a.heap.size≤p.block) (u:Value):aF B a (w.setCell p u):=
 h.trans (C:=fun g=>g=p.block) ⟨rfl,rfl,rfl,by simp,fun k _ hn=>Below.heap_setCell w p u k hn⟩ fun g hg hl=>by
  subst hg
  rcases hp with h | h
  ·exact h
  ·omega
theorem aF.alloc {B:Nat→Prop} {a w:World} (h:aF B a w) (o:Obj):aF B a (w.alloc o):=h.trans' (.of (aD.alloc w o))
theorem aF.blk {B:Nat→Prop} {w w':World} (h:aF B w w') {g:Nat} {t:TypeId} {cs:Array Value} (hb:aL w g t cs) (hg:¬ B g):aL w' g t cs:=(h.block g hb.lt hg).trans hb
theorem aF.cell {B:Nat→Prop} {w w':World} (h:aF B w w') {p:Addr} {v:Value} (hp:w.cell? p=some v) (hg:¬ B p.block):w'.cell? p=some v:=
 (World.cell?_of_block (w:=w) (h.block p.block (World.block_lt_of_cell? w p hp) hg)).trans hp
theorem aF.key {B:Nat→Prop} {w w':World} (h:aF B w w') {A:Option Addr} {n:Nat} {k:List UInt8} (hk:eK w A n k) (hg:∀ a,A=some a→¬ B a.block):eK w' A n k:=
 ⟨hk.1,fun hn=>by
  obtain ⟨b,off,hA,hc⟩:=hk.2 hn
  exact ⟨b,off,hA,fun j u hu=>h.cell (hc j u hu) (by have:=hg _ hA;simpa using this)⟩⟩
theorem aF.own {B:Nat→Prop} {w w':World} (h:aF B w w') {base:Nat} {e:TypeId} {s n:Nat} {v:Value} {xs:List Value} (ho:w.ownsRow base e s v n xs) (hg:∀ k,v.ownBlock=some k→¬ B k):w'.ownsRow base e s v n xs:=by
 refine ⟨ho.1,?_⟩
 rcases ho.2 with h1 | ⟨g,cap,cur,rfl,h2,h3,h4⟩
 ·exact .inl h1
 ·exact .inr ⟨g,cap,cur,rfl,h2,aF.blk h h3 (hg g rfl),h4⟩
theorem iL {w w':World} {base:Nat} {e:TypeId} {s n:Nat} {v:Value} {xs:List Value} (h:w.ownsRow base e s v n xs) (hw:aD w w'):w'.ownsRow base e s v n xs:=
 (aF.of (B:=fun _=>False) hw).own h fun _ _ x=>x
theorem dF {w:World} {base g:Nat} {e t:TypeId} {size n:Nat} {v:Value} {xs:List Value} {cs:Array Value} (h:w.ownsRow base e size v n xs) (hb:aL w g t cs) (aZ:e≠t):v.ownBlock≠some g:=by
 rcases h.2 with ⟨rfl,_⟩ | ⟨g',cap,cur,rfl,_,h3,_⟩
 ·simp [Value.ownBlock]
 ·intro he
  simp only [Value.ownBlock,Option.some.injEq] at he
  subst he
  unfold aL at hb
  rw [h3] at hb
  injection hb with hb
  injection hb with _ hb
  exact aZ hb
theorem vM {w:World} {A:Option Addr} {n:Nat} {k:List UInt8} (h:eK w A n k) (c:Nat):(convert 155 9 (.slice A n c)).run Tryz.prog w=.ok (.string ⟨k.toArray⟩) w:=by
 rcases Nat.eq_zero_or_pos n with h0 | h0
 ·have:=h.len
  subst h0
  obtain rfl:k=[]:=List.eq_nil_of_length_eq_zero this.symm
  exact run_convert_bytes_zero w _ _ Tryz.underlying155 Tryz.underlying5 A c _ Tryz.underlying9
 ·obtain ⟨b,off,rfl,hc⟩:=h.2 h0
  have hs:strOfNums (k.map fun b=>(b.toNat:Int)) =⟨k.toArray⟩:=by
   unfold strOfNums
   congr 1
   simp [List.map_map,Function.comp_def]
  rw [← hs]
  refine run_convert_bytes_arg w _ _ Tryz.underlying155 Tryz.underlying5 b off n c (k.map fun b=>(b.toNat:Int)) (by rw [List.length_map,h.len]) (fun i hi=>?_) _ Tryz.underlying9
  have hl:i<k.length:=by have:=h.len;omega
  exact hc i _ (by simp [Gx,hl])
theorem kq {w:World} {A B:Option Addr} {n m:Nat} {k l:List UInt8} (ha:eK w A n k) (hb:eK w B m l) (c d:Nat):Calls Tryz.prog 110 #[.slice A n c,.slice B m d] w fun e w'=>e=.returned (.bool (decide (k=l)))∧w'=w:=by
 have h:=Tryz.bytes_Equal_strs _ _ _ _ w (vM ha c) (vM hb d)
 refine h.mono fun e w' ⟨h1,h2⟩=>⟨by rw [h1];congr 2;rw [Bool.eq_iff_iff];simp,h2⟩
def bF (w:World) (B:Nat→Prop) (K:Value) (k:List UInt8):Prop:=∃ A n c,K=.slice A n c∧w.ownsRow 0 5 1 K n (Gx k)∧∀ a,A=some a→B a.block
theorem bF.keep {w w':World} {B C:Nat→Prop} {K:Value} {k:List UInt8} (h:bF w B K k) (hw:aF C w w') (hC:∀ A n c,K=.slice A n c→∀ a,A=some a→¬ C a.block):bF w' B K k:=by
 obtain ⟨A,n,c,rfl,h2,h3⟩:=h
 refine ⟨A,n,c,rfl,hw.own h2 fun g hg=>?_,h3⟩
 cases A with
 | none=>simp [Value.ownBlock] at hg
 |some a=>
  simp only [Value.ownBlock,Option.some.injEq] at hg
  rw [← hg];exact hC _ _ _ rfl a rfl
theorem bF.ext {w w':World} {B:Nat→Prop} {K:Value} {k:List UInt8} (h:bF w B K k) (hw:aD w w'):bF w' B K k:=
 h.keep (C:=fun _=>False) (aF.of hw) fun _ _ _ _ _ _ x=>x
theorem bF.mono {w:World} {B C:Nat→Prop} {K:Value} {k:List UInt8} (h:bF w B K k) (hC:∀ g,B g→C g):bF w C K k:=by
 obtain ⟨A,n,c,e,h2,h3⟩:=h
 exact ⟨A,n,c,e,h2,fun a ha=>hC _ (h3 a ha)⟩
theorem bF.ne {w:World} {B:Nat→Prop} {K:Value} {k:List UInt8} (h:bF w B K k) {g:Nat} {t:TypeId} {cs:Array Value} (hb:aL w g t cs) (aZ:5≠t):∀ A n c,K=.slice A n c→∀ a,A=some a→a.block≠g:=by
 rintro A n c rfl a rfl he
 obtain ⟨A',n',c',e,h2,_⟩:=h
 injection e with e1 e2 e3
 subst e1;subst e2;subst e3
 exact dF h2 hb aZ (by rw [← he];rfl)
def Ye (p:Pl) (K:Value):List Value:=[.int .u8 (p.st:Int),K,.int .i64 p.num]
def tR:List Pl→List Value→List Value
 | p :: T,K :: Ks=>Ye p K ++ tR T Ks
 | _,_=>[]
def zhl (most size marks probes tb len:Nat):Array Value:=#[.int .i64 most,.int .i64 size,.int .i64 marks,.int .i64 probes,.slice (some ⟨tb,0,none⟩) len len]
structure jH (w:World) (B:Nat→Prop) (tb:Nat) (T:List Pl) (Ks:List Value):Prop where
 blk:aL w tb 194 (tR T Ks).toArray
 len:Ks.length=T.length
 keys:∀ (i:Nat) (p:Pl) (K:Value),T[i]?=some p→Ks[i]?=some K→bF w B K p.key
 inB:B tb
theorem jH.ext {w w':World} {B:Nat→Prop} {tb:Nat} {T:List Pl} {Ks:List Value} (h:jH w B tb T Ks) (hw:aD w w'):jH w' B tb T Ks:=
 ⟨h.blk.ext hw,h.len,fun i p K h1 h2=>(h.keys i p K h1 h2).ext hw,h.inB⟩
theorem vK:∀ {T:List Pl} {Ks:List Value} {i:Nat} {p:Pl} {K:Value},T[i]?=some p→Ks[i]?=some K→∀ j v,(Ye p K)[j]?=some v→(tR T Ks)[i*3+j]?=some v
 | [],_,_,_,_,h,_=>by simp at h
 | _ :: _,[],_,_,_,_,h=>by simp at h
 |p :: T,K :: Ks,0,_,_,h1,h2=>fun j v hj=>by
  simp only [List.getElem?_cons_zero,Option.some.injEq] at h1 h2
  subst h1;subst h2
  rw [tR,Nat.zero_mul,Nat.zero_add,List.getElem?_append_left (by rw [List.getElem?_eq_some_iff] at hj;exact hj.1),hj]
 |p :: T,K :: Ks,i+1,_,_,h1,h2=>fun j v hj=>by
  simp only [List.getElem?_cons_succ] at h1 h2
  rw [tR,List.getElem?_append_right (by simp [Ye];omega)]
  have:=vK h1 h2 j v hj
  rw [← this]
  congr 1
  simp [Ye];omega
theorem jH.at_ {w:World} {B:Nat→Prop} {tb:Nat} {T:List Pl} {Ks:List Value} (h:jH w B tb T Ks) {i:Nat} {p:Pl} (hp:T[i]?=some p) :
 ∃ A n c,w.cell? ⟨tb,i*3,none⟩=some (.int .u8 (p.st:Int))∧w.cell? ⟨tb,i*3+1,none⟩=some (.slice A n c)∧w.cell? ⟨tb,i*3+2,none⟩=some (.int .i64 p.num)∧eK w A n p.key∧Ks[i]?=some (.slice A n c):=by
 have hi:i<Ks.length:=by rw [h.len];exact (List.getElem?_eq_some_iff.1 hp).1
 have hK:Ks[i]?=some Ks[i]:=List.getElem?_eq_getElem hi
 obtain ⟨A,n,c,e,ho,_⟩:=h.keys i p _ hp hK
 rw [e] at hK ho
 have hg:∀ j v,(Ye p (.slice A n c))[j]?=some v→w.cell? ⟨tb,i*3+j,none⟩=some v:=fun j v hv=>(h.blk.cell (i*3+j)).trans (by rw [List.getElem?_toArray];exact vK hp hK j v hv)
 exact ⟨A,n,c,hg 0 _ rfl,hg 1 _ rfl,hg 2 _ rfl,Sl.own ho,hK⟩
end Go.Proofs.YtahdiiaadjdmcaaGreat
namespace Go.Proofs.YtahdiiaadjdmcaaGreat
def dQ:List Nat→Nat→Option Nat
 | a :: b :: l,x=>if a=x then some b else dQ (b :: l) x
 | _,_=>none
def iG:List Nat→Nat→Option Nat
 | a :: b :: l,x=>if b=x then some a else iG (b :: l) x
 | _,_=>none
theorem qM {a:Nat} {l:List Nat} {x:Nat}:dQ (a :: l) x=if a=x∧l≠[] then l.head? else dQ l x:=by
 cases l with
 | nil=>simp [dQ]
 | cons b l=>simp [dQ]
theorem qP {a:Nat} {l:List Nat} {x:Nat}:iG (a :: l) x=if l.head?=some x then some a else iG l x:=by
 cases l with
 | nil=>simp [iG]
 | cons b l=>simp [iG]
theorem zA:∀ {l:List Nat} {x:Nat},x∉l→iG l x=none
 | [],_,_=>rfl
 | [_],_,_=>rfl
 |a :: b :: l,x,h=>by
  simp only [iG]
  rw [if_neg (fun e=>h (by simp [e])),zA (fun h2=>h (List.mem_cons_of_mem _ h2))]
theorem mO:∀ (A B:List Nat) (c x:Nat),(A ++ c :: B).Nodup→dQ (A ++ c :: B) x=if x=c then B.head? else if A.getLast?=some x then some c else dQ (A ++ B) x
 |[],B,c,x,h=>by
  simp only [List.nil_append,qM]
  by_cases hx:x=c
  ·subst hx
   rw [if_pos rfl]
   cases B with
   | nil=>simp [dQ]
   | cons b B=>simp
  ·rw [if_neg hx,if_neg (fun e=>hx e.1.symm),if_neg (show ¬ ([] : List Nat).getLast?=some x by simp)]
 |[a],B,c,x,h=>by
  have Vr:a≠c:=fun e=>by simp [e] at h
  simp only [List.cons_append,List.nil_append,dQ,List.getLast?_singleton,Option.some.injEq]
  by_cases hx:x=c
  ·subst hx
   rw [if_neg Vr,if_pos rfl]
   cases B with
   | nil=>simp [dQ]
   | cons b B=>simp [dQ]
  ·rw [if_neg hx]
   by_cases ha:a=x
   ·rw [if_pos ha,if_pos ha]
   ·rw [if_neg ha,if_neg ha,qM,if_neg (fun e=>hx e.1.symm),qM,if_neg (fun e=>ha e.1)]
 |a :: a' :: A,B,c,x,h=>by
  have Vr:a≠c:=fun e=>by simp [e] at h
  have h':(a' :: A ++ c :: B).Nodup:=by simp only [List.cons_append] at h;exact (List.nodup_cons.1 h).2
  have ih:=mO (a' :: A) B c x h'
  simp only [List.cons_append,dQ] at ih ⊢
  rw [ih]
  by_cases hx:x=c
  ·subst hx
   rw [if_neg Vr,if_pos rfl,if_pos rfl]
  ·rw [if_neg hx,if_neg hx]
   by_cases ha:a=x
   ·subst ha
    have hn:(a :: a' :: A).getLast?≠some a:=fun e=>by
     have h2:a∈a' :: A:=by
      rw [List.getLast?_cons_cons] at e
      exact List.mem_of_getLast? e
     simp only [List.cons_append] at h
     exact (List.nodup_cons.1 h).1 (by
      rcases List.mem_cons.1 h2 with e3 | e3
      ·simp [e3]
      ·simp [e3])
    rw [if_pos rfl,if_neg hn,if_pos rfl]
   ·rw [if_neg ha,if_neg ha,List.getLast?_cons_cons]
theorem mU:∀ (A B:List Nat) (c x:Nat),(A ++ c :: B).Nodup→iG (A ++ c :: B) x=if x=c then A.getLast? else if B.head?=some x then some c else iG (A ++ B) x
 |[],B,c,x,h=>by
  simp only [List.nil_append,qP]
  have hc:c∉B:=(List.nodup_cons.1 h).1
  by_cases hx:x=c
  ·subst hx
   rw [if_pos rfl,if_neg (fun e=>hc (List.mem_of_mem_head? (by rw [e];simp))),zA hc];rfl
  ·rw [if_neg hx]
 |[a],B,c,x,h=>by
  have Vr:a≠c:=fun e=>by simp [e] at h
  have hc:c∉B:=by simp only [List.cons_append,List.nil_append,List.nodup_cons] at h;exact h.2.1
  have ha:a∉B:=by simp only [List.cons_append,List.nil_append,List.nodup_cons,List.mem_cons,not_or] at h;exact h.1.2
  simp only [List.cons_append,List.nil_append,iG,List.getLast?_singleton]
  by_cases hx:x=c
  ·subst hx
   rw [if_pos rfl,if_pos rfl]
  ·rw [if_neg hx,if_neg (fun e=>hx e.symm),qP,qP]
   by_cases hb:B.head?=some x
   ·rw [if_pos hb,if_pos hb]
   ·rw [if_neg hb,if_neg hb,if_neg hb]
 |a :: a' :: A,B,c,x,h=>by
  have h':(a' :: A ++ c :: B).Nodup:=by simp only [List.cons_append] at h;exact (List.nodup_cons.1 h).2
  have ih:=mU (a' :: A) B c x h'
  simp only [List.cons_append,iG] at ih ⊢
  rw [ih,List.getLast?_cons_cons]
  by_cases hx:x=c
  ·subst hx
   have hn:a'≠x:=fun e=>by simp [e] at h'
   rw [if_pos rfl,if_pos rfl,if_neg hn]
  ·rw [if_neg hx,if_neg hx]
   by_cases ha:a'=x
   ·subst ha
    have hn:B.head?≠some a':=fun e=>by
     have h2:a'∈B:=List.mem_of_mem_head? (by rw [e];simp)
     simp only [List.cons_append,List.nodup_cons,List.mem_append,List.mem_cons,not_or] at h'
     exact h'.1.2.2 h2
    rw [if_pos rfl,if_neg hn,if_pos rfl]
   ·rw [if_neg ha,if_neg ha]
theorem Mr {A B:List Nat} {c x:Nat} (h:(A ++ c :: B).Nodup) (hx:x≠c):dQ (A ++ B) x=if A.getLast?=some x then B.head? else dQ (A ++ c :: B) x:=by
 have h2:=mO A B c x h
 rw [if_neg hx] at h2
 by_cases ha:A.getLast?=some x
 ·rw [if_pos ha]
  obtain ⟨A',rfl⟩ : ∃ A',A=A' ++ [x]:=by
   rw [List.getLast?_eq_some_iff] at ha
   exact ha
  clear h2 ha
  have hn:(A' ++ x :: B).Nodup:=by
   rw [List.append_assoc,List.cons_append,List.nil_append] at h
   exact (h.sublist (by simp))
  rw [List.append_assoc,List.cons_append,List.nil_append,mO A' B x x hn,if_pos rfl]
 ·rw [if_neg ha] at h2
  rw [if_neg ha,h2]
theorem Mp {A B:List Nat} {c x:Nat} (h:(A ++ c :: B).Nodup) (hx:x≠c):iG (A ++ B) x=if B.head?=some x then A.getLast? else iG (A ++ c :: B) x:=by
 have h2:=mU A B c x h
 rw [if_neg hx] at h2
 by_cases hb:B.head?=some x
 ·rw [if_pos hb]
  cases B with
  | nil=>simp at hb
  |cons b B=>
   simp only [List.head?_cons,Option.some.injEq] at hb
   subst hb
   have hn:(A ++ b :: B).Nodup:=h.sublist (by simp)
   rw [mU A B b b hn,if_pos rfl]
 ·rw [if_neg hb] at h2
  rw [if_neg hb,h2]
theorem tO {A B:List Nat} {c:Nat} (h:(A ++ c :: B).Nodup):dQ (A ++ c :: B) c=B.head?:=by rw [mO A B c c h,if_pos rfl]
theorem tB {A B:List Nat} {c:Nat} (h:(A ++ c :: B).Nodup):iG (A ++ c :: B) c=A.getLast?:=by rw [mU A B c c h,if_pos rfl]
end Go.Proofs.YtahdiiaadjdmcaaGreat
namespace Go.Proofs.YtahdiiaadjdmcaaGreat
abbrev L3:Type:=Int × Int × Int
def oi:Option Nat→Int
 | some n=>(n:Int)
 | none=>-1
def setNext (l:List L3) (p:Option Nat) (v:Int):List L3:=match p with | none=>l | some p=>l.modify p fun x=>(x.1,x.2.1,v)
def setPrev (l:List L3) (q:Option Nat) (v:Int):List L3:=match q with | none=>l | some q=>l.modify q fun x=>(x.1,v,x.2.2)
def jV {α:Type} (f:Nat→α) (n:Nat) (v:α):Nat→α:=fun m=>if m=n then v else f m
theorem bJ {α:Type} (f:Nat→α) (n:Nat) (v:α):jV f n v n=v:=if_pos rfl
theorem bZ {α:Type} (f:Nat→α) {n m:Nat} (v:α) (h:m≠n):jV f n v m=f m:=if_neg h
structure lU (cells lists:Nat) (at_ en:List L3) (cont:Nat→List Nat):Prop where
 cl:at_.length≤cells
 el:en.length≤lists
 nd:∀ n,(cont n).Nodup
 dj:∀ n m c,c∈cont n→c∈cont m→n=m
 out:∀ n,en.length≤n→cont n=[]
 ends:∀ (n:Nat) (e:L3),en[n]?=some e→e=(oi (cont n).head?,oi (cont n).getLast?,((cont n).length:Int))
 lnk:∀ n c,c∈cont n→at_[c]?=some ((n:Int)+1,oi (iG (cont n) c),oi (dQ (cont n) c))
 loose:∀ (c:Nat) (x:L3),at_[c]?=some x→(∀ n,c∉cont n)→x.1=0
def Fp (l:List L3) (n cell:Nat) (p q:Option Nat):List L3:=setPrev (setNext (l.set cell ((n:Int)+1,oi p,oi q)) p cell) q cell
def Bz (e:List L3) (n cell:Nat) (p q:Option Nat):List L3:=e.modify n fun x=>(if p=none then (cell:Int) else x.1,if q=none then (cell:Int) else x.2.1,x.2.2+1)
def Eh (l:List L3) (cell:Nat) (p q:Option Nat):List L3:=(setPrev (setNext l p (oi q)) q (oi p)).set cell (0,0,0)
def Bm (e:List L3) (n:Nat) (p q:Option Nat):List L3:=e.modify n fun x=>(if p=none then oi q else x.1,if q=none then oi p else x.2.1,x.2.2 - 1)
theorem iX {α:Type} (l:List α) (i j:Nat) (f:α→α):(l.modify i f)[j]?=if i=j then (l[j]?).map f else l[j]?:=by
 rw [List.getElem?_modify]
 by_cases h:i=j
 ·rw [if_pos h];simp [h]
 ·rw [if_neg h];simp [h]
theorem nH (l:List L3) (p:Option Nat) (v:Int):(setNext l p v).length=l.length:=by cases p <;> simp [setNext]
theorem qQ (l:List L3) (p:Option Nat) (v:Int):(setPrev l p v).length=l.length:=by cases p <;> simp [setPrev]
theorem Uc (l:List L3) (n cell:Nat) (p q:Option Nat):(Fp l n cell p q).length=l.length:=by simp [Fp,nH,qQ]
theorem Se (l:List L3) (cell:Nat) (p q:Option Nat):(Eh l cell p q).length=l.length:=by simp [Eh,nH,qQ]
theorem Fb (e:List L3) (n cell:Nat) (p q:Option Nat):(Bz e n cell p q).length=e.length:=by simp [Bz]
theorem Ez (e:List L3) (n:Nat) (p q:Option Nat):(Bm e n p q).length=e.length:=by simp [Bm]
theorem jA (l:List L3) (p:Option Nat) (v:Int) (i:Nat):(setNext l p v)[i]?=if p=some i then (l[i]?).map (fun x=>(x.1,x.2.1,v)) else l[i]?:=by
 cases p with
 | none=>simp [setNext]
 |some p=>
  simp only [setNext,List.getElem?_modify,Option.some.injEq]
  by_cases h:p=i
  ·rw [if_pos h];simp [h]
  ·rw [if_neg h];simp [h]
theorem i2 (l:List L3) (p:Option Nat) (v:Int) (i:Nat):(setPrev l p v)[i]?=if p=some i then (l[i]?).map (fun x=>(x.1,v,x.2.2)) else l[i]?:=by
 cases p with
 | none=>simp [setPrev]
 |some p=>
  simp only [setPrev,List.getElem?_modify,Option.some.injEq]
  by_cases h:p=i
  ·rw [if_pos h];simp [h]
  ·rw [if_neg h];simp [h]
section
variable {cells lists:Nat} {at_ en:List L3} {cont:Nat→List Nat}
theorem lU.lt (h:lU cells lists at_ en cont) {n c:Nat} (hc:c∈cont n):c<at_.length∧n<en.length:=by
 refine ⟨(List.getElem?_eq_some_iff.1 (h.lnk n c hc)).1,?_⟩
 rcases Nat.lt_or_ge n en.length with h1 | h1
 ·exact h1
 ·rw [h.out n h1] at hc;cases hc
theorem lU.empty (cells lists:Nat):lU cells lists [] [] (fun _=>[]):=
 ⟨Nat.zero_le _,Nat.zero_le _,fun _=>List.nodup_nil,fun _ _ _ h=>(by cases h),fun _ _=>rfl,fun n e h=>by simp at h,fun _ _ h=>(by cases h),fun c x h=>by simp at h⟩
theorem lU.growAt (h:lU cells lists at_ en cont) (hl:at_.length<cells):lU cells lists (at_ ++ [(0,0,0)]) en cont:=by
 refine {h with cl:=by simp;omega,lnk:=fun n c hc=>?_,loose:=fun c x hx hn=>?_}
 ·rw [List.getElem?_append_left (h.lt hc).1];exact h.lnk n c hc
 ·rcases Nat.lt_or_ge c at_.length with h1 | h1
  ·rw [List.getElem?_append_left h1] at hx;exact h.loose c x hx hn
  ·rw [List.getElem?_append_right h1] at hx
   have h2:=List.mem_of_getElem? hx
   rw [List.mem_singleton.1 h2]
theorem lU.growEn (h:lU cells lists at_ en cont) (hl:en.length<lists):lU cells lists at_ (en ++ [(-1,-1,0)]) cont:=by
 refine {h with el:=by simp;omega,out:=fun n hn=>h.out n (by simp at hn;omega),ends:=fun n e he=>?_}
 rcases Nat.lt_or_ge n en.length with h1 | h1
 ·rw [List.getElem?_append_left h1] at he;exact h.ends n e he
 ·rw [List.getElem?_append_right h1] at he
  have h2:=List.mem_of_getElem? he
  rw [List.mem_singleton.1 h2,h.out n h1]
  rfl
theorem lU.ins (h:lU cells lists at_ en cont) {n c:Nat} {A B:List Nat} (hn:n<en.length) (hc:c<at_.length) (hl:∀ m,c∉cont m) (hAB:cont n=A ++ B) :
 lU cells lists (Fp at_ n c A.getLast? B.head?) (Bz en n c A.getLast? B.head?) (jV cont n (A ++ c :: B)):=by
 have jP:(A ++ c :: B).Nodup:=by
  have h1:=h.nd n
  have h2:=hl n
  rw [hAB] at h1 h2
  rw [List.nodup_append] at h1 ⊢
  simp only [List.mem_append,not_or] at h2
  refine ⟨h1.1,List.nodup_cons.2 ⟨h2.2,h1.2.1⟩,fun a ha b hb=>?_⟩
  rcases List.mem_cons.1 hb with rfl | hb
  ·exact fun e=>h2.1 (e ▸ ha)
  ·exact h1.2.2 a ha b hb
 have jU:∀ m x,x∈jV cont n (A ++ c :: B) m ↔ (m=n∧x=c)∨x∈cont m:=fun m x=>by
  by_cases hm:m=n
  ·subst hm
   rw [bJ,hAB]
   simp only [List.mem_append,List.mem_cons,true_and]
   exact ⟨fun h=>by rcases h with h | h | h <;> simp [h],fun h=>by rcases h with h | h | h <;> simp [h]⟩
  ·rw [bZ _ _ hm];simp [hm]
 have Vn:∀ y,A.getLast?=some y→y∈cont n:=fun y hy=>by rw [hAB];exact List.mem_append_left _ (List.mem_of_getLast? hy)
 have zbe:∀ y,B.head?=some y→y∈cont n:=fun y hy=>by rw [hAB];exact List.mem_append_right _ (List.mem_of_mem_head? (by rw [hy];simp))
 refine ⟨by rw [Uc];exact h.cl,by rw [Fb];exact h.el,fun m=>?_,fun m k x hx hy=>?_,fun m hm=>?_,fun m e he=>?_,fun m x hx=>?_,fun x y hx hy=>?_⟩
 ·by_cases hm:m=n
  ·subst hm;rw [bJ];exact jP
  ·rw [bZ _ _ hm];exact h.nd m
 ·rcases (jU m x).1 hx with ⟨h1,h2⟩ | h1
  ·rcases (jU k x).1 hy with ⟨h3,_⟩ | h3
   ·rw [h1,h3]
   ·exact absurd h3 (h2 ▸ hl k)
  ·rcases (jU k x).1 hy with ⟨_,h3⟩ | h3
   ·exact absurd h1 (h3 ▸ hl m)
   ·exact h.dj m k x h1 h3
 ·rw [Fb] at hm
  rw [bZ _ _ (by omega)];exact h.out m hm
 ·unfold Bz at he
  rw [iX] at he
  by_cases hm:n=m
  ·subst hm
   rw [if_pos rfl] at he
   obtain ⟨e0,h1,h2⟩:=Option.map_eq_some_iff.1 he
   have h3:=h.ends n e0 h1
   rw [hAB] at h3
   subst h3
   rw [← h2,bJ]
   have ha:(A ++ c :: B).head?=if A.getLast?=none then some c else (A ++ B).head?:=by
    cases A with
    | nil=>simp
    | cons a A=>simp
   have hb:(A ++ c :: B).getLast?=if B.head?=none then some c else (A ++ B).getLast?:=by
    cases B with
    | nil=>simp
    | cons b B=>simp [List.getLast?_append]
   rw [ha,hb]
   refine Prod.ext ?_ (Prod.ext ?_ ?_)
   ·dsimp only;split <;> rfl
   ·dsimp only;split <;> rfl
   ·simp only [List.length_append,List.length_cons];omega
  ·rw [if_neg hm] at he
   rw [bZ _ _ (fun e=>hm e.symm)]
   exact h.ends m e he
 ·unfold Fp
  rw [i2,jA,List.getElem?_set]
  by_cases Qx:c=x
  ·subst Qx
   obtain rfl:m=n:=by
    rcases (jU m c).1 hx with ⟨h1,_⟩ | h1
    ·exact h1
    ·exact absurd h1 (hl m)
   rw [if_neg (fun e=>hl m (Vn c e)),if_neg (fun e=>hl m (zbe c e)),if_pos rfl,if_pos hc,bJ,tB jP,tO jP]
  ·rw [if_neg Qx]
   have zbc:x∈cont m:=((jU m x).1 hx).resolve_left fun e=>Qx e.2.symm
   have h0:=h.lnk m x zbc
   by_cases hm:m=n
   ·subst hm
    have h1:=mU A B c x jP
    have h2:=mO A B c x jP
    rw [if_neg (fun e=>Qx e.symm)] at h1 h2
    rw [bJ,h1,h2,h0,← hAB]
    by_cases ha:A.getLast?=some x
    ·by_cases hb:B.head?=some x
     ·simp [ha,hb,oi]
     ·simp [ha,hb,oi]
    ·by_cases hb:B.head?=some x
     ·simp [ha,hb,oi]
     ·simp [ha,hb]
   ·rw [bZ _ _ hm,if_neg (fun e=>hm (h.dj m n x zbc (Vn x e))),if_neg (fun e=>hm (h.dj m n x zbc (zbe x e)))]
    exact h0
 ·have Qx:c≠x:=fun e=>hy n ((jU n x).2 (.inl ⟨rfl,e.symm⟩))
  unfold Fp at hx
  rw [i2,jA,List.getElem?_set,if_neg Qx,if_neg (fun e=>hy n ((jU n x).2 (.inr (Vn x e)))),if_neg (fun e=>hy n ((jU n x).2 (.inr (zbe x e))))] at hx
  exact h.loose x y hx fun m hm=>hy m ((jU m x).2 (.inr hm))
theorem lU.rem (h:lU cells lists at_ en cont) {n c:Nat} {A B:List Nat} (hAB:cont n=A ++ c :: B) :
 lU cells lists (Eh at_ c A.getLast? B.head?) (Bm en n A.getLast? B.head?) (jV cont n (A ++ B)):=by
 have jP:(A ++ c :: B).Nodup:=by rw [← hAB];exact h.nd n
 have yq:c∈cont n:=by rw [hAB];simp
 have zaC:c∉A∧c∉B:=by
  rw [List.nodup_append] at jP
  exact ⟨fun hc=>jP.2.2 c hc c (by simp) rfl,(List.nodup_cons.1 jP.2.1).1⟩
 have jU:∀ m x,x∈jV cont n (A ++ B) m ↔ x≠c∧x∈cont m:=fun m x=>by
  by_cases hm:m=n
  ·subst hm
   rw [bJ,hAB]
   simp only [List.mem_append,List.mem_cons]
   constructor
   ·rintro (h | h)
    ·exact ⟨fun e=>zaC.1 (e ▸ h),.inl h⟩
    ·exact ⟨fun e=>zaC.2 (e ▸ h),.inr (.inr h)⟩
   ·rintro ⟨h1,h | h | h⟩
    ·exact .inl h
    ·exact absurd h h1
    ·exact .inr h
  ·rw [bZ _ _ hm]
   exact ⟨fun hx=>⟨fun e=>hm (h.dj m n c (e ▸ hx) yq),hx⟩,fun hx=>hx.2⟩
 have Vn:∀ y,A.getLast?=some y→y∈cont n∧y≠c:=fun y hy=>⟨by rw [hAB];exact List.mem_append_left _ (List.mem_of_getLast? hy),fun e=>zaC.1 (e ▸ List.mem_of_getLast? hy)⟩
 have zbe:∀ y,B.head?=some y→y∈cont n∧y≠c:=fun y hy=>by
  have h1:y∈B:=List.mem_of_mem_head? (by rw [hy];simp)
  exact ⟨by rw [hAB];exact List.mem_append_right _ (List.mem_cons_of_mem _ h1),fun e=>zaC.2 (e ▸ h1)⟩
 refine ⟨by rw [Se];exact h.cl,by rw [Ez];exact h.el,fun m=>?_,fun m k x hx hy=>h.dj m k x ((jU m x).1 hx).2 ((jU k x).1 hy).2,fun m hm=>?_,fun m e he=>?_,fun m x hx=>?_,fun x y hx hy=>?_⟩
 ·by_cases hm:m=n
  ·subst hm;rw [bJ];exact jP.sublist (by simp)
  ·rw [bZ _ _ hm];exact h.nd m
 ·rw [Ez] at hm
  have:=(h.lt yq).2
  rw [bZ _ _ (by omega)];exact h.out m hm
 ·unfold Bm at he
  rw [iX] at he
  by_cases hm:n=m
  ·subst hm
   rw [if_pos rfl] at he
   obtain ⟨e0,h1,h2⟩:=Option.map_eq_some_iff.1 he
   have h3:=h.ends n e0 h1
   rw [hAB] at h3
   subst h3
   rw [← h2,bJ]
   refine Prod.ext ?_ (Prod.ext ?_ ?_)
   ·dsimp only
    cases A with
    | nil=>simp
    | cons a A=>simp
   ·dsimp only
    cases B with
    | nil=>simp
    | cons b B=>simp [List.getLast?_append]
   ·simp only [List.length_append,List.length_cons];omega
  ·rw [if_neg hm] at he
   rw [bZ _ _ (fun e=>hm e.symm)]
   exact h.ends m e he
 ·obtain ⟨Qx,zbc⟩:=(jU m x).1 hx
  unfold Eh
  rw [List.getElem?_set,if_neg (fun e=>Qx e.symm),i2,jA]
  have h0:=h.lnk m x zbc
  by_cases hm:m=n
  ·subst hm
   rw [bJ,Mp jP Qx,Mr jP Qx,h0,← hAB]
   by_cases ha:A.getLast?=some x
   ·by_cases hb:B.head?=some x
    ·simp [ha,hb,oi]
    ·simp [ha,hb]
   ·by_cases hb:B.head?=some x
    ·simp [ha,hb]
    ·simp [ha,hb]
  ·rw [bZ _ _ hm,if_neg (fun e=>hm (h.dj m n x zbc (Vn x e).1)),if_neg (fun e=>hm (h.dj m n x zbc (zbe x e).1))]
   exact h0
 ·unfold Eh at hx
  rw [List.getElem?_set] at hx
  by_cases Qx:c=x
  ·subst Qx
   rw [if_pos rfl] at hx
   split at hx
   ·injection hx with hx
    rw [← hx]
   ·cases hx
  ·rw [if_neg Qx,i2,jA,if_neg (fun e=>hy n ((jU n x).2 ⟨(Vn x e).2,(Vn x e).1⟩)),if_neg (fun e=>hy n ((jU n x).2 ⟨(zbe x e).2,(zbe x e).1⟩))] at hx
   exact h.loose x y hx fun m hm=>hy m ((jU m x).2 ⟨fun e=>Qx e.symm,hm⟩)
end
end Go.Proofs.YtahdiiaadjdmcaaGreat
namespace Go.Proofs.YtahdiiaadjdmcaaGreat
open Go.RowKit
structure aJ (w:World) (B:Nat→Prop) (e:TypeId) (s n:Nat) (v:Value) (xs:List Value):Prop where
 own:w.ownsRow 0 e s v n xs
 inB:∀ g,v.ownBlock=some g→B g
section
variable {w w':World} {B C:Nat→Prop} {e:TypeId} {s n:Nat} {v:Value} {xs:List Value}
theorem aJ.nil (w:World) (B:Nat→Prop) (e:TypeId) (s:Nat):aJ w B e s 0 (.slice none 0 0) []:=⟨World.ownsRow_nil _ _ _ _,fun g h=>by simp [Value.ownBlock] at h⟩
theorem aJ.lt (h:aJ w B e s n v xs):∀ g,v.ownBlock=some g→g<w.heap.size:=fun g hg=>(h.own.lt g hg).2
theorem aJ.chg (h:aJ w B e s n v xs) (hw:aF C w w') (hC:∀ g,B g→¬ C g):aJ w' B e s n v xs:=⟨hw.own h.own fun g hg=>hC g (h.inB g hg),h.inB⟩
theorem aJ.ext (h:aJ w B e s n v xs) (hw:aD w w'):aJ w' B e s n v xs:=h.chg (C:=fun _=>False) (aF.of hw) fun _ _ x=>x
theorem aJ.mono (h:aJ w B e s n v xs) (hC:∀ g,B g→C g):aJ w C e s n v xs:=⟨h.own,fun g hg=>hC g (h.inB g hg)⟩
theorem aJ.far {g:Nat} {t:TypeId} {cs:Array Value} (h:aJ w B e s n v xs) (hb:aL w g t cs) (aZ:e≠t) (j:Nat) (u:Value):aJ (w.setCell ⟨g,j,none⟩ u) B e s n v xs:=
 ⟨(chg_one' w ⟨g,j,none⟩ u).own h.own fun k hk e'=>dF h.own hb aZ (by rw [hk];exact congrArg some e'),h.inB⟩
where
 chg_one' (w:World) (p:Addr) (u:Value):aF (fun g=>g=p.block) w (w.setCell p u):=aF.setCell (B:=fun g=>g=p.block) (aF.refl _ w) (.inl rfl) u
theorem aJ.grown {e2:TypeId} {s2 n2 base2:Nat} {v2:Value} {xs2:List Value} (h:aJ w B e s n v xs) (h2:w.ownsRow base2 e2 s2 v2 n2 xs2) (aZ:e≠e2) (hg:w.grownBy w' v2.ownBlock):aJ w' B e s n v xs:=by
 refine ⟨h.own.kept hg ?_,h.inB⟩
 cases hv:v.ownBlock with
 | none=>exact .inl rfl
 |some k=>
  refine .inr fun hk=>?_
  rcases h2.2 with ⟨rfl,_⟩ | ⟨g,cap,cur,rfl,_,hh,_⟩
  ·simp [Value.ownBlock] at hk
  ·simp only [Value.ownBlock,Option.some.injEq] at hk
   subst hk
   exact dF h.own (show aL w k e2 cur from hh) aZ hv
theorem aJ.put {g c:Nat} (h:aJ w B e s n (.slice (some ⟨g,0,none⟩) n c) xs) (j:Nat) (u:Value):aJ (w.setCell ⟨g,j,none⟩ u) B e s n (.slice (some ⟨g,0,none⟩) n c) (xs.set j u):=by
 refine ⟨⟨by rw [List.length_set];exact h.own.1,?_⟩,h.inB⟩
 rcases h.own.2 with ⟨h1,_⟩ | ⟨g',cap,cur,h1,h2,h3,h4,h5,h6,h7⟩
 ·cases h1
 ·injection h1 with h1 _ h8
  injection h1 with h1
  injection h1 with h1
  subst h1;subst h8
  refine .inr ⟨g,c,cur.setIfInBounds j u,rfl,h2,(show aL _ _ _ _ from aL.set_ (show aL w g e cur from h3) j u),h4,h5,by simpa using h6,?_⟩
  rw [Array.toList_setIfInBounds,List.take_set,h7]
theorem aJ.at_ {A:Option Addr} {c:Nat} (h:aJ w B e s n (.slice A n c) xs) (hn:0<n):∃ g,A=some ⟨g,0,none⟩∧B g∧g<w.heap.size∧(∀ j u,xs[j]?=some u→w.cell? ⟨g,j,none⟩=some u)∧(∀ j,w.frozen? ⟨g,j,none⟩=false):=by
 rcases h.own.2 with ⟨h1,h2⟩ | ⟨g,cap,cur,h1,h2,h3,h4,h5,h6,h7⟩
 ·omega
 ·injection h1 with h1 _ h8
  subst h1;subst h8
  have hb:aL w g e cur:=h3
  refine ⟨g,rfl,h.inB g rfl,hb.lt,fun j u hu=>?_,fun j=>hb.frozen j⟩
  rw [← h7,List.getElem?_take] at hu
  split at hu
  ·rw [hb.cell];simpa using hu
  ·cases hu
end
theorem aI {P:Program} {w:World} {ops:Array Oper} {rest:List Oper} {o:Oper} {a:Act} {Q:Exit→Act→World→Prop} (nK:o.guard=none) (s x:Operand) (t:TypeId)
 (ho:o.op=.call {callee:=.builtin .append,args:=#[s,x],argTypes:=#[t,t]})
 (B:Nat→Prop) (e:TypeId) (i:TypeInfo) (z:Value) (size bytes:Nat) (ht:P.underlying t=some (.slice e)) (hi:P.info? e=some i) (hz:i.zero=some z)
 (hsize:i.size=size) (hby:i.bytes=bytes) (hzs:z.cells.size=size) (oZ:0<size)
 (v:Value) (n:Nat) (xs:List Value) (hs:a.eval s=v) (cH:aJ w B e size n v xs)
 (A:Option Addr) (m c:Nat) (news:List Value) (hx:a.eval x=.slice A m c) (hr:Sl w A m size news) (h1:aQ news)
 (h63:n+m≤maxLen) (hbytes:(n+m)*bytes≤140737488355328)
 (h:∀ A' c' w',Hid (aJ w' (fun b=>B b∨b=w.heap.size) e size (n+m) (.slice A' (n+m) c') (xs ++ news))→Hid (w.grownBy w' v.ownBlock)→Hid (aF B w w')→wpList P ops Q rest (a.put o.dst (.slice A' (n+m) c')) w'):wpList P ops Q (o :: rest) a w:=
 wpList_plain nK fun _ hK=>by
  obtain ⟨v',w',rG,h2,h3,h4⟩:=oB (P:=P) w 0 t o.type e i z size bytes ht hi hz hsize hby hzs oZ v n xs cH.own A m c news hr h1 h63 hbytes (Nat.zero_le _)
  have hv:∃ A' c',v'=.slice A' (n+m) c':=by
   rcases h2.2 with ⟨h5,h6⟩ | ⟨g,cap,cur,h5,_⟩
   ·exact ⟨none,0,by rw [h5,h6]⟩
   ·exact ⟨_,_,h5⟩
  obtain ⟨A',c',rfl⟩:=hv
  unfold Oper.wp execOp
  simp only [ho,resolve,invoke,builtin,Sem.run_bind,Sem.run_pure,Result.andThen_ok,List.map_toArray,List.map_cons,List.map_nil,hs,hx,rG]
  refine hK _ _ (h A' c' w' ⟨h2,fun g hg=>?_⟩ h3 ⟨h3.os,h3.tape,h3.output,h3.size,fun k hk hB=>h3.block k hk fun e=>hB (cH.inB k e.symm)⟩)
  rcases h4 with h4 | h4
  ·exact .inl (cH.inB g (by rw [← h4];exact hg))
  ·rw [h4] at hg
   injection hg with hg
   exact .inr hg.symm
def hZ (l:List Nat):List Value:=l.map fun (c:Nat)=>.int .i64 (c:Int)
theorem rB:(Tryz.prog.info? 3).map (fun i=>(i.zero,i.size,i.bytes))=some (some (.int .i64 0),1,8):=by kernel_rfl
theorem aJ.take {w:World} {B:Nat→Prop} {e:TypeId} {s n c:Nat} {A:Option Addr} {xs:List Value} (h:aJ w B e s n (.slice A n c) xs) (k:Nat) (hk:k≤n):aJ w B e s k (.slice A k c) (xs.take (k*s)):=by
 have hl:=h.own.1
 refine ⟨⟨by rw [List.length_take,hl,Nat.min_eq_left (Nat.mul_le_mul_right _ hk)],?_⟩,fun g hg=>h.inB g (by cases A <;> exact hg)⟩
 rcases h.own.2 with ⟨h1,h2⟩ | ⟨g,cap,cur,h1,h2,h3,h4,h5,h6,h7⟩
 ·injection h1 with h1 _ h8
  subst h1;subst h8
  exact .inl ⟨by rw [show k=0 by omega],by omega⟩
 ·injection h1 with h1 _ h8
  subst h1;subst h8
  exact .inr ⟨g,c,cur,rfl,h2,h3,Nat.le_trans hk h4,h5,h6,by rw [← h7,List.take_take,Nat.min_eq_left (Nat.mul_le_mul_right _ hk)]⟩
theorem aJ.cap {w:World} {B:Nat→Prop} {e:TypeId} {s n c:Nat} {A:Option Addr} {xs:List Value} (h:aJ w B e s n (.slice A n c) xs):n≤c∧c≤9223372036854775807:=by
 rcases h.own.2 with ⟨h1,h2⟩ | ⟨g,cap,cur,h1,h2,h3,h4,h5,h6,h7⟩
 ·injection h1 with _ _ h8
  omega
 ·injection h1 with h1 _ h8
  subst h8
  unfold maxLen at h5
  omega
def qG (l:List L3):List Value:=l.flatMap fun x=>[.int .i64 x.1,.int .i64 x.2.1,.int .i64 x.2.2]
theorem Br (l m:List L3):qG (l ++ m)=qG l ++ qG m:=by simp [qG]
theorem Ih:∀ {l:List L3} {i:Nat} {x:L3},l[i]?=some x→(qG l)[i*3]?=some (.int .i64 x.1)∧(qG l)[i*3+1]?=some (.int .i64 x.2.1)∧(qG l)[i*3+2]?=some (.int .i64 x.2.2)
 | [],_,_,h=>by simp at h
 |a :: l,0,x,h=>by
  simp only [List.getElem?_cons_zero,Option.some.injEq] at h
  subst h
  exact ⟨rfl,rfl,rfl⟩
 |a :: l,i+1,x,h=>by
  simp only [List.getElem?_cons_succ] at h
  have:=Ih h
  have e:∀ j,(qG (a :: l))[(i+1)*3+j]?=(qG l)[i*3+j]?:=fun j=>by
   show ([Value.int .i64 a.1,.int .i64 a.2.1,.int .i64 a.2.2] ++ qG l)[(i+1)*3+j]?=_
   rw [List.getElem?_append_right (by simp;omega)]
   congr 1
   simp;omega
  exact ⟨(e 0).trans this.1,(e 1).trans this.2.1,(e 2).trans this.2.2⟩
theorem kW:∀ (l:List L3) (i:Nat) (u:Int),(qG l).set (i*3) (.int .i64 u)=qG (l.modify i fun x=>(u,x.2.1,x.2.2))
 | [],_,_=>by simp [qG]
 | a :: l,0,u=>rfl
 |a :: l,i+1,u=>by
  have ih:=kW l i u
  show ([Value.int .i64 a.1,.int .i64 a.2.1,.int .i64 a.2.2] ++ qG l).set ((i+1)*3) _=[Value.int .i64 a.1,.int .i64 a.2.1,.int .i64 a.2.2] ++ qG (l.modify i _)
  rw [← ih,List.set_append_right _ _ (by simp;omega)]
  congr 2
  simp;omega
theorem jN:∀ (l:List L3) (i:Nat) (u:Int),(qG l).set (i*3+1) (.int .i64 u)=qG (l.modify i fun x=>(x.1,u,x.2.2))
 | [],_,_=>by simp [qG]
 | a :: l,0,u=>rfl
 |a :: l,i+1,u=>by
  have ih:=jN l i u
  show ([Value.int .i64 a.1,.int .i64 a.2.1,.int .i64 a.2.2] ++ qG l).set ((i+1)*3+1) _=[Value.int .i64 a.1,.int .i64 a.2.1,.int .i64 a.2.2] ++ qG (l.modify i _)
  rw [← ih,List.set_append_right _ _ (by simp;omega)]
  congr 2
  simp;omega
theorem iP:∀ (l:List L3) (i:Nat) (u:Int),(qG l).set (i*3+2) (.int .i64 u)=qG (l.modify i fun x=>(x.1,x.2.1,u))
 | [],_,_=>by simp [qG]
 | a :: l,0,u=>rfl
 |a :: l,i+1,u=>by
  have ih:=iP l i u
  show ([Value.int .i64 a.1,.int .i64 a.2.1,.int .i64 a.2.2] ++ qG l).set ((i+1)*3+2) _=[Value.int .i64 a.1,.int .i64 a.2.1,.int .i64 a.2.2] ++ qG (l.modify i _)
  rw [← ih,List.set_append_right _ _ (by simp;omega)]
  congr 2
  simp;omega
theorem κ (l:List L3) (i:Nat) (x:L3):(((qG l).set (i*3) (.int .i64 x.1)).set (i*3+1) (.int .i64 x.2.1)).set (i*3+2) (.int .i64 x.2.2)=qG (l.set i x):=by
 rw [kW,jN,iP]
 congr 1
 apply List.ext_getElem?
 intro j
 rw [iX,iX,iX,List.getElem?_set]
 by_cases h:i=j
 ·subst h
  simp only [if_true]
  by_cases hl:i<l.length
  ·simp [hl]
  ·simp [hl]
 ·simp [h]
end Go.Proofs.YtahdiiaadjdmcaaGreat
namespace Go.Proofs.YtahdiiaadjdmcaaGreat
theorem kP:∀ (n:Nat) (l:List Nat),l.Nodup→(∀ x∈l,x<n)→l.length≤n
 | 0,[],_,_=>Nat.le_refl _
 | 0,a :: l,_,h=>absurd (h a (by simp)) (by omega)
 |n+1,l,jP,h=>by
  by_cases hn:n∈l
  ·have h1:=kP n (l.erase n) (jP.erase n) fun x hx=>by
    have h2:=(List.Nodup.mem_erase_iff jP).1 hx
    have h3:=h x h2.2
    have h4:=h2.1
    omega
   rw [List.length_erase_of_mem hn] at h1
   omega
  ·have h1:=kP n l jP fun x hx=>by
    have h3:=h x hx
    have h4:x≠n:=fun e=>hn (e ▸ hx)
    omega
   omega
abbrev fZ (τ:Type):Type:=Nat × Option τ
structure mH {τ:Type} (most:Nat) (sl:List (fZ τ)) (free:List Nat) (live:Nat):Prop where
 len:sl.length≤most
 nd:free.Nodup
 dead:∀ i,i∈free ↔ ∃ g,sl[i]?=some (g,none)
 live:live+free.length=sl.length
def fJ {τ:Type} (most:Nat) (sl:List (fZ τ)) (free:List Nat):List Nat:=free.reverse ++ List.range' sl.length (most - sl.length)
def oV {τ:Type} (sl:List (fZ τ)) (i:Nat):Option τ:=(sl[i]?).bind (·.2)
def aX {τ:Type} (sl:List (fZ τ)) (i:Nat):Nat:=((sl[i]?).map (·.1)).getD 0
section
variable {τ:Type} {most:Nat} {sl:List (fZ τ)} {free:List Nat} {live:Nat}
theorem mH.empty (most:Nat):mH most ([] : List (fZ τ)) [] 0:=⟨Nat.zero_le _,List.nodup_nil,fun i=>by simp,rfl⟩
theorem Bd {i:Nat} {v:τ} (h:oV sl i=some v):∃ g,sl[i]?=some (g,some v):=by
 unfold oV at h
 rw [Option.bind_eq_some_iff] at h
 obtain ⟨⟨g,o⟩,h1,h2⟩:=h
 exact ⟨g,by rw [h1];simp only at h2;rw [h2]⟩
theorem mH.fs_lt (h:mH most sl free live):∀ i∈fJ most sl free,i<most:=fun i hi=>by
 unfold fJ at hi
 rcases List.mem_append.1 hi with hi | hi
 ·obtain ⟨g,h1⟩:=(h.dead i).1 (List.mem_reverse.1 hi)
  have:=(List.getElem?_eq_some_iff.1 h1).1
  have:=h.len
  omega
 ·have:=List.mem_range'_1.1 hi
  have:=h.len
  omega
theorem mH.fs_dead (h:mH most sl free live) {i:Nat} (hi:i<most):i∈fJ most sl free ↔ oV sl i=none:=by
 unfold fJ oV
 rw [List.mem_append,List.mem_reverse,List.mem_range'_1]
 constructor
 ·rintro (h1 | h1)
  ·obtain ⟨g,h2⟩:=(h.dead i).1 h1
   rw [h2];rfl
  ·rw [List.getElem?_eq_none (by omega)];rfl
 ·intro h1
  rcases Nat.lt_or_ge i sl.length with h2 | h2
  ·rw [List.getElem?_eq_getElem h2] at h1
   refine .inl ((h.dead i).2 ⟨(sl[i]).1,?_⟩)
   rw [List.getElem?_eq_getElem h2]
   simp only [Option.bind_some] at h1
   rw [← h1]
  ·exact .inr ⟨h2,by have:=h.len;omega⟩
theorem mH.take1 {F:List Nat} {i g:Nat} (h:mH most sl (F ++ [i]) live) (hg:sl[i]?=some (g,none)) (v:τ) :
 mH most (sl.set i (g+1,some v)) F (live+1)∧fJ most sl (F ++ [i])=i :: fJ most (sl.set i (g+1,some v)) F:=by
 have hi:=(List.getElem?_eq_some_iff.1 hg).1
 have jP:=h.nd
 rw [List.nodup_append] at jP
 have zfj:i∉F:=fun h1=>jP.2.2 i h1 i (by simp) rfl
 refine ⟨⟨by rw [List.length_set];exact h.len,jP.1,fun j=>?_,?_⟩,?_⟩
 ·by_cases hj:i=j
  ·subst hj
   rw [List.getElem?_set_self hi]
   exact ⟨fun h1=>absurd h1 zfj,fun ⟨g',h1⟩=>by simp at h1⟩
  ·rw [List.getElem?_set_ne hj,← h.dead j]
   simp [Ne.symm hj]
 ·have h1:=h.live
  rw [List.length_set];simp at h1;omega
 ·simp [fJ,List.length_set]
theorem mH.take2 (h:mH most sl [] live) (hl:sl.length<most) (v:τ):mH most (sl ++ [(1,some v)]) [] (live+1)∧fJ most sl []=sl.length :: fJ most (sl ++ [(1,some v)]) []:=by
 refine ⟨⟨by simp;omega,List.nodup_nil,fun j=>?_,?_⟩,?_⟩
 ·simp only [List.not_mem_nil,false_iff,not_exists]
  intro g hg
  rcases Nat.lt_or_ge j sl.length with h1 | h1
  ·rw [List.getElem?_append_left h1] at hg
   have:=(h.dead j).2 ⟨g,hg⟩
   cases this
  ·rw [List.getElem?_append_right h1] at hg
   have:=List.mem_of_getElem? hg
   simp at this
 ·have h1:=h.live
  simp at h1 ⊢;omega
 ·simp only [fJ,List.reverse_nil,List.nil_append,List.length_append,List.length_cons,List.length_nil]
  rw [show most - sl.length=(most - (sl.length+1))+1 by omega,List.range'_succ]
theorem mH.give (h:mH most sl free live) {i g:Nat} {v:τ} (hg:sl[i]?=some (g,some v)):mH most (sl.set i (g,none)) (free ++ [i]) (live - 1)∧fJ most (sl.set i (g,none)) (free ++ [i])=i :: fJ most sl free∧1≤live:=by
 have hi:=(List.getElem?_eq_some_iff.1 hg).1
 have zfj:i∉free:=fun h1=>by
  obtain ⟨g',h2⟩:=(h.dead i).1 h1
  rw [hg] at h2;simp at h2
 have Yt:1≤live:=by
  have h1:=h.live
  have h2:free.length<sl.length:=by
   have h3:=kP sl.length (i :: free) (List.nodup_cons.2 ⟨zfj,h.nd⟩) fun x hx=>by
    rcases List.mem_cons.1 hx with rfl | hx
    ·exact hi
    ·obtain ⟨g',h4⟩:=(h.dead x).1 hx
     exact (List.getElem?_eq_some_iff.1 h4).1
   simp at h3;omega
  omega
 refine ⟨⟨by rw [List.length_set];exact h.len,?_,fun j=>?_,?_⟩,by simp [fJ],Yt⟩
 ·rw [List.nodup_append]
  exact ⟨h.nd,by simp,fun a ha b hb e=>zfj (by rw [List.mem_singleton.1 hb] at e;exact e ▸ ha)⟩
 ·by_cases hj:i=j
  ·subst hj
   rw [List.getElem?_set_self hi]
   simp
  ·rw [List.getElem?_set_ne hj,← h.dead j]
   simp [Ne.symm hj]
 ·have h1:=h.live
  rw [List.length_set,List.length_append];simp;omega
theorem uQ {i j g:Nat} {o:Option τ} (hi:i<sl.length):oV (sl.set i (g,o)) j=if j=i then o else oV sl j:=by
 unfold oV
 by_cases h:j=i
 ·subst h
  rw [List.getElem?_set_self hi,if_pos rfl];rfl
 ·rw [List.getElem?_set_ne (fun e=>h e.symm),if_neg h]
theorem kV {i j g:Nat} {o:Option τ} (hi:i<sl.length):aX (sl.set i (g,o)) j=if j=i then g else aX sl j:=by
 unfold aX
 by_cases h:j=i
 ·subst h
  rw [List.getElem?_set_self hi,if_pos rfl];rfl
 ·rw [List.getElem?_set_ne (fun e=>h e.symm),if_neg h]
theorem Kf {j g:Nat} {o:Option τ}:oV (sl ++ [(g,o)]) j=if j=sl.length then o else oV sl j:=by
 unfold oV
 rcases Nat.lt_trichotomy j sl.length with h | h | h
 ·rw [List.getElem?_append_left h,if_neg (by omega)]
 ·rw [if_pos h,List.getElem?_append_right (by omega)];simp [h]
 ·rw [if_neg (by omega),List.getElem?_append_right (by omega),List.getElem?_eq_none (by simp;omega),List.getElem?_eq_none (by omega)]
theorem Eu {j g:Nat} {o:Option τ}:aX (sl ++ [(g,o)]) j=if j=sl.length then g else aX sl j:=by
 unfold aX
 rcases Nat.lt_trichotomy j sl.length with h | h | h
 ·rw [List.getElem?_append_left h,if_neg (by omega)]
 ·rw [if_pos h,List.getElem?_append_right (by omega)];simp [h]
 ·rw [if_neg (by omega),List.getElem?_append_right (by omega),List.getElem?_eq_none (by simp;omega),List.getElem?_eq_none (by omega)]
end
end Go.Proofs.YtahdiiaadjdmcaaGreat
