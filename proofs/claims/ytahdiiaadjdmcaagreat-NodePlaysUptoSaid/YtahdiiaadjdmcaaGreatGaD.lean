import Derived.Test.YtahdiiaadjdmcaaGreatGround
import Derived.RangeFuncLeaves
import Derived.RangeFuncRecord
import Derived.RecoverIn
import Derived.ControlIn
import Derived.Shelf.Abstract
namespace Go.Proofs.YtahdiiaadjdmcaaGreat
open Go.RowKit
theorem Nr (a b:ByteArray):a.toList=b.toList ↔ a=b:=
 ⟨fun h=>by
  rw [ByteArray.toList_eq,ByteArray.toList_eq] at h
  obtain ⟨a⟩:=a;obtain ⟨b⟩:=b
  exact congrArg ByteArray.mk (Array.toList_inj.1 h),fun h=>by rw [h]⟩
set_option maxRecDepth 100000 in
theorem oN (r s:List V) (A B:Option Addr) (n m c d:Nat) (w:World) (ha:aW w A n r) (hb:aW w B m s) (hn:n≤140737488355328) :
 Calls Tryz.prog 36 #[.slice A n c,.slice B m d] w fun e w'=>e=.returned (.bool (bP r s))∧aD w w':=by
 have Ha:=aA ha;have Hb:=aA hb;clear ha hb
 by_cases hl:n=m
 ·subst hl
  have aZ:((n:Int) != (n:Int))=false:=by simp
  go_enter Tryz.func36,Tryz.ntmps36
  go_wp2
  go_loopw [4,5] (fun _ k w'=>∃ i:Nat,i≤n∧k=.int .i64 i∧Hid (bP r s=bP (r.drop i) (s.drop i))∧Hid (aD w w')) (fun _ k _=>n - (intOf k).toNat)
  case atStart=>exact ⟨0,by omega,rfl,rfl,aD.refl _⟩
  case round=>
   obtain ⟨i,bE,rfl,ho,hw⟩:=hrel
   by_cases h:i<n
   ·obtain ⟨b,off,x,rfl,hx,oY,c0,c1,c2⟩:=(Ha.out.ext hw.out).get h
    obtain ⟨b',off',y,rfl,hy,vS,d0,d1,d2⟩:=(Hb.out.ext hw.out).get h
    have hd:=aA (Oo r s i x y hx hy);clear hx hy
    have c0:=aB c0
    have c1:=aB c1
    have c2:=aB c2
    have d0:=aB d0
    have d1:=aB d1
    have d2:=aB d2
    go_wp2_with fail
    refine aC 9 (by kernel_rfl) (by kernel_rfl) (by kernel_rfl) ?_
    iterate 8
     refine aK (by kernel_rfl) (by kernel_rfl) ?_
     apply Exists.intro
     refine ⟨fun w1 aT=>?_,fun K hK=>?_⟩
     ·go_simp;first | done | rfl
     go_simp;refine hK _ _ ?_;clear hK K
    refine aK (by kernel_rfl) (by kernel_rfl) ?_
    refine ⟨.bool (!sN x y),fun w1 aT=>?_,fun K hK=>?_⟩
    ·clear c0 c1 c2 d0 d1 d2
     go_simp
     unfold sN
     have ht:=Nr x.t y.t
     by_cases h1:x.k=y.k <;> by_cases h2:x.i=y.i <;> by_cases h3:x.t=y.t <;> simp [h1,h2,h3,ht]
    clear c0 c1 c2 d0 d1 d2
    go_simp;refine hK _ _ ?_;clear hK K
    refine aH ⟨rfl,by kernel_rfl,fun w1 aT=>?_⟩
    simp only [bL]
    refine wpList_nil ?_
    have HF:=aA (hw.out.trans aT);clear aT
    by_cases he:sN x y=true
    ·have Og:(!sN x y)=false:=by rw [he];rfl
     simp only [Og]
     have He:=aA he;clear he Og
     go_wp2_with fail
     go_roundw
     case rel=>exact ⟨i+1,by omega,by go_num,by rw [Hid,ho.out,hd.out,He.out];simp,HF.out⟩
     case measure=>simp [intOf];omega
    ·have J7:sN x y=false:=by simpa using he
     have Og:(!sN x y)=true:=by rw [J7];rfl
     simp only [Og]
     have He:=aA J7;clear he J7 Og
     go_wp2_with fail
     go_ret
     exact ⟨bX (by rw [ho.out,hd.out,He.out];simp),HF.out⟩
   ·have cZ:=aA (And.intro Ha.out.len Hb.out.len)
    go_wp2_with fail
    go_ret
    exact ⟨bX (by rw [ho.out,List.drop_of_length_le (by have:=cZ.out;omega),List.drop_of_length_le (by have:=cZ.out;omega)];rfl),hw.out⟩
 ·have aZ:((n:Int) != (m:Int))=true:=by simp;omega
  have hs:=aA (Sj (r:=r) (s:=s) (by have:=Ha.out.len;have:=Hb.out.len;omega))
  go_enter Tryz.func36,Tryz.ntmps36
  go_wp2
  go_ret
  exact ⟨bX hs.out.symm,aD.refl _⟩
theorem Qw:(Tryz.prog.info? 85).map (fun i=>(i.zero,i.size,i.bytes))=some (some (.agg #[.int .i64 0,.int .i64 0,.string .empty]),3,32):=by kernel_rfl
theorem zcM:(Tryz.prog.info? 85).map (·.size)=some 3:=by kernel_rfl
theorem zF {L cs:List Value} (h:L.length=cs.length):splice L 0 cs=cs:=by
 simp [splice,h]
set_option maxRecDepth 100000 in
theorem uZ (r:List V) (A:Option Addr) (n c:Nat) (w:World) (ha:aW w A n r) (hn:n≤16777216) :
 Calls Tryz.prog 16 #[.slice A n c] w (wN w 85 3 n (aO r)):=by
 obtain ⟨i0,eQ,hz0,hz1,eO⟩:=info_parts Qw
 have uE:=mT (P:=Tryz.prog) 28 85 i0 _ Tryz.underlying28 eQ hz0 (by omega) .i64 .i64 n hn
 simp only [hz1] at uE
 have Ha:=aA ha;clear ha hz1 eO hz0 eQ
 go_enter Tryz.func16,Tryz.ntmps16
 go_wp2_with (refine qL rfl (.tmp 7) (.tmp 8) 28 28 rfl 85 3 Tryz.underlying28 zcM A w.heap.size 0 n n n c rfl rfl _ 85 (heap_alloc_new w _) (aO r) (Ha.out.ext (aD.alloc w _)).2 (Nat.le_refl _) (by rw [size_madeCells,Nat.zero_add,Ha.out.2.1];exact Nat.le_refl _) (fB r) w (aD.alloc w _) (Nat.le_refl _) ?_;intro w1 Nv fM gG)
 go_ret
 refine ⟨_,_,rfl,?_,fM.out⟩
 have hl:=Ha.out.2.1
 have hg:=Nv.out
 rw [zF (by rw [Array.length_toList,size_madeCells];exact hl.symm)] at hg
 refine ⟨hl,.inr ⟨w.heap.size,n,_,rfl,Nat.le_refl _,hg,Nat.le_refl _,by unfold maxLen;omega,by simpa using hl,?_⟩⟩
 rw [← hl];simp
def j5:List (List V)→List (List V)→Bool
 | [],[]=>true
 | [],_ :: _=>false
 | _ :: _,[]=>false
 | a :: l,b :: m=>bP a b && j5 l m
theorem fY:∀ {r s:List (List V)},j5 r s=true ↔ r=s
 | [],[]=>by simp [j5]
 | [],_ :: _=>by simp [j5]
 | _ :: _,[]=>by simp [j5]
 | a :: r,b :: s=>by simp [j5,cP,fY]
theorem Ox {r s:List (List V)} (h:r.length≠s.length):j5 r s=false:=by
 cases he:j5 r s with
 | false=>rfl
 | true=>exact absurd (congrArg List.length (fY.1 he)) h
theorem Jj (r s:List (List V)) (k:Nat) (a b:List V) (ha:r[k]?=some a) (hb:s[k]?=some b):j5 (r.drop k) (s.drop k)=(bP a b && j5 (r.drop (k+1)) (s.drop (k+1))):=by
 rw [List.getElem?_eq_some_iff] at ha hb
 obtain ⟨ha,ea⟩:=ha
 obtain ⟨hb,eb⟩:=hb
 rw [List.drop_eq_getElem_cons ha,List.drop_eq_getElem_cons hb,ea,eb];rfl
theorem pO.row_ {w:World} {A:Option Addr} {n:Nat} {xs:List (List V)} (h:pO nW 1 w A n xs) {i:Nat} (hi:i<n) :
 ∃ b off r A9 n9 c9,A=some ⟨b,off,none⟩∧xs[i]?=some r∧b<w.heap.size∧w.cell? ⟨b,off+i,none⟩=some (.slice A9 n9 c9)∧aW w A9 n9 r:=by
 obtain ⟨b,off,r,cs,hA,hx,oY,_,_,⟨A9,n9,c9,rfl,hR⟩,cV⟩:=h.get (by omega) hi
 have:=cV 0 (by omega)
 rw [Nat.mul_one,Nat.add_zero] at this
 exact ⟨b,off,r,A9,n9,c9,hA,hx,oY,this,hR⟩
set_option maxRecDepth 100000 in
theorem mP (xs ys:List (List V)) (A B:Option Addr) (n m c d:Nat) (w:World) (ha:pO nW 1 w A n xs) (hb:pO nW 1 w B m ys) (hn:n≤140737488355328) (hr:∀ r∈xs,r.length≤140737488355328) :
 Calls Tryz.prog 15 #[.slice A n c,.slice B m d] w fun e w'=>e=.returned (.bool (j5 xs ys))∧aD w w':=by
 have Ha:=aA ha;have Hb:=aA hb;have Hr:=aA hr;clear ha hb hr
 by_cases hl:n=m
 ·subst hl
  have aZ:((n:Int) != (n:Int))=false:=by simp
  go_enter Tryz.func15,Tryz.ntmps15
  go_wp2
  go_loopw [4,5] (fun _ k w'=>∃ i:Nat,i≤n∧k=.int .i64 i∧Hid (j5 xs ys=j5 (xs.drop i) (ys.drop i))∧Hid (aD w w')) (fun _ k _=>n - (intOf k).toNat)
  case atStart=>exact ⟨0,by omega,rfl,rfl,aD.refl _⟩
  case round=>
   obtain ⟨i,bE,rfl,ho,hw⟩:=hrel
   by_cases h:i<n
   ·obtain ⟨b,off,x,A1,n1,c1,rfl,hx,oY,d0,hR1⟩:=(Ha.out.ext nW.stab hw.out).row_ h
    obtain ⟨b',off',y,A2,n2,c2,rfl,hy,vS,d1,hR2⟩:=(Hb.out.ext nW.stab hw.out).row_ h
    have hd:=aA (Jj xs ys i x y hx hy)
    have Gh:n1≤140737488355328:=by have:=Hr.out x (List.mem_of_getElem? hx);have:=hR1.len;omega
    have HS:=aA (fun w1 (h1:aD wr w1)=>oN x y A1 A2 n1 n2 c1 c2 w1 (hR1.ext h1) (hR2.ext h1) Gh)
    have d0:=aB d0
    have d1:=aB d1
    clear hx hy hR1 hR2 oY vS
    go_wp2_with fail
    refine aC 10 (by kernel_rfl) (by kernel_rfl) (by kernel_rfl) ?_
    iterate 10
     refine aK (by kernel_rfl) (by kernel_rfl) ?_
     apply Exists.intro
     refine ⟨fun w1 aT=>?_,fun K hK=>?_⟩
     ·go_simp;first | done | rfl | exact HS.out w1 aT
     go_simp;refine hK _ _ ?_;clear hK K
    refine aH ⟨rfl,by kernel_rfl,fun w1 aT=>?_⟩
    simp only [bL]
    refine wpList_nil ?_
    clear d0 d1
    have HF:=aA (hw.out.trans aT);clear aT
    by_cases he:bP x y=true
    ·have Og:(!bP x y)=false:=by rw [he];rfl
     simp only [Og]
     have He:=aA he;clear he Og
     go_wp2_with fail
     go_roundw
     case rel=>exact ⟨i+1,by omega,by go_num,by rw [Hid,ho.out,hd.out,He.out];simp,HF.out⟩
     case measure=>simp [intOf];omega
    ·have J7:bP x y=false:=by simpa using he
     have Og:(!bP x y)=true:=by rw [J7];rfl
     simp only [Og]
     have He:=aA J7;clear he J7 Og
     go_wp2_with fail
     go_ret
     exact ⟨bX (by rw [ho.out,hd.out,He.out];simp),HF.out⟩
   ·have cZ:=aA (And.intro Ha.out.len Hb.out.len)
    go_wp2_with fail
    go_ret
    exact ⟨bX (by rw [ho.out,List.drop_of_length_le (by have:=cZ.out;omega),List.drop_of_length_le (by have:=cZ.out;omega)];rfl),hw.out⟩
 ·have aZ:((n:Int) != (m:Int))=true:=by simp;omega
  have hs:=aA (Ox (r:=xs) (s:=ys) (by have:=Ha.out.len;have:=Hb.out.len;omega))
  go_enter Tryz.func15,Tryz.ntmps15
  go_wp2
  go_ret
  exact ⟨bX hs.out.symm,aD.refl _⟩
def iN (base:Nat):World→List Value→List V→Prop:=fun w cs r=>∃ A n c,cs=[.slice A n c]∧w.ownsRow base 85 3 (.slice A n c) n (aO r)
theorem dX {w w':World} {base:Nat} {e:TypeId} {s n:Nat} {v:Value} {xs:List Value} (h:w.ownsRow base e s v n xs) (hw:aD w w'):w'.ownsRow base e s v n xs:=
 h.kept (row:=none) ⟨Below.os hw,Below.tape hw,Below.output hw,hw.size,fun _ hk _=>hw.block hk⟩ (by cases hv:v.ownBlock <;> simp)
theorem dI {w:World} {b b':Nat} {e:TypeId} {s n:Nat} {v:Value} {xs:List Value} (h:w.ownsRow b' e s v n xs) (hb:b≤b'):w.ownsRow b e s v n xs:=by
 refine ⟨h.1,?_⟩
 rcases h.2 with h1 | ⟨g,cap,cur,h1,h2,h3⟩
 ·exact .inl h1
 ·exact .inr ⟨g,cap,cur,h1,Nat.le_trans hb h2,h3⟩
theorem uS {w:World} {base g:Nat} {e t:TypeId} {size n:Nat} {v:Value} {xs:List Value} {cs:Array Value} (h:w.ownsRow base e size v n xs) (hb:aL w g t cs) (aZ:e≠t) (j:Nat) (u:Value):(w.setCell ⟨g,j,none⟩ u).ownsRow base e size v n xs:=
 h.kept (row:=some g) ⟨rfl,rfl,rfl,by simp,fun k _ hk=>Below.heap_setCell _ _ _ _ (fun e=>hk (by rw [e]))⟩ (.inr (Ne.symm (aN h hb aZ)))
theorem My {w w':World} {b1 b2:Nat} {e1 e2:TypeId} {s1 s2 n1 n2:Nat} {v1 v2:Value} {x1 x2:List Value} (h2:w.ownsRow b2 e2 s2 v2 n2 x2) (h1:w.ownsRow b1 e1 s1 v1 n1 x1) (aZ:e1≠e2) (hg:w.grownBy w' v1.ownBlock):w'.ownsRow b2 e2 s2 v2 n2 x2:=by
 refine h2.kept hg ?_
 rcases h1.2 with ⟨rfl,_⟩ | ⟨g1,cap,cur,rfl,_,hh,_⟩
 ·cases hk:v2.ownBlock <;> simp [Value.ownBlock]
 ·have:=aN h2 (show aL w g1 e1 cur from hh) (Ne.symm aZ)
  exact .inr (Ne.symm this)
theorem iN.stab (base:Nat):Xc (iN base):=fun _ _ _ _ hw ⟨A,n,c,h1,h2⟩=>⟨A,n,c,h1,dX h2 hw⟩
theorem iN.set_ {b g:Nat} {w:World} {t:TypeId} {ds:Array Value} {cs:List Value} {r:List V} (h:iN b w cs r) (hb:aL w g t ds) (aZ:85≠t) (j:Nat) (u:Value):iN b (w.setCell ⟨g,j,none⟩ u) cs r:=by
 obtain ⟨A,n,c,h1,h2⟩:=h
 exact ⟨A,n,c,h1,uS h2 hb aZ j u⟩
def Ia (w0:World) (rows:List (List V)) (en:Ending) (w':World):Prop:=
 ∃ A n c cells,en=.returned (.slice A n c)∧n=rows.length∧w'.ownsRow w0.heap.size 28 1 (.slice A n c) n cells∧gJ (iN w0.heap.size) 1 w' cells rows∧aD w0 w'
theorem tU:(Tryz.prog.info? 28).map (fun i=>(i.zero,i.size,i.bytes))=some (some (.slice none 0 0),1,24):=by kernel_rfl
structure Vg (w0 w:World) (g:Nat) (rows:List (List V)) (n i:Nat):Prop where
 blk:∃ cs:List Value,cs.length=i∧aL w g 28 (cs ++ List.replicate (n - i) (Value.slice none 0 0)).toArray∧gJ (iN w0.heap.size) 1 w cs (rows.take i)
 ext:aD w0 w
theorem Vg.go {w0 w w':World} {g n i:Nat} {rows:List (List V)} (h:Vg w0 w g rows n i) (hw:aD w w'):Vg w0 w' g rows n i:=by
 obtain ⟨cs,h1,h2,h3⟩:=h.blk
 exact ⟨⟨cs,h1,h2.ext hw,h3.ext (iN.stab _) hw⟩,h.ext.trans hw⟩
theorem Vg.at_ {w0 w:World} {g n i:Nat} {rows:List (List V)} (h:Vg w0 w g rows n i) (hi:i<n):w.cell? ⟨g,i,none⟩=some (.slice none 0 0)∧w.frozen? ⟨g,i,none⟩=false:=by
 obtain ⟨cs,h1,h2,_⟩:=h.blk
 refine ⟨?_,h2.frozen i⟩
 rw [h2.cell i]
 subst h1
 rw [show n - cs.length=(n - cs.length - 1)+1 by omega,List.replicate_succ]
 simp
theorem Vg.put {w0 w:World} {g n i:Nat} {rows:List (List V)} {r:List V} {A:Option Addr} {k c:Nat} (h:Vg w0 w g rows n i) (hi:i<n) (hr:rows[i]?=some r) (hg:w0.heap.size≤g) (ho:w.ownsRow w0.heap.size 85 3 (.slice A k c) k (aO r)) :
 Vg w0 (w.setCell ⟨g,i,none⟩ (.slice A k c)) g rows n (i+1):=by
 obtain ⟨cs,h1,h2,h3⟩:=h.blk
 have e:rows.take (i+1)=rows.take i ++ [r]:=by rw [List.take_add_one,hr];rfl
 refine ⟨⟨cs ++ [.slice A k c],by simp [h1],?_,?_⟩,h.ext.setCell (p:=⟨g,i,none⟩) hg _⟩
 ·have h5:=h2.set_ i (.slice A k c)
  rw [List.setIfInBounds_toArray] at h5
  subst h1
  rw [show n - cs.length=(n - (cs.length+1))+1 by omega,List.replicate_succ] at h5
  simpa using h5
 ·rw [e]
  refine gJ.snoc (h3.mono fun c' x hx=>hx.set_ h2 (by decide) _ _) rfl (fun v hv=>by obtain rfl:=List.mem_singleton.1 hv;rfl) ⟨A,k,c,rfl,uS ho h2 (by decide) _ _⟩
theorem Vg.done {w0 w:World} {g n:Nat} {rows:List (List V)} (h:Vg w0 w g rows n n) (hn:n=rows.length) (hm:n≤maxLen) (hg:w0.heap.size≤g):Ia w0 rows (.returned (.slice (some ⟨g,0,none⟩) n n)) w:=by
 obtain ⟨cs,h1,h2,h3⟩:=h.blk
 rw [Nat.sub_self] at h2
 simp only [List.replicate_zero,List.append_nil] at h2
 rw [List.take_of_length_le (by omega)] at h3
 exact ⟨_,_,_,cs,rfl,hn,⟨by omega,.inr ⟨g,n,_,rfl,hg,h2,Nat.le_refl _,hm,by simp [h1],List.take_of_length_le (by simp [h1])⟩⟩,h3,h.ext⟩
set_option maxRecDepth 100000 in
theorem Kd (rows:List (List V)) (A:Option Addr) (n c:Nat) (w:World) (ha:pO nW 1 w A n rows) (hn:n≤16777216) (hr:∀ r∈rows,r.length≤16777216) :
 Calls Tryz.prog 12 #[.slice A n c] w (Ia w rows):=by
 obtain ⟨i0,eQ,hz0,hz1,eO⟩:=info_parts tU
 have uE:=mT (P:=Tryz.prog) 36 28 i0 _ Tryz.underlying36 eQ hz0 (by omega) .i64 .i64 n hn
 simp only [hz1] at uE
 have Ha:=aA ha;have Hr:=aA hr;have Hl:=aA ha.len
 clear ha hr hz1 eO hz0 eQ
 have HE:=aA (aD.alloc w (.cells (madeCells #[Value.slice none 0 0] n) 28))
 have Cs:=aA (show Vg w (w.alloc (.cells (madeCells #[Value.slice none 0 0] n) 28)) w.heap.size rows n 0 from by
  refine ⟨⟨[],rfl,?_,by simpa using gJ.nil⟩,aD.alloc _ _⟩
  have h:=aL.new w 28 (madeCells #[Value.slice none 0 0] n)
  have e:(([] : List Value) ++ List.replicate (n - 0) (Value.slice none 0 0)).toArray=madeCells #[Value.slice none 0 0] n:=by
   apply Array.toList_inj.1
   simpa using (toList_madeCells_one (Value.slice none 0 0) n).symm
  rw [e]
  exact h)
 go_enter Tryz.func12,Tryz.ntmps12
 go_wp2_with fail
 generalize hW:w.alloc (.cells (madeCells #[Value.slice none 0 0] n) 28)=W1 at *
 clear hW
 go_loopw [4] (fun s4 w'=>∃ i:Nat,i≤n∧s4=.int .i64 i∧Hid (Vg w w' w.heap.size rows n i)) (fun s4 _=>n - (intOf s4).toNat)
 case atStart=>exact ⟨0,by omega,rfl,Cs.out⟩
 case round=>
  obtain ⟨i,bE,rfl,hI⟩:=hrel
  by_cases h:i<n
  ·obtain ⟨b,off,r,A9,n9,c9,rfl,hx,oY,d0,hR⟩:=(Ha.out.ext nW.stab hI.out.ext).row_ h
   have yR:=aA (uZ r A9 n9 c9 wr hR (by have:=Hr.out r (List.mem_of_getElem? hx);have:=hR.len;omega))
   have Hx:=aA hx
   have HH:=aA h
   clear hx oY hR
   go_wp2_with ((with_reducible refine yR.out.mono ?_);rintro e w5 ⟨A5,c5,rfl,o5,x5⟩;have I_:=aA (dI o5 hI.out.ext.size);have zf9:=aA (hI.out.go x5);clear o5 x5 d0;have c0:=(zf9.out.at_ HH.out).1;have f0:=(zf9.out.at_ HH.out).2)
   go_roundw
   case rel=>exact ⟨i+1,by omega,by go_num,zf9.out.put HH.out Hx.out (Nat.le_refl _) I_.out⟩
   case measure=>simp [intOf];omega
  ·obtain rfl:i=n:=by omega
   have rA:=aA (hI.out.done Hl.out (by unfold maxLen;omega) (Nat.le_refl _))
   go_wp2_with fail
   go_ret
   exact rA.out
structure Fr (S:Nat→Prop) (w w':World):Prop where
 os:w'.os=w.os
 tape:w'.tape=w.tape
 output:w'.output=w.output
 size:w.heap.size≤w'.heap.size
 block:∀ k,k<w.heap.size→¬ S k→w'.heap[k]?=w.heap[k]?
section
variable {S T:Nat→Prop} {w w' w'':World}
theorem Fr.refl (S:Nat→Prop) (w:World):Fr S w w:=⟨rfl,rfl,rfl,Nat.le_refl _,fun _ _ _=>rfl⟩
theorem Fr.of_ext (h:aD w w'):Fr S w w':=⟨Below.os h,Below.tape h,Below.output h,h.size,fun _ h1 _=>h.block h1⟩
theorem Fr.setCell (h:Fr S w w') {p:Addr} (hp:S p.block∨w.heap.size≤p.block) (u:Value):Fr S w (w'.setCell p u):=
 ⟨h.os,h.tape,h.output,by simpa using h.size,fun g h1 h2=>(Below.heap_setCell w' p u g (fun e=>by subst e;rcases hp with hp | hp;exact h2 hp;omega)).trans (h.block g h1 h2)⟩
theorem aL.fr {g:Nat} {t:TypeId} {cs:Array Value} (h:aL w g t cs) (k:Fr S w w') (hg:¬ S g):aL w' g t cs:=(k.block g h.lt hg).trans h
theorem Wt {base:Nat} {e:TypeId} {s n:Nat} {v:Value} {xs:List Value} (h:w.ownsRow base e s v n xs) (k:Fr S w w') (hS:∀ g,v.ownBlock=some g→¬ S g):w'.ownsRow base e s v n xs:=by
 refine ⟨h.1,?_⟩
 rcases h.2 with h1 | ⟨g,cap,cur,rfl,h2,h3,h4⟩
 ·exact .inl h1
 ·exact .inr ⟨g,cap,cur,rfl,h2,(k.block g (aL.lt h3) (hS g rfl)).trans h3,h4⟩
end
def zbN (w:World) (k:Nat):Prop:=∃ cs f,w.heap[k]?=some (.cells cs 28 f)
structure Fq (S:Nat→Prop) (base:Nat) (w w':World):Prop where
 os:w'.os=w.os
 tape:w'.tape=w.tape
 output:w'.output=w.output
 size:w.heap.size≤w'.heap.size
 block:∀ k,k<w.heap.size→¬ S k→¬ (base≤k∧zbN w k)→w'.heap[k]?=w.heap[k]?
section
variable {S T:Nat→Prop} {base:Nat} {w w' w'':World}
theorem Fq.of_fr (h:Fr S w w'):Fq S base w w':=⟨h.os,h.tape,h.output,h.size,fun k h1 h2 _=>h.block k h1 h2⟩
theorem Fq.of_ext (h:aD w w'):Fq S base w w':=Fq.of_fr (Fr.of_ext h)
theorem Fq.mono (h:Fq S base w w') (k:∀ g,S g→T g):Fq T base w w':=⟨h.os,h.tape,h.output,h.size,fun g h1 h2=>h.block g h1 fun h3=>h2 (k g h3)⟩
theorem Fq.trans (h:Fq S base w w') (k:Fq S base w' w''):Fq S base w w'':=
 ⟨k.os.trans h.os,k.tape.trans h.tape,k.output.trans h.output,Nat.le_trans h.size k.size,fun g h1 h2 h3=>by
  have e:=h.block g h1 h2 h3
  refine (k.block g (Nat.lt_of_lt_of_le h1 h.size) h2 fun h4=>h3 ⟨h4.1,?_⟩).trans e
  obtain ⟨cs,f,h5⟩:=h4.2
  exact ⟨cs,f,by rw [← e];exact h5⟩⟩
theorem aL.fq {g:Nat} {t:TypeId} {cs:Array Value} (h:aL w g t cs) (k:Fq S base w w') (hg:¬ S g) (hb:g<base∨t≠28):aL w' g t cs:=
 (k.block g h.lt hg fun h3=>by
  rcases hb with hb | hb
  ·have:=h3.1;omega
  ·obtain ⟨cs',f,h5⟩:=h3.2
   have h6:w.heap[g]?=some _:=h
   rw [h6] at h5
   injection h5 with h5
   injection h5 with _ h5
   exact hb h5).trans h
theorem Xw {b:Nat} {e:TypeId} {s n:Nat} {v:Value} {xs:List Value} (h:w.ownsRow b e s v n xs) (k:Fq S base w w') (hS:∀ g,v.ownBlock=some g→¬ S g) (he:e≠28):w'.ownsRow b e s v n xs:=by
 refine ⟨h.1,?_⟩
 rcases h.2 with h1 | ⟨g,cap,cur,rfl,h2,h3,h4⟩
 ·exact .inl h1
 ·exact .inr ⟨g,cap,cur,rfl,h2,aL.fq h3 k (hS g rfl) (.inr he),h4⟩
end
section
variable {S:Nat→Prop} {base:Nat} {w w':World} {l:Nat} {o:Obj}
theorem Fq.putObj (h:Fq S base w w') (hl:S l):Fq S base w (w'.putObj l o):=
 ⟨h.os,h.tape,h.output,by simpa using h.size,fun g h1 h2 h3=>(World.putObj_heap_other (fun e=>by subst e;exact h2 hl)).trans (h.block g h1 h2 h3)⟩
theorem aL.putObj {g:Nat} {t:TypeId} {cs:Array Value} (h:aL w g t cs) (aZ:g≠l):aL (w.putObj l o) g t cs:=(World.putObj_heap_other aZ).trans h
theorem gO {b:Nat} {e:TypeId} {s n:Nat} {v:Value} {xs:List Value} (h:w.ownsRow b e s v n xs) (hl:∀ g,v.ownBlock=some g→g≠l):(w.putObj l o).ownsRow b e s v n xs:=by
 refine ⟨h.1,?_⟩
 rcases h.2 with h1 | ⟨g,cap,cur,rfl,h2,h3,h4⟩
 ·exact .inl h1
 ·exact .inr ⟨g,cap,cur,rfl,h2,aL.putObj h3 (hl g rfl),h4⟩
end
def Xk (l:Nat) (r:Loop) (R:Ending→World→Prop):Exit→Act→World→Prop
 | .normal,_,W=>W.heap[l]?=some (.loop {r with state:=.busy})∧R (.returned (.bool true)) (W.putObj l (.loop r))
 | .ret,_,W=>W.heap[l]?=some (.loop {r with state:=.busy})∧R (.returned (.bool false)) (W.putObj l (.loop {r with state:=.done,pending:=some .ret}))
 | .exit id,_,W=>W.heap[l]?=some (.loop {r with state:=.busy})∧R (.returned (.bool false)) (W.putObj l (.loop {r with state:=.done,pending:=some (.exit id)}))
 | _,_,_=>False
theorem I0 {F:Fence} {n l:Nat} {P:Program} {r:Loop} {W:World} {x:Value} {R:Ending→World→Prop} (hl:W.heap[l]?=some (.loop r)) (hr:r.state=.ready) (hp:r.pending=none) (yj:r.params.size=1) (hF:F.fn r.fn)
 (h:r.assign.wpIn (F.inRound l) n P (Exit.then (fun a₁ w₁=>w₁.heap[l]?=some (.loop r)∧r.body.wpIn (F.inRound l) n P (Xk l r R) a₁ (w₁.putObj l (.loop {r with state:=.busy}))) (fun _ _ _=>False))
  {tmps:=(r.params.zip #[x]).foldl (fun tmps (t,a)=>tmps.setIfInBounds t a) r.tmps,defers:=[]} W) :
 ∃ fn tmps assign body,(Instr.yield l #[x]).run P W=.ok (.round l fn tmps assign body) W∧RoundIn F n P l fn tmps assign body W R:=by
 have zgR:({r with state:=.ready,pending:=none}:Loop)=r:=by
  obtain ⟨a,b⟩:=r
  simp only at hr hp
  subst hr hp
  rfl
 refine ⟨r.fn,_,r.assign,r.body,run_yield hl (by simp [yj]),roundIn_of_wpIn hF (wpIn_mono h ?_)⟩
 intro e a₁ w₁ hq
 cases e with
 |normal=>
  obtain ⟨pZ,hb⟩:=hq
  refine ⟨_,run_beginRound pZ hr,wpIn_mono hb ?_⟩
  intro e a₂ w₂ hq
  cases e with
  | normal=>exact ⟨_,_,run_endRound none hq.1,by simpa [zgR] using hq.2⟩
  | ret=>exact ⟨_,_,run_endRound (some .ret) hq.1,hq.2⟩
  | exit id=>exact ⟨_,_,run_endRound (some (.exit id)) hq.1,hq.2⟩
  | goto t=>exact hq.elim
  | panic c=>exact hq.elim
  | outgrown=>exact hq.elim
 | ret=>exact hq.elim
 | exit id=>exact hq.elim
 | goto t=>exact hq.elim
 | panic c=>exact hq.elim
 | outgrown=>exact hq.elim
def sO (fn:FuncId) (tmps:Array Value) (ps:Array Tmp) (assign body:Code) (d:Nat):Loop:={state:=.ready,pending:=none,fn,tmps,params:=ps,assign,body,defers:=d}
theorem Bc {n:Nat} {P:Program} {g:Operand} {ps:Array Tmp} {assign body:Code} {Q:Exit→Act→World→Prop} {a:Act} {w:World} {gf:Nat} {lb:Array Value} (hg:a.eval g=.func (.func gf) #[] lb) (eg:Enters P gf)
 (h:∀ fn,CallsIn Fence.wide (n - 1) P gf (#[.func (.yield (w.heap.size+1)) #[] #[]] ++ lb) ((w.alloc (.deferred (some []))).alloc (.loop (sO fn a.tmps ps assign body w.heap.size)))
  (rangePost Fence.wide n P (w.heap.size+1) Q {a with defers:=[{target:=.collected w.heap.size,args:=#[]}] ++ a.defers})) :
 (Code.rangeFunc g ps assign body).wpIn Fence.wide n P Q a w:=by
 refine wpIn_rangeFunc ?_
 intro fn hfn
 have h2:=h fn
 have e2:=eg (#[.func (.yield (w.heap.size+1)) #[] #[]] ++ lb)
 have h1:=run_enterLoop_outer (P:=P) (w:=w) fn a.tmps ps assign body
 generalize hW:(w.alloc (.deferred (some []))).alloc (.loop (sO fn a.tmps ps assign body w.heap.size))=W1 at h2
 have hW':(w.alloc (.deferred (some []))).alloc (.loop {state:=.ready,pending:=none,fn,tmps:=a.tmps,params:=ps,assign,body,defers:=w.heap.size})=W1:=hW
 rw [hW'] at h1
 have k1:(resolve a.eval (rangeCall g (w.heap.size+1)) 0).run P W1=.ok {target:=.fn (.func gf) lb,args:=#[.func (.yield (w.heap.size+1)) #[] #[]]} W1:=by
  simp only [resolve,hg]
  simp [go_sem]
 have k2:(invoke (.fn (.func gf) lb) #[.func (.yield (w.heap.size+1)) #[] #[]]).run P W1=.ok (.enter gf (#[.func (.yield (w.heap.size+1)) #[] #[]] ++ lb)) W1:=by
  simp [invoke,go_sem,e2]
 have h1':(Instr.enterLoop fn a.tmps ps assign body Fence.wide.round).run P w=.ok (w.heap.size+1,[{target:=.collected w.heap.size,args:=#[]}]) W1:=h1
 have k3:Fence.wide.depth.isSome=true→1≤n:=fun h=>absurd h (by simp [Fence.wide])
 refine ⟨w.heap.size+1,[{target:=.collected w.heap.size,args:=#[]}],W1,{target:=.fn (.func gf) lb,args:=#[.func (.yield (w.heap.size+1)) #[] #[]]},W1,gf,
  #[.func (.yield (w.heap.size+1)) #[] #[]] ++ lb,W1,?_,?_,?_,?_,?_,?_⟩
 ·exact h1'
 ·exact k1
 ·exact fun _ _=>trivial
 ·exact k2
 ·exact k3
 ·exact h2
theorem rK {n l:Nat} {P:Program} {Q:Exit→Act→World→Prop} {a':Act} {v:Value} {W:World} {r:Loop} (hl:W.heap[l]?=some (.loop r)) (hb:r.state≠.busy)
 (h:match r.pending with | none=>Q .normal a' (W.putObj l (.loop {r with state:=.exhausted})) | some c=>c.wpIn Fence.wide n P Q a' (W.putObj l (.loop {r with state:=.exhausted}))) :
 rangePost Fence.wide n P l Q a' (.returned v) W:=⟨_,_,run_endLoop hl hb,h⟩
theorem Ch (w:World) (r:Loop):((w.alloc (.deferred (some []))).alloc (.loop r)).heap[w.heap.size+1]?=some (.loop r)∧((w.alloc (.deferred (some []))).alloc (.loop r)).heap[w.heap.size]?=some (.deferred (some []))∧
 aD w ((w.alloc (.deferred (some []))).alloc (.loop r))∧((w.alloc (.deferred (some []))).alloc (.loop r)).heap.size=w.heap.size+2:=by
 refine ⟨?_,?_,(aD.alloc _ _).alloc' _,by rw [World.size_alloc,World.size_alloc]⟩
 ·have:=World.alloc_heap_new (w.alloc (.deferred (some []))) (.loop r)
  rwa [World.size_alloc] at this
 ·exact (Below.heap_alloc _ _ _ (by simp)).trans (World.alloc_heap_new w _)
theorem iN.fr {S:Nat→Prop} {b:Nat} {w w':World} {cs:List Value} {r:List V} (h:iN b w cs r) (hF:Fr S w w') (hS:∀ g,S g→g<b):iN b w' cs r:=by
 obtain ⟨A,n,c,h1,h2⟩:=h
 exact ⟨A,n,c,h1,Wt h2 hF fun g hg hs=>by have:=(h2.lt g hg).1;have:=hS g hs;omega⟩
theorem Fq.of_grown {S:Nat→Prop} {base:Nat} {w w':World} {v:Value} {n:Nat} {xs:List Value} (h:w.ownsRow base 28 1 v n xs) (hg:w.grownBy w' v.ownBlock):Fq S base w w':=
 ⟨hg.os,hg.tape,hg.output,hg.size,fun k h1 _ h3=>hg.block k h1 fun e=>h3 (by
  rcases h.2 with ⟨rfl,_⟩ | ⟨g,cap,cur,rfl,h4,h5,_⟩
  ·simp [Value.ownBlock] at e
  ·have e2:k=g:=by simpa [Value.ownBlock] using e
   subst e2
   exact ⟨h4,_,_,h5⟩)⟩
theorem iN.other {b b1:Nat} {e1:TypeId} {s1 n1:Nat} {v1:Value} {x1:List Value} {w w':World} {cs:List Value} {r:List V} (h:iN b w cs r) (h1:w.ownsRow b1 e1 s1 v1 n1 x1) (aZ:e1≠85) (hg:w.grownBy w' v1.ownBlock):iN b w' cs r:=by
 obtain ⟨A,n,c,h2,h3⟩:=h
 exact ⟨A,n,c,h2,My h3 h1 aZ hg⟩
end Go.Proofs.YtahdiiaadjdmcaaGreat
