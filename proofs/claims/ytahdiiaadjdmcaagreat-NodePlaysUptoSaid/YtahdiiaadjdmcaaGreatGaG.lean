import Derived.Test.YtahdiiaadjdmcaaGreatShelf
import Derived.Test.YtahdiiaadjdmcaaGreatGaF
namespace Go.Proofs.YtahdiiaadjdmcaaGreat
open Go.RowKit
theorem Zx (s:ByteArray) (i:Nat) (h:i<s.size):s.data.toList[i]?=some s[i]:=by
 rw [List.getElem?_eq_getElem (by rw [Array.length_toList];exact h)];rfl
theorem Xi (s:ByteArray):s.data.toList.length=s.size:=Array.length_toList
theorem Γ:(Tryz.prog.info? 5).map (fun i=>(i.zero,i.size,i.bytes))=some (some (.int .u8 0),1,1):=by kernel_rfl
def Lu (w0:World) (res:List UInt8 × Int) (en:Ending) (w':World):Prop:=
 ∃ A c,en=.returned (.tuple #[.slice A res.1.length c,.int .i64 res.2])∧w'.ownsRow w0.heap.size 5 1 (.slice A res.1.length c) res.1.length (iI res.1)∧aD w0 w'
theorem zC (w:World) (base:Nat):w.ownsRow base 5 1 (.slice none 0 0) 0 (iI []):=World.ownsRow_nil w base _ 1
def Yo (w0 w:World) (A:Option Addr) (n c:Nat) (l:List UInt8):Prop:=n=l.length∧w.ownsRow w0.heap.size 5 1 (.slice A n c) n (iI l)
theorem mC (w:World) (l:List UInt8) (t:TypeId) (g:Nat) (hg:w.heap.size=g):Sl (w.alloc (.cells (iI l).toArray t)) (some ⟨g,0,none⟩) l.length 1 (iI l):=by
 subst hg
 exact ⟨by rw [zS];omega,fun _=>⟨w.heap.size,0,rfl,fun j u hu=>by rw [Nat.zero_add];exact vQ.new w (iI l) t (0,0) j u hu⟩⟩
theorem Pv (v:V) (h:bO v=true):(v.k=1∧jZ v=1 :: vC (pB v.i))∨(v.k=2∧jZ v=2 :: (tC v.t.data.toList ++ [0,0])∧v.t.size≤64):=by
 unfold bO at h
 split at h
 ·rename_i h1;exact .inl ⟨h1,by simp [jZ,h1]⟩
 ·rename_i h1
  split at h
  ·rename_i h2
   split at h
   ·have h4:(v.t.size:Int)≤64:=by simpa using h
    exact .inr ⟨h2,by simp [jZ,h2],by omega⟩
   ·cases h
  ·cases h
theorem zP (w:World) (o:Obj):(w.alloc o).heap.size=w.heap.size+1:=Array.size_push _
theorem Tt {i:Int} (h : -9223372036854775808≤i∧i≤9223372036854775807):bits .xor .u64 (IntKind.u64.wrap i) 9223372036854775808=(pB i:Int):=by
 rw [jl]
 have h1:=bits_xor_u64_nat (rI i) 9223372036854775808 (Wr i) (by omega)
 rw [Xs h] at h1
 exact h1
theorem take_snoc'' {α:Type} (xs:List α) (i:Nat) (x:α) (h:xs[i]?=some x):xs.take (i+1)=xs.take i ++ [x]:=by
 rw [List.take_add_one,h];rfl
theorem Xz (N j:Nat) (h:j<8):(vC N)[j]?=some (UInt8.ofNat (N / 2 ^ (56 - 8*j))):=by
 match j,h with
 | 0,_ | 1,_ | 2,_ | 3,_ | 4,_ | 5,_ | 6,_ | 7,_=>rfl
theorem Sl.cast {w:World} {A:Option Addr} {x y:Value} {n:Nat} {xs:List Value} {t:TypeId} (h:Sl (w.alloc (.cells #[x] t)) A n 1 xs) (e:y=x):Sl (w.alloc (.cells #[y] t)) A n 1 xs:=by subst e;exact h
theorem Sn (N j:Nat) (h:j<8):(vC N).take (j+1)=(vC N).take j ++ [UInt8.ofNat (N / 2 ^ (56 - 8*j))]:=take_snoc'' _ _ _ (Xz N j h)
theorem Mu (t:ByteArray) (j:Nat) (h:j<t.size):t.data.toList.take (j+1)=t.data.toList.take j ++ [t[j]]:=take_snoc'' _ _ _ (Zx t j h)
def zgy (w w':World):Prop:=∀ g t cs,aL w g t cs→t≠5→aL w' g t cs
theorem j4 {w:World} {ops:Array Oper} {rest:List Oper} {o:Oper} {a:Act} {Q:Exit→Act→World→Prop} (nK:o.guard=none) (s x:Operand)
 (ho:o.op=.call {callee:=.builtin .append,args:=#[s,x],argTypes:=#[155,155]})
 (w0:World) (hE:aD w0 w) (A:Option Addr) (n c:Nat) (l:List UInt8) (hs:a.eval s=.slice A n c) (cH:Yo w0 w A n c l)
 (A2:Option Addr) (m c2:Nat) (news:List UInt8) (hx:a.eval x=.slice A2 m c2) (hr:Sl w A2 m 1 (iI news)) (hm:n+m≤140737488355328)
 (h:∀ A' c' w',Hid (Yo w0 w' A' (n+m) c' (l ++ news))→Hid (aD w0 w')→Hid (zgy w w')→wpList Tryz.prog ops Q rest (a.put o.dst (.slice A' (n+m) c')) w'):wpList Tryz.prog ops Q (o :: rest) a w:=by
 obtain ⟨i0,eQ,hz0,hz1,eO⟩:=info_parts Γ
 refine dJ nK s x _ ho 5 i0 _ 1 1 (by kernel_rfl) eQ hz0 hz1 eO rfl (by omega) w0 hE _ n (iI l) hs cH.2 A2 m c2 (iI news) hx hr (Ps _) (by unfold maxLen;omega) (by omega) ?_
 intro A' c' w' h1 h2 h3 _
 refine h A' c' w' ⟨?_,by rw [Dx];exact h1.out⟩ h2 fun g t cs hb aZ=>hb.grown h3.out (aN cH.2 hb fun e=>aZ e.symm)
 have:=hr.1;rw [zS] at this
 rw [List.length_append,← cH.1];omega
theorem z_ {r:List V} (h:r.all bO=true) {i:Nat} {v:V} (hv:r[i]?=some v):bO v=true:=List.all_eq_true.1 h v (List.mem_of_getElem? hv)
theorem Vw {r:List V} (h:r.all bO=true) (i:Nat):(r.take i).all bO=true:=List.all_eq_true.2 fun v hv=>List.all_eq_true.1 h v (List.mem_of_mem_take hv)
set_option maxRecDepth 100000 in
set_option maxHeartbeats 1000000 in
theorem Ab (r:List V) (A:Option Addr) (n c:Nat) (w:World) (ha:aW w A n r) (hn:n≤1048576) (hs:dP r) (hw:uH r) :
 Calls Tryz.prog 104 #[.slice A n c] w (Lu w (iQ r)):=by
 have Ha:=aA ha;have hl:=aA ha.len
 have HV:=aA (rX r A n c w ha hn hs)
 have Hw:=aA hw
 clear ha hs hw
 obtain ⟨i0,eQ,hz0,hz1,eO⟩:=info_parts Γ
 by_cases h30:n≤30
 rotate_left
 ·go_enter Tryz.func104,Tryz.ntmps104
  go_wp2_with fail
  go_ret2
  exact ⟨none,0,by rw [iQ,if_pos (by have:=hl.out;omega)];rfl,by rw [iQ,if_pos (by have:=hl.out;omega)];exact zC _ _,aD.refl _⟩
 by_cases hv:cQ r=true
 rotate_left
 ·have hv:cQ r=false:=by simpa using hv
  have Hv:=aA hv;clear hv
  go_enter Tryz.func104,Tryz.ntmps104
  go_wp2_with fail
  refine HV.out.mono ?_
  rintro e w1 ⟨rfl,h1⟩
  have E1:=aA h1;clear h1
  rw [Hv.out]
  go_wp2_with fail
  go_ret2
  exact ⟨none,0,by rw [iQ,if_neg (by have:=hl.out;omega),if_neg (by rw [Hv.out];simp)];rfl,by rw [iQ,if_neg (by have:=hl.out;omega),if_neg (by rw [Hv.out];simp)];exact zC _ _,E1.out⟩
 have Hv:=aA hv
 have Hall:=aA (show r.all bO=true by simp [cQ] at hv;simpa using hv.2);clear hv
 go_enter Tryz.func104,Tryz.ntmps104
 go_wp2_with fail
 refine HV.out.mono ?_
 rintro e w1 ⟨rfl,h1⟩
 have E1:=aA h1;clear h1 HV
 rw [Hv.out]
 go_wp2_with fail
 go_loopw [4,18] (fun b k w'=>∃ (i l:Nat) (A':Option Addr) (c':Nat),i≤n∧k=.int .i64 i∧b=.slice A' l c'∧l≤131*i∧Hid (Yo w w' A' l c' (dK (r.take i)))∧Hid (aD w w')) (fun _ k _=>n - (intOf k).toNat)
 case atStart=>exact ⟨0,0,none,0,by omega,rfl,rfl,by omega,⟨rfl,zC _ _⟩,E1.out⟩
 case round=>
  obtain ⟨i,l,A',c',bE,rfl,rfl,zbb,ho,aT⟩:=hrel
  by_cases h:i<n
  ·obtain ⟨b0,off,v,rfl,hx,oY,d0,d1,d2⟩:=(Ha.out.ext aT.out).get h
   obtain ⟨wo,rfl⟩ : ∃ wo:World,wo=wr:=⟨_,rfl⟩
   have Hx:=aA hx
   have zhn:=aA (Hw.out v (List.mem_of_getElem? hx))
   have M_:=aA (Em _ (Vw Hall.out (i+1)))
   have uU:=z_ Hall.out hx
   have E_:=aA (Pe (r.take i) v)
   have sB:=aA (take_snoc'' r i v hx);clear hx
   have hB:=vQ.new wo [.int .i64 v.k,.int .i64 v.i,.string v.t] 85 (0,0)
   have HB:=aA (aL.new wo 85 #[.int .i64 v.k,.int .i64 v.i,.string v.t])
   have HEb:=aA (aT.out.trans (aD.alloc wo (.cells #[.int .i64 v.k,.int .i64 v.i,.string v.t] 85)))
   have Hob:=aA (ho.out.2.alloc (.cells #[.int .i64 v.k,.int .i64 v.i,.string v.t] 85))
   have Hol:=aA ho.out.1
   clear hB ho
   rcases Pv v uU with ⟨hk,hp⟩ | ⟨hk,hp,ht⟩
   ·have Hk:=aA hk;have Hp:=aA hp;clear hk hp uU
    have pZ:=mC (wo.alloc (.cells #[.int .i64 v.k,.int .i64 v.i,.string v.t] 85)) [1] 5 (wo.heap.size+1) (zP _ _)
    have gG:=aA pZ;clear pZ
    have Hoc:=aA (Hob.out.alloc (.cells #[.int .u8 1] 5))
    have HBc:=aA (HB.out.ext (aD.alloc _ (.cells #[.int .u8 1] 5)))
    obtain ⟨vk,vi,vt⟩:=v
    obtain rfl:vk=1:=Hk.out
    have e0:=HB.out.cell 0
    go_wp2_with (at_builtin;refine j4 rfl (.tmp 22) (.tmp 26) rfl w (HEb.out.trans (aD.alloc _ _)) _ l _ (dK (r.take i)) rfl ⟨Hol.out,Hoc.out⟩ _ 1 1 [1] rfl gG.out (by omega) ?_;intro A8 c8 w8 own8 E8 K8;clear Hob Hoc gG Ha;have Sc:=aA (K8.out _ _ _ HBc.out (by decide));clear HB HBc K8;have e0:=Sc.out.cell 0;have e1:=Sc.out.cell 1;simp only [List.getElem?_toArray,List.getElem?_cons_zero,List.getElem?_cons_succ] at e0 e1)
    rw [Tt zhn.out.2]
    go_loopw [4,8] (fun b k w'=>∃ (j:Nat) (A':Option Addr) (c':Nat),((j<8∧k=.int .i64 ((56 - 8*j:Nat):Int))∨(j=8∧k=.int .i64 (-8)))∧b=.slice A' (l+1+j) c'∧Hid (Yo w w' A' (l+1+j) c' (dK (r.take i) ++ 1 :: (vC (pB vi)).take j))∧Hid (aD w w')) (fun _ k _=>(intOf k+8).toNat)
    case atStart=>exact ⟨0,A8,c8,.inl ⟨by omega,rfl⟩,rfl,own8.out,E8.out⟩
    case round=>
     obtain ⟨j,A3,c3,hk,rfl,ho3,hw3⟩:=hrel
     rcases hk with ⟨hj,rfl⟩ | ⟨rfl,rfl⟩
     ·have zkY:(0:Int)≤((56 - 8*j:Nat):Int):=by omega
      have gG:=aA (Sl.cast (mC wr [UInt8.ofNat (pB vi / 2 ^ (56 - 8*j))] 5 wr.heap.size rfl) (y:=.int .u8 ((pB vi:Int) / 2 ^ (56 - 8*j) % 256)) (congrArg (Value.int .u8) (by rw [UInt8.toNat_ofNat'];norm_cast)))
      go_wp2_with (at_builtin;refine j4 rfl (.tmp 39) (.tmp 44) rfl w (hw3.out.trans (aD.alloc _ _)) _ (l+1+j) _ _ rfl ⟨ho3.out.1,ho3.out.2.alloc _⟩ _ 1 1 [_] rfl gG.out (by omega) ?_;intro A4 c4 w4 own4 E4 K4)
      go_roundw
      case rel=>
       refine ⟨j+1,A4,c4,?_,rfl,?_,E4.out⟩
       ·by_cases h7:j=7
        ·subst h7;exact .inr ⟨rfl,by go_num⟩
        ·refine .inl ⟨by omega,?_⟩
         rw [show ((56 - 8*(j+1):Nat):Int)=((56 - 8*j:Nat):Int) - 8 by omega]
       ·have h9:=own4.out
        rw [List.append_assoc,List.cons_append,← Sn _ _ hj] at h9
        exact h9
      case measure=>simp [intOf];omega
     ·go_wp2_with fail
      go_roundw
      case rel=>
       have fin:dK (r.take (i+1))=dK (r.take i) ++ 1 :: (vC (pB vi)).take 8:=by rw [sB.out,E_.out,Hp.out];rfl
       have h9:=ho3.out;rw [← fin] at h9
       exact ⟨i+1,l+1+8,A3,c3,by omega,by go_num,rfl,by have:=h9.1;have:=M_.out;have:=List.length_take_le (i+1) r;omega,h9,hw3.out⟩
      case measure=>simp [intOf];omega
   ·have Hk:=aA hk;have Hp:=aA hp;have Ht:=aA ht;clear hk hp ht uU
    have gG:=aA (mC (wo.alloc (.cells #[.int .i64 v.k,.int .i64 v.i,.string v.t] 85)) [2] 5 (wo.heap.size+1) (zP _ _))
    have Hoc:=aA (Hob.out.alloc (.cells #[.int .u8 2] 5))
    have HBc:=aA (HB.out.ext (aD.alloc _ (.cells #[.int .u8 2] 5)))
    obtain ⟨vk,vi,vt⟩:=v
    obtain rfl:vk=2:=Hk.out
    go_wp2_with (at_builtin;refine j4 rfl (.tmp 22) (.tmp 26) rfl w (HEb.out.trans (aD.alloc _ _)) _ l _ (dK (r.take i)) rfl ⟨Hol.out,Hoc.out⟩ _ 1 1 [2] rfl gG.out (by omega) ?_;intro A8 c8 w8 own8 E8 K8;clear Hob Hoc gG Ha;have Sc:=aA (K8.out _ _ _ HBc.out (by decide));clear HB HBc K8;have e0:=Sc.out.cell 0;have e2:=Sc.out.cell 2;simp only [List.getElem?_toArray,List.getElem?_cons_zero,List.getElem?_cons_succ] at e0 e2)
    clear e0 e2
    go_loopw [4,9,49] (fun b _ k w'=>∃ (j l':Nat) (A':Option Addr) (c':Nat),j≤vt.size∧k=.int .i64 j∧b=.slice A' l' c'∧l'≤l+1+2*j∧Hid (Yo w w' A' l' c' (dK (r.take i) ++ 2 :: tC (vt.data.toList.take j)))∧Hid (aD w w')∧Hid (aL w' wo.heap.size 85 #[.int .i64 2,.int .i64 vi,.string vt])) (fun _ _ k _=>vt.size - (intOf k).toNat)
    case atStart=>exact ⟨0,l+1,A8,c8,by omega,rfl,rfl,by omega,own8.out,E8.out,Sc.out⟩
    case round=>
     obtain ⟨j,l3,A3,c3,hj,rfl,rfl,zeC,ho3,hw3,qm⟩:=hrel
     have e2:=qm.out.cell 2
     simp only [List.getElem?_toArray,List.getElem?_cons_zero,List.getElem?_cons_succ] at e2
     have Yi:=aA Ht.out
     by_cases h2:j<vt.size
     ·have zU:=aA (qm.out.ext (aD.alloc _ (.cells #[.int .u8 (vt[j].toNat:Int)] 5)))
      have zio:=aA (Mu vt j h2)
      have gG:=aA (mC wr [vt[j]] 5 wr.heap.size rfl)
      have hts':=Ht.out
      have Zq:(0:Int)≤(j:Int):=by omega
      have ziK:(j:Int)<(vt.size:Int):=by omega
      by_cases hz:(vt[j].toNat:Int)=0
      ·have hz':=aA hz
       have gG:=aA (Sl.cast gG.out (y:=.int .u8 0) (congrArg (Value.int .u8) hz.symm))
       rw [hz] at zU
       go_wp2_with (at_builtin;first
        | (refine j4 rfl (.tmp 52) (.tmp 57) rfl w (hw3.out.trans (aD.alloc _ _)) _ l3 _ _ rfl ⟨ho3.out.1,ho3.out.2.alloc _⟩ _ 1 1 [_] rfl gG.out (by have:=Yi.out;omega) ?_;intro A4 c4 w4 own4 E4 K4;have Il:=aA (K4.out _ _ _ zU.out (by decide));clear K4;have e3:=Il.out.cell 2;simp only [List.getElem?_toArray,List.getElem?_cons_zero,List.getElem?_cons_succ] at e3;have Uu:=aA (mC w4 [255] 5 w4.heap.size rfl))
        | (refine j4 rfl (.tmp 64) (.tmp 65) rfl w (E4.out.trans (aD.alloc _ _)) _ (l3+1) _ _ rfl ⟨own4.out.1,own4.out.2.alloc _⟩ _ 1 1 [255] rfl Uu.out (by have:=Yi.out;omega) ?_;intro A6 c6 w6 own6 E6 K6;have zbG:=aA (K6.out _ _ _ (Il.out.ext (aD.alloc _ _)) (by decide));clear K6))
       go_roundw
       case rel=>
        have fin:dK (r.take i) ++ 2 :: tC (vt.data.toList.take (j+1))=dK (r.take i) ++ 2 :: tC (vt.data.toList.take j) ++ [vt[j]] ++ [255]:=by
         have h0:vt[j]=0:=UInt8.toNat_inj.1 (by have:=hz'.out;show _=0;omega)
         rw [zio.out,pM,h0];simp [tC]
        have h9:=own6.out;rw [← fin] at h9
        exact ⟨j+1,l3+1+1,A6,c6,by omega,by go_num,rfl,by omega,h9,E6.out,zbG.out⟩
       case measure=>simp [intOf];omega
      ·have hz':=aA hz
       go_wp2_with (at_builtin;refine j4 rfl (.tmp 52) (.tmp 57) rfl w (hw3.out.trans (aD.alloc _ _)) _ l3 _ _ rfl ⟨ho3.out.1,ho3.out.2.alloc _⟩ _ 1 1 [_] rfl gG.out (by have:=Yi.out;omega) ?_;intro A4 c4 w4 own4 E4 K4;have Il:=aA (K4.out _ _ _ zU.out (by decide));clear K4;have e3:=Il.out.cell 2;simp only [List.getElem?_toArray,List.getElem?_cons_zero,List.getElem?_cons_succ] at e3)
       go_roundw
       case rel=>
        have fin:dK (r.take i) ++ 2 :: tC (vt.data.toList.take (j+1))=dK (r.take i) ++ 2 :: tC (vt.data.toList.take j) ++ [vt[j]]:=by
         have h0:¬ vt[j]=0:=fun e=>hz'.out (by rw [e];rfl)
         rw [zio.out,pM];simp [tC,h0]
        have h9:=own4.out;rw [← fin] at h9
        exact ⟨j+1,l3+1,A4,c4,by omega,by go_num,rfl,by omega,h9,E4.out,Il.out⟩
       case measure=>simp [intOf];omega
     ·have gG:=aA (mC wr [0,0] 5 wr.heap.size rfl)
      go_wp2_with (at_builtin;refine j4 rfl (.tmp 68) (.tmp 69) rfl w (hw3.out.trans (aD.alloc _ _)) _ l3 _ _ rfl ⟨ho3.out.1,ho3.out.2.alloc _⟩ _ 2 2 [0,0] rfl gG.out (by have:=Yi.out;omega) ?_;intro A4 c4 w4 own4 E4 K4)
      go_roundw
      case rel=>
       have fin:dK (r.take (i+1))=dK (r.take i) ++ 2 :: tC (vt.data.toList.take j) ++ [0,0]:=by
        rw [sB.out,E_.out,Hp.out,List.take_of_length_le (l:=vt.data.toList) (by rw [Xi];omega)];simp
       have h9:=own4.out;rw [← fin] at h9
       exact ⟨i+1,l3+2,A4,c4,by omega,by go_num,rfl,by have:=h9.1;have:=M_.out;have:=List.length_take_le (i+1) r;omega,h9,E4.out⟩
      case measure=>simp [intOf];omega
  ·go_wp2_with fail
   go_ret2
   have e:dK (r.take i)=dK r:=by rw [List.take_of_length_le (by have:=hl.out;omega)]
   have h9:=ho.out;rw [e] at h9
   have ep:iQ r=(dK r,0):=by rw [iQ,if_neg (by have:=hl.out;omega),if_pos Hv.out]
   rw [ep]
   obtain ⟨yQ,Cr⟩:=h9
   subst yQ
   exact ⟨A',c',rfl,Cr,aT.out⟩
def cB (w:World) (A:Option Addr) (n:Nat) (xs:List Int):Prop:=n=xs.length∧Sl w A n 1 (xs.map (Value.int .i64))
theorem cB.ext {w w':World} {A:Option Addr} {n:Nat} {xs:List Int} (h:cB w A n xs) (hw:aD w w'):cB w' A n xs:=⟨h.1,h.2.ext hw⟩
theorem cB.len {w:World} {A:Option Addr} {n:Nat} {xs:List Int} (h:cB w A n xs):n=xs.length:=h.1
theorem cB.get {w:World} {A:Option Addr} {n:Nat} {xs:List Int} (h:cB w A n xs) {i:Nat} (hi:i<n):∃ b off x,A=some ⟨b,off,none⟩∧xs[i]?=some x∧b<w.heap.size∧w.cell? ⟨b,off+i,none⟩=some (.int .i64 x):=by
 obtain ⟨b,off,hA,hc⟩:=h.2.2 (by omega)
 have hl:i<xs.length:=by have:=h.1;omega
 have hc:=hc i (.int .i64 xs[i]) (by simp [List.getElem?_eq_getElem hl])
 exact ⟨b,off,xs[i],hA,List.getElem?_eq_getElem hl,World.block_lt_of_cell? w _ hc,hc⟩
theorem cB.own {w:World} {base:Nat} {e:TypeId} {n c:Nat} {A:Option Addr} {xs:List Int} (h:w.ownsRow base e 1 (.slice A n c) n (xs.map (Value.int .i64))):cB w A n xs:=by
 have hs:=Sl.own h
 refine ⟨?_,hs⟩
 have:=hs.1
 rw [List.length_map] at this
 omega
theorem Cj (xs:List Int):aQ (xs.map (Value.int .i64)):=fun v hv=>by
 obtain ⟨x,_,rfl⟩:=List.mem_map.1 hv
 rfl
def zkE (xs:List Int):Prop:=∀ x∈xs,-9223372036854775808≤x∧x≤9223372036854775807
theorem rB:(Tryz.prog.info? 3).map (fun i=>(i.zero,i.size,i.bytes))=some (some (.int .i64 0),1,8):=by kernel_rfl
theorem zdx:(Tryz.prog.info? 3).map (·.size)=some 1:=by kernel_rfl
set_option maxRecDepth 100000 in
theorem Kx (xs:List Int) (A:Option Addr) (n c:Nat) (w:World) (ha:cB w A n xs) (hn:n≤16777216) :
 Calls Tryz.prog 59 #[.slice A n c] w (wN w 3 1 n (xs.map (Value.int .i64))):=by
 obtain ⟨i0,eQ,hz0,hz1,eO⟩:=info_parts rB
 have uE:=mT (P:=Tryz.prog) 23 3 i0 _ Tryz.underlying23 eQ hz0 (by omega) .i64 .i64 n hn
 simp only [hz1] at uE
 have Ha:=aA ha;clear ha hz1 eO hz0 eQ
 have HC:=aA (fun (i:Nat) (h:i=n*1)=>by
  have:(Value.int .i64 0).cells = #[.int .i64 0]:=rfl
  exact this)
 clear HC
 go_enter Tryz.func59,Tryz.ntmps59
 go_wp2_with (refine qL rfl (.tmp 7) (.tmp 8) 23 23 rfl 3 1 Tryz.underlying23 zdx A w.heap.size 0 n n n c rfl rfl _ 3 (heap_alloc_new w _) (xs.map (Value.int .i64)) (Ha.out.ext (aD.alloc w _)).2 (Nat.le_refl _) (by rw [size_madeCells,Nat.zero_add,Ha.out.2.1];omega) (Cj xs) w (aD.alloc w _) (Nat.le_refl _) ?_;intro w1 Nv fM gG)
 go_ret
 refine ⟨_,_,rfl,?_,fM.out⟩
 have hl:=Ha.out.2.1
 have hg:=Nv.out
 rw [zF (by rw [Array.length_toList,size_madeCells];omega)] at hg
 refine ⟨hl,.inr ⟨w.heap.size,n,_,rfl,Nat.le_refl _,hg,Nat.le_refl _,by unfold maxLen;omega,by simpa using hl,?_⟩⟩
 exact List.take_of_length_le (Nat.le_of_eq hl)
def fF (r:List V):List Int→Option (List V)
 | []=>some []
 | c :: cols=>if c<0∨(r.length:Int)≤c then none else (r[c.toNat]?).bind fun v=>(fF r cols).map (v :: ·)
def dZ (r:List V) (cols:List Int):List V × Int:=
 if 30<cols.length then ([],20) else match fF r cols with
  | some l=>(l,0)
  | none=>([],23)
theorem tF (r:List V):∀ (cols:List Int) (i:Nat) (c:Int),cols[i]?=some c→(c<0∨(r.length:Int)≤c)→fF r cols=none
 | [],i,c,h,_=>by simp at h
 |x :: cols,0,c,h,hc=>by
  obtain rfl:x=c:=by simpa using h
  simp [fF,hc]
 |x :: cols,i+1,c,h,hc=>by
  have:=tF r cols i c (by simpa using h) hc
  simp only [fF,this]
  split
  ·rfl
  ·cases r[x.toNat]? <;> rfl
theorem rD (r:List V) (c:Int) (v:V) (hc:¬ (c<0∨(r.length:Int)≤c)) (hv:r[c.toNat]?=some v):∀ (cols:List Int) (l:List V),fF r cols=some l→fF r (cols ++ [c])=some (l ++ [v])
 |[],l,h=>by
  obtain rfl : []=l:=by simpa [fF] using h
  simp [fF,hc,hv]
 |x :: cols,l,h=>by
  simp only [fF,List.cons_append] at h ⊢
  split at h
  ·cases h
  ·rename_i hx
   rw [if_neg hx]
   cases hy:r[x.toNat]? with
   | none=>rw [hy] at h;cases h
   |some y=>
    rw [hy] at h
    simp only [Option.bind_some,Option.map_eq_some_iff] at h ⊢
    obtain ⟨l',hl',rfl⟩:=h
    exact ⟨l' ++ [v],rD r c v hc hv cols l' hl',rfl⟩
theorem tZ (r:List V):∀ (cols:List Int) (l:List V),fF r cols=some l→l.length=cols.length
 |[],l,h=>by
  obtain rfl : []=l:=by simpa [fF] using h
  rfl
 |x :: cols,l,h=>by
  simp only [fF] at h
  split at h
  ·cases h
  ·cases hy:r[x.toNat]? with
   | none=>rw [hy] at h;cases h
   |some y=>
    rw [hy] at h
    simp only [Option.bind_some,Option.map_eq_some_iff] at h
    obtain ⟨l',hl',rfl⟩:=h
    simp [tZ r cols l' hl']
theorem take_snoc' {α:Type} (xs:List α) (i:Nat) (x:α) (h:xs[i]?=some x):xs.take (i+1)=xs.take i ++ [x]:=by
 rw [List.take_add_one,h];rfl
def Fl (w0:World) (e:TypeId) (res:List V × Int) (en:Ending) (w':World):Prop:=
 ∃ A c,en=.returned (.tuple #[.slice A res.1.length c,.int .i64 res.2])∧w'.ownsRow w0.heap.size e 3 (.slice A res.1.length c) res.1.length (aO res.1)∧aD w0 w'
theorem nI (w:World) (base:Nat) (e:TypeId):w.ownsRow base e 3 (.slice none 0 0) 0 (aO []):=World.ownsRow_nil w base e 3
set_option maxRecDepth 100000 in
theorem zT (r:List V) (cols:List Int) (A B:Option Addr) (n m c d:Nat) (w:World) (ha:aW w A n r) (hb:cB w B m cols) (hn:n≤1048576) (hm:m≤1048576) :
 Calls Tryz.prog 141 #[.slice A n c,.slice B m d] w (Fl w 85 (dZ r cols)):=by
 have Ha:=aA ha;have Hb:=aA hb;have hl:=aA (And.intro ha.len hb.len);clear ha hb
 obtain ⟨i0,eQ,hz0,hz1,eO⟩:=info_parts Qw
 by_cases h30:m≤30
 ·go_enter Tryz.func141,Tryz.ntmps141
  go_wp2
  go_loopw [4,5,6,8,14] (fun _ _ o _ k w'=>∃ (i:Nat) (A':Option Addr) (c':Nat),i≤m∧k=.int .i64 i∧o=.slice A' i c'∧Hid (∃ l,fF r (cols.take i)=some l∧w'.ownsRow w.heap.size 85 3 (.slice A' i c') i (aO l))∧Hid (aD w w')) (fun _ _ _ _ k _=>m - (intOf k).toNat)
  case atStart=>exact ⟨0,none,0,by omega,rfl,rfl,⟨[],rfl,nI _ _ _⟩,aD.refl _⟩
  case round=>
   obtain ⟨i,A',c',him,rfl,rfl,ho,hw⟩:=hrel
   by_cases h:i<m
   ·obtain ⟨b',off',x,rfl,hx,vS,d0⟩:=(Hb.out.ext hw.out).get h
    have Hx:=aA hx;clear hx
    have hi0':(0:Int)≤(i:Int):=by omega
    have hi1':(i:Int)<(m:Int):=by omega
    by_cases hbad:x<0∨(n:Int)≤x
    ·have hp:=aA (tF r cols i x Hx.out (by have:=hl.out.1;omega))
     rcases hbad with hbad | hbad
     ·go_wp2_with fail
      go_ret2
      exact ⟨none,0,by rw [dZ,if_neg (by have:=hl.out.2;omega),hp.out];rfl,by rw [dZ,if_neg (by have:=hl.out.2;omega),hp.out];exact nI _ _ _,hw.out⟩
     ·have zhg:¬ x<0:=by omega
      go_wp2_with fail
      go_ret2
      exact ⟨none,0,by rw [dZ,if_neg (by have:=hl.out.2;omega),hp.out];rfl,by rw [dZ,if_neg (by have:=hl.out.2;omega),hp.out];exact nI _ _ _,hw.out⟩
    ·obtain ⟨j,rfl⟩:=Int.eq_ofNat_of_zero_le (show 0≤x by omega)
     have hj:j<n:=by omega
     have ziK:(j:Int)<(n:Int):=by omega
     have Zq:(0:Int)≤(j:Int):=by omega
     clear hbad
     obtain ⟨b,off,v,rfl,hv,oY,c0,c1,c2⟩:=(Ha.out.ext hw.out).get hj
     have Hv:=aA hv;clear hv
     obtain ⟨l,pZ,cH⟩:=ho.out
     have Hl:=aA pZ;have Hown:=aA cH;clear pZ cH
     have Hsrc:=aA (aW.lit wr [v] 85).2
     go_wp2_with (at_builtin;refine dJ rfl (.tmp 26) (.tmp 31) _ rfl 85 i0 _ 3 32 Tryz.underlying28 eQ hz0 hz1 eO rfl (by omega) w (hw.out.trans (aD.alloc _ _)) _ i (aO l) rfl (Hown.out.alloc _) _ 1 1 (aO [v]) rfl Hsrc.out (fB _) (by unfold maxLen;omega) (by omega) ?_;intro A8 c8 w8 own8 E8 _ _)
     go_roundw
     case rel=>exact ⟨i+1,A8,c8,by omega,by go_num,rfl,⟨l ++ [v],by rw [take_snoc' cols i _ Hx.out];exact rD r j v (by have:=hl.out.1;omega) Hv.out _ _ Hl.out,by rw [nT];exact own8.out⟩,E8.out⟩
     case measure=>simp [intOf];omega
   ·go_wp2_with fail
    go_ret2
    obtain ⟨l,pZ,cH⟩:=ho.out
    have him':i=m:=by omega
    rw [List.take_of_length_le (by have:=hl.out.2;omega)] at pZ
    have cZ:=tZ r cols l pZ
    have e:i=l.length:=by have:=hl.out.2;omega
    have ep:dZ r cols=(l,0):=by rw [dZ,if_neg (by have:=hl.out.2;omega),pZ]
    rw [ep]
    refine ⟨A',c',?_,?_,hw.out⟩
    ·rw [e];rfl
    ·rw [e] at cH;exact cH
 ·go_enter Tryz.func141,Tryz.ntmps141
  go_wp2
  go_ret2
  exact ⟨none,0,by rw [dZ,if_pos (by have:=hl.out.2;omega)];rfl,by rw [dZ,if_pos (by have:=hl.out.2;omega)];exact nI _ _ _,aD.refl _⟩
set_option maxRecDepth 100000 in
theorem vJ (r:List V) (cols:List Int) (A B:Option Addr) (n m c d:Nat) (w:World) (ha:aW w A n r) (hb:cB w B m cols) (hn:n≤1048576) (hm:m≤1048576) :
 Calls Tryz.prog 18 #[.slice A n c,.slice B m d] w (Fl w 85 (dZ r cols)):=by
 have Ha:=aA ha;have Hb:=aA hb;have hl:=aA (And.intro ha.len hb.len);clear ha hb
 obtain ⟨i0,eQ,hz0,hz1,eO⟩:=info_parts Qw
 by_cases h30:m≤30
 ·go_enter Tryz.func18,Tryz.ntmps18
  go_wp2
  go_loopw [4,5,6,7] (fun _ _ o k w'=>∃ (i:Nat) (A':Option Addr) (c':Nat),i≤m∧k=.int .i64 i∧o=.slice A' i c'∧Hid (∃ l,fF r (cols.take i)=some l∧w'.ownsRow w.heap.size 85 3 (.slice A' i c') i (aO l))∧Hid (aD w w')) (fun _ _ _ k _=>m - (intOf k).toNat)
  case atStart=>exact ⟨0,none,0,by omega,rfl,rfl,⟨[],rfl,nI _ _ _⟩,aD.refl _⟩
  case round=>
   obtain ⟨i,A',c',him,rfl,rfl,ho,hw⟩:=hrel
   by_cases h:i<m
   ·obtain ⟨b',off',x,rfl,hx,vS,d0⟩:=(Hb.out.ext hw.out).get h
    have Hx:=aA hx;clear hx
    have hi0':(0:Int)≤(i:Int):=by omega
    have hi1':(i:Int)<(m:Int):=by omega
    by_cases hbad:x<0∨(n:Int)≤x
    ·have hp:=aA (tF r cols i x Hx.out (by have:=hl.out.1;omega))
     rcases hbad with hbad | hbad
     ·go_wp2_with fail
      go_ret2
      exact ⟨none,0,by rw [dZ,if_neg (by have:=hl.out.2;omega),hp.out];rfl,by rw [dZ,if_neg (by have:=hl.out.2;omega),hp.out];exact nI _ _ _,hw.out⟩
     ·have zhg:¬ x<0:=by omega
      go_wp2_with fail
      go_ret2
      exact ⟨none,0,by rw [dZ,if_neg (by have:=hl.out.2;omega),hp.out];rfl,by rw [dZ,if_neg (by have:=hl.out.2;omega),hp.out];exact nI _ _ _,hw.out⟩
    ·obtain ⟨j,rfl⟩:=Int.eq_ofNat_of_zero_le (show 0≤x by omega)
     have hj:j<n:=by omega
     have ziK:(j:Int)<(n:Int):=by omega
     have Zq:(0:Int)≤(j:Int):=by omega
     clear hbad
     obtain ⟨b,off,v,rfl,hv,oY,c0,c1,c2⟩:=(Ha.out.ext hw.out).get hj
     have Hv:=aA hv;clear hv
     obtain ⟨l,pZ,cH⟩:=ho.out
     have Hl:=aA pZ;have Hown:=aA cH;clear pZ cH
     have Hsrc:=aA (aW.lit wr [v] 85).2
     go_wp2_with (at_builtin;refine dJ rfl (.tmp 31) (.tmp 39) _ rfl 85 i0 _ 3 32 Tryz.underlying28 eQ hz0 hz1 eO rfl (by omega) w (hw.out.trans (aD.alloc _ _)) _ i (aO l) rfl (Hown.out.alloc _) _ 1 1 (aO [v]) rfl Hsrc.out (fB _) (by unfold maxLen;omega) (by omega) ?_;intro A8 c8 w8 own8 E8 _ _)
     go_roundw
     case rel=>exact ⟨i+1,A8,c8,by omega,by go_num,rfl,⟨l ++ [v],by rw [take_snoc' cols i _ Hx.out];exact rD r j v (by have:=hl.out.1;omega) Hv.out _ _ Hl.out,by rw [nT];exact own8.out⟩,E8.out⟩
     case measure=>simp [intOf];omega
   ·go_wp2_with fail
    go_ret2
    obtain ⟨l,pZ,cH⟩:=ho.out
    have him':i=m:=by omega
    rw [List.take_of_length_le (by have:=hl.out.2;omega)] at pZ
    have cZ:=tZ r cols l pZ
    have e:i=l.length:=by have:=hl.out.2;omega
    have ep:dZ r cols=(l,0):=by rw [dZ,if_neg (by have:=hl.out.2;omega),pZ]
    rw [ep]
    refine ⟨A',c',?_,?_,hw.out⟩
    ·rw [e];rfl
    ·rw [e] at cH;exact cH
 ·go_enter Tryz.func18,Tryz.ntmps18
  go_wp2
  go_ret2
  exact ⟨none,0,by rw [dZ,if_pos (by have:=hl.out.2;omega)];rfl,by rw [dZ,if_pos (by have:=hl.out.2;omega)];exact nI _ _ _,aD.refl _⟩
end Go.Proofs.YtahdiiaadjdmcaaGreat
