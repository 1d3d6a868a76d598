import Derived.Test.YtahdiiaadjdmcaaGreatGaH
namespace Go.Proofs.YtahdiiaadjdmcaaGreat
open Go.RowKit
theorem Ew {T:List Pl} {i:Nat} {p:Pl} (h:T[i]?=some p):ents (T.take (i+1))=ents (T.take i) ++ (ent p).toList:=by
 obtain ⟨hi,e⟩:=List.getElem?_eq_some_iff.1 h
 rw [List.take_succ_eq_append_getElem hi,e]
 unfold ents
 rw [List.filterMap_append]
 congr 1
theorem Ho (T:List Pl) (i:Nat):(ents (T.take i)).length≤(ents T).length:=by
 unfold ents
 exact ((List.take_sublist i T).filterMap ent).length_le
structure sV (w0 w:World) (B:Nat→Prop) (x nt most size probes N:Nat) (T:List Pl) (i:Nat) (T':List Pl) (Ks':List Value):Prop where
 ix:fO w (fun b=>B b∨b=nt) x nt most size 0 probes T' Ks'
 good:kQ T'
 perm:List.Perm (ents T') (ents (T.take i))
 gone:bM T'=0
 len:T'.length=N
 keys:∀ p∈T',p.key.length≤4096
 chg:aF (fun b=>b=x) w0 w
theorem sV.go {w0 w w':World} {B:Nat→Prop} {x nt most size probes N:Nat} {T:List Pl} {i:Nat} {T':List Pl} {Ks':List Value} (h:sV w0 w B x nt most size probes N T i T' Ks') (hw:aD w w'):sV w0 w' B x nt most size probes N T i T' Ks':=
 ⟨h.ix.ext hw,h.good,h.perm,h.gone,h.len,h.keys,h.chg.trans' (aF.of hw)⟩
theorem sV.skip {w0 w:World} {B:Nat→Prop} {x nt most size probes N:Nat} {T:List Pl} {i:Nat} {T':List Pl} {Ks':List Value} (h:sV w0 w B x nt most size probes N T i T' Ks') {p:Pl} (hp:T[i]?=some p) (h1:p.st≠1):sV w0 w B x nt most size probes N T (i+1) T' Ks':=
 ⟨h.ix,h.good,by rw [Ew hp,ent,if_neg h1];simpa using h.perm,h.gone,h.len,h.keys,h.chg⟩
theorem sV.lay {w0 w:World} {B:Nat→Prop} {x nt most size probes N:Nat} {T:List Pl} {i f:Nat} {T':List Pl} {Ks':List Value} (h:sV w0 w B x nt most size probes N T i T' Ks') {p:Pl} (hp:T[i]?=some p) (h1:p.st=1)
 (hfree:nY T' p.key f) (j8:∀ (i:Nat) (q:Pl),T'[i]?=some q→q.st=1→q.key≠p.key) (i4:(ents T).length<N) (hk:p.key.length≤4096) (aZ:x≠nt) (hnt:w0.heap.size≤nt) {K:Value} (hK:bF w B K p.key) :
 f<T'.length∧sV w0 (yF w nt f ⟨1,p.key,p.num⟩ K) B x nt most size probes N T (i+1) (T'.set f ⟨1,p.key,p.num⟩) (Ks'.set f K):=by
 obtain ⟨_,q,hq,_⟩:=id hfree
 have yB:f<T'.length:=(List.getElem?_eq_some_iff.1 hq).1
 have cZ:=h.perm.length_eq
 have hi:ents (T.take (i+1))=ents (T.take i) ++ [(p.key,p.num)]:=by rw [Ew hp,ent,if_pos h1];rfl
 have Lr:=Ho T (i+1)
 rw [hi,List.length_append,List.length_cons,List.length_nil] at Lr
 obtain ⟨g1,g2,q',hq',g3⟩:=Iz (n:=p.num) h.good hfree j8 (by rw [h.gone,h.len];omega)
 have hg:=h.gone
 refine ⟨yB,h.ix.put aZ yB ⟨1,p.key,p.num⟩ K (hK.mono fun g hg=>.inl hg),g1,?_,by omega,by rw [List.length_set];exact h.len,fun r hr=>?_,h.chg.trans (C:=fun g=>g=nt) (rP _ _ _ _ _) fun g hg hl=>by subst hg;omega⟩
 ·rw [hi]
  exact g2.trans ((List.Perm.cons _ h.perm).trans (List.perm_append_comm (l₁:=[(p.key,p.num)])))
 ·rcases List.mem_or_eq_of_mem_set hr with hr | rfl
  ·exact h.keys r hr
  ·exact hk
theorem sV.new {w0 w:World} {B:Nat→Prop} {x nt most size probes N:Nat} {T:List Pl} {i:Nat} {T':List Pl} {Ks':List Value} (h:sV w0 w B x nt most size probes N T i T' Ks') {p:Pl} (hp:T[i]?=some p) (h1:p.st=1) (hG:kQ T) :
 ∃ f,vW T' p.key=(none,some f)∧nY T' p.key f∧∀ (i:Nat) (q:Pl),T'[i]?=some q→q.st=1→q.key≠p.key:=by
 rcases mB h.good p.key with ⟨j,q,_,hq,hq1,hqk⟩ | ⟨f,h2,h3,h4⟩
 ·have hm:=h.perm.mem_iff.1 (iO.2 ⟨j,q,hq,hq1,hqk,rfl⟩)
  obtain ⟨k,r,hr,hr1,hrk,_⟩:=iO.1 hm
  rw [List.getElem?_take] at hr
  split at hr
  ·rename_i hki
   exact absurd (hG.keys k i r p hr hp hr1 h1 hrk) (by omega)
  ·cases hr
 ·exact ⟨f,h2,h3,h4⟩
theorem jH.chg {w w':World} {B:Nat→Prop} {tb x:Nat} {T:List Pl} {Ks:List Value} {cs:Array Value} (h:jH w B tb T Ks) (hb:aL w x 189 cs) (aZ:x≠tb) (hc:aF (fun b=>b=x) w w'):jH w' B tb T Ks:=
 ⟨hc.blk h.blk (Ne.symm aZ),h.len,fun i p K h1 h2=>(h.keys i p K h1 h2).keep hc fun A n c e a ha=>(h.keys i p K h1 h2).ne hb (by decide) A n c e a ha,h.inB⟩
set_option maxHeartbeats 1000000 in
set_option maxRecDepth 100000 in
theorem Zs {w:World} {B:Nat→Prop} {x tb most size marks probes:Nat} {T:List Pl} {Ks:List Value} (hI:fO w B x tb most size marks probes T Ks) (hG:kQ T) (oZ:(ents T).length=size) (hl:T.length≤4194400) (hs4:4*size≤3*T.length) (hk:∀ p∈T,p.key.length≤4096) (aZ:x≠tb) :
 Calls Tryz.prog 154 #[.pointer (some ⟨x,0,none⟩)] w fun e w'=>e=.returned (.tuple #[])∧∃ T' Ks',sV w w' B x w.heap.size most size probes (if size*2+2 > T.length then T.length*2 else T.length) T T.length T' Ks':=by
 obtain ⟨pw,iD,oK⟩:=hI.pow
 have zis:0<T.length:=hG.pos
 obtain ⟨N,hN⟩ : ∃ N,N=if size*2+2 > T.length then T.length*2 else T.length:=⟨_,rfl⟩
 have zh3:∃ k,N=2 ^ k∧k≤40:=by
  have bC:pw<23:=(Nat.pow_lt_pow_iff_right (a:=2) (by omega)).1 (by rw [← iD];omega)
  rw [hN];split
  ·exact ⟨pw+1,by rw [iD,Nat.pow_succ],by omega⟩
  ·exact ⟨pw,iD,oK⟩
 have i4:size<N∧0<N∧N≤8388800:=by rw [hN];split <;> omega
 rw [← hN]
 obtain ⟨i0,eQ,hz0,hz1,eO⟩:=info_parts Wv
 have uE:=fun (w:World)=>run_make (P:=Tryz.prog) (w:=w) 187 194 i0 _ Tryz.underlying187 eQ hz0 .i64 .i64 (N:Int) (N:Int) (by omega) (by omega) (by rw [eO];omega) (by omega)
 simp only [hz1,Int.toNat_natCast] at uE
 have hx:=hI.inB
 have Gh:=hI.blk.lt
 have a4:w.cell? ⟨x,4,none⟩=some (.slice (some ⟨tb,0,none⟩) T.length T.length):=hI.blk.cell 4
 have a1:w.cell? ⟨x,1,none⟩=some (.int .i64 size):=hI.blk.cell 1
 have a2:w.cell? ⟨x,2,none⟩=some (.int .i64 marks):=hI.blk.cell 2
 have f2:w.frozen? ⟨x,2,none⟩=false:=hI.blk.frozen 2
 have f4:w.frozen? ⟨x,4,none⟩=false:=hI.blk.frozen 4
 have zeZ:=Cg N i4.2.1
 have HS:=aA (show sV w (((w.setCell ⟨x,4,none⟩ (.slice (some ⟨w.heap.size,0,none⟩) N N)).setCell ⟨x,2,none⟩ (.int .i64 0)).alloc (.cells (madeCells #[.int .u8 0,.slice none 0 0,.int .i64 0] (N*3)) 194)) B x w.heap.size most size probes N T 0 (List.replicate N ⟨0,[],0⟩) (List.replicate N (.slice none 0 0)) from by
  have hs:((w.setCell ⟨x,4,none⟩ (.slice (some ⟨w.heap.size,0,none⟩) N N)).setCell ⟨x,2,none⟩ (.int .i64 0)).heap.size=w.heap.size:=by simp
  have ht:=aL.new ((w.setCell ⟨x,4,none⟩ (.slice (some ⟨w.heap.size,0,none⟩) N N)).setCell ⟨x,2,none⟩ (.int .i64 0)) 194 (madeCells #[.int .u8 0,.slice none 0 0,.int .i64 0] (N*3))
  rw [hs] at ht
  refine ⟨⟨?_,jH.made ht (.inr rfl),by rw [List.length_replicate];exact zh3,.inl hx⟩,zeZ.1,by rw [zeZ.2.1,List.take_zero];exact .nil,zeZ.2.2,List.length_replicate,fun p hp=>by rw [(List.mem_replicate.1 hp).2];exact Nat.zero_le _,(aF.setCell (B:=fun b=>b=x) (aF.setCell (B:=fun b=>b=x) (aF.refl _ w) (p:=⟨x,4,none⟩) (.inl rfl) _) (p:=⟨x,2,none⟩) (.inl rfl) _).alloc _⟩
  rw [List.length_replicate]
  exact ((hI.blk.set_ 4 _).set_ 2 _).ext (aD.alloc _ _))
 have s_:((size:Int)+1)*2 > (T.length:Int)∨¬ ((size:Int)+1)*2 > (T.length:Int):=by omega
 have HX:=aA hI.blk;have HT:=aA hI.tab;have HG:=aA hG;have HK:=aA hk;have iZ:=aA oZ;have zh:=aA (show x≠w.heap.size by omega)
 clear hI hG oZ hk eQ hz0 hz1 eO iD oK zh3 zeZ
 by_cases hc:(T.length:Int)<((size:Int)+1)*2
 ·have zfW:(N:Int)=(T.length:Int)*2:=by rw [if_pos (by omega)] at hN;omega
  rw [zfW] at uE
  clear hN s_
  go_enter Tryz.func154,Tryz.ntmps154
  go_wp2_with fail
  clear uE a1 a2 a4 f2 f4
  generalize ((w.setCell ⟨x,4,none⟩ (.slice (some ⟨w.heap.size,0,none⟩) N N)).setCell ⟨x,2,none⟩ (.int .i64 0)).alloc (.cells (madeCells #[.int .u8 0,.slice none 0 0,.int .i64 0] (N*3)) 194)=W1 at *
  go_loopw [34] (fun s34 w'=>∃ (i:Nat) (T':List Pl) (Ks':List Value),i≤T.length∧s34=.int .i64 i∧Hid (sV w w' B x w.heap.size most size probes N T i T' Ks')) (fun s34 _=>T.length - (intOf s34).toNat)
  case atStart=>exact ⟨0,_,_,by omega,rfl,HS.out⟩
  case round=>
   obtain ⟨i,T',Ks',bE,rfl,hA⟩:=hrel
   clear HS
   by_cases h:i<T.length
   ·obtain ⟨p,hp⟩ : ∃ p,T[i]?=some p:=⟨_,List.getElem?_eq_getElem h⟩
    have HTr:=HT.out.chg HX.out aZ hA.out.chg
    obtain ⟨A5,n5,c5,b0,b1,b2,hK5,hKs⟩:=HTr.at_ hp
    have zf7:=aA (HTr.keys i p _ hp hKs)
    have yO:=HK.out p (List.mem_of_getElem? hp)
    have HP:=aA hp
    have zeo:=aA hK5
    clear HTr hKs hp hK5
    obtain ⟨st,pk,pn⟩:=p
    dsimp only at b0 b1 b2 yO
    go_upto_region 8 with fail
    have Nn:=aA (aD.alloc wr (.cells #[.int .u8 (st:Int),.slice A5 n5 c5,.int .i64 pn] 194))
    have Mb:=aA (aL.new wr 194 #[.int .u8 (st:Int),.slice A5 n5 c5,.int .i64 pn])
    generalize wr.alloc (.cells #[.int .u8 (st:Int),.slice A5 n5 c5,.int .i64 pn] 194)=W5 at *
    clear b0 b1 b2
    have q0:W5.cell? ⟨wr.heap.size,0,none⟩=some (.int .u8 (st:Int)):=Mb.out.cell 0
    by_cases h1:st=1
    ·subst h1
     have q0:W5.cell? ⟨wr.heap.size,0,none⟩=some (.int .u8 1):=q0
     have q1:W5.cell? ⟨wr.heap.size,1,none⟩=some (.slice A5 n5 c5):=Mb.out.cell 1
     have q2:W5.cell? ⟨wr.heap.size,2,none⟩=some (.int .i64 pn):=Mb.out.cell 2
     have HAn:=aA (hA.out.go Nn.out)
     obtain ⟨f,hf,hfree,j8⟩:=hA.out.new HP.out rfl HG.out
     have HF:=aA (mN pk A5 n5 c5 W5 _ x _ _ _ _ _ T' Ks' HAn.out.ix (zeo.out.ext Nn.out) hA.out.good.st (by have h9:=zeo.out.len;dsimp only at h9;omega))
     rw [hf] at HF
     have Sb:=aA (And.intro hfree j8)
     clear hf hfree j8
     have a4:W5.cell? ⟨x,4,none⟩=some (.slice (some ⟨w.heap.size,0,none⟩) T'.length T'.length):=HAn.out.ix.blk.cell 4
     go_wp2_with fail
     refine HF.out.mono ?_
     rintro e w6 ⟨rfl,x6⟩
     simp only [Hd]
     have q0:=aB (x6.cell q0)
     have q1:=aB (x6.cell q1)
     have q2:=aB (x6.cell q2)
     have a4:=aB (x6.cell a4)
     have zc1:=aA x6;clear x6
     obtain ⟨qf,hqf,_⟩:=Sb.out.1.2
     have yB:f<T'.length:=(List.getElem?_eq_some_iff.1 hqf).1
     go_wp2_with fail
     refine aC 7 (by kernel_rfl) (by kernel_rfl) (by kernel_rfl) ?_
     iterate 7
      refine aK (by kernel_rfl) (by kernel_rfl) ?_
      apply Exists.intro
      refine ⟨fun w1 aT=>?_,fun K hK=>?_⟩
      ·go_simp;first | done | rfl
      go_simp;refine hK _ _ ?_;clear hK K
     refine aH ⟨rfl,by kernel_rfl,fun wq hwq=>?_⟩
     simp only [bL,List.drop]
     have Pz:=aA (HAn.out.go (zc1.out.trans hwq))
     obtain ⟨_,_,_,d0,d1,d2,_⟩:=Pz.out.ix.tab.at_ hqf
     have g0:wq.frozen? ⟨w.heap.size,f*3,none⟩=false:=Pz.out.ix.tab.blk.frozen _
     have g1:wq.frozen? ⟨w.heap.size,f*3+1,none⟩=false:=Pz.out.ix.tab.blk.frozen _
     have g2:wq.frozen? ⟨w.heap.size,f*3+2,none⟩=false:=Pz.out.ix.tab.blk.frozen _
     have zfy:=aA (zf7.out.ext (Nn.out.trans (zc1.out.trans hwq)))
     clear q0 q1 q2 a4 hwq
     go_wp2_with fail
     go_roundw
     case rel=>exact ⟨i+1,_,_,by omega,by go_num,(Pz.out.lay HP.out rfl Sb.out.1 Sb.out.2 (by have:=iZ.out;omega) yO zh.out (Nat.le_refl _) zfy.out).2⟩
     case measure=>simp [intOf];omega
    ·have h2:¬ ((st:Int)=1):=by omega
     have zkw:((st:Int) == 1)=false:=by simpa using h2
     go_wp2_with fail
     go_roundw
     case rel=>exact ⟨i+1,T',Ks',by omega,by go_num,(hA.out.go Nn.out).skip HP.out h1⟩
     case measure=>simp [intOf];omega
   ·go_wp2_with fail
    go_end0
    obtain rfl:i=T.length:=by omega
    exact ⟨rfl,T',Ks',hA.out⟩
 ·have zfW:(N:Int)=(T.length:Int):=by rw [if_neg (by omega)] at hN;omega
  rw [zfW] at uE
  clear hN s_
  go_enter Tryz.func154,Tryz.ntmps154
  go_wp2_with fail
  clear uE a1 a2 a4 f2 f4
  generalize ((w.setCell ⟨x,4,none⟩ (.slice (some ⟨w.heap.size,0,none⟩) N N)).setCell ⟨x,2,none⟩ (.int .i64 0)).alloc (.cells (madeCells #[.int .u8 0,.slice none 0 0,.int .i64 0] (N*3)) 194)=W1 at *
  go_loopw [34] (fun s34 w'=>∃ (i:Nat) (T':List Pl) (Ks':List Value),i≤T.length∧s34=.int .i64 i∧Hid (sV w w' B x w.heap.size most size probes N T i T' Ks')) (fun s34 _=>T.length - (intOf s34).toNat)
  case atStart=>exact ⟨0,_,_,by omega,rfl,HS.out⟩
  case round=>
   obtain ⟨i,T',Ks',bE,rfl,hA⟩:=hrel
   clear HS
   by_cases h:i<T.length
   ·obtain ⟨p,hp⟩ : ∃ p,T[i]?=some p:=⟨_,List.getElem?_eq_getElem h⟩
    have HTr:=HT.out.chg HX.out aZ hA.out.chg
    obtain ⟨A5,n5,c5,b0,b1,b2,hK5,hKs⟩:=HTr.at_ hp
    have zf7:=aA (HTr.keys i p _ hp hKs)
    have yO:=HK.out p (List.mem_of_getElem? hp)
    have HP:=aA hp
    have zeo:=aA hK5
    clear HTr hKs hp hK5
    obtain ⟨st,pk,pn⟩:=p
    dsimp only at b0 b1 b2 yO
    go_upto_region 8 with fail
    have Nn:=aA (aD.alloc wr (.cells #[.int .u8 (st:Int),.slice A5 n5 c5,.int .i64 pn] 194))
    have Mb:=aA (aL.new wr 194 #[.int .u8 (st:Int),.slice A5 n5 c5,.int .i64 pn])
    generalize wr.alloc (.cells #[.int .u8 (st:Int),.slice A5 n5 c5,.int .i64 pn] 194)=W5 at *
    clear b0 b1 b2
    have q0:W5.cell? ⟨wr.heap.size,0,none⟩=some (.int .u8 (st:Int)):=Mb.out.cell 0
    by_cases h1:st=1
    ·subst h1
     have q0:W5.cell? ⟨wr.heap.size,0,none⟩=some (.int .u8 1):=q0
     have q1:W5.cell? ⟨wr.heap.size,1,none⟩=some (.slice A5 n5 c5):=Mb.out.cell 1
     have q2:W5.cell? ⟨wr.heap.size,2,none⟩=some (.int .i64 pn):=Mb.out.cell 2
     have HAn:=aA (hA.out.go Nn.out)
     obtain ⟨f,hf,hfree,j8⟩:=hA.out.new HP.out rfl HG.out
     have HF:=aA (mN pk A5 n5 c5 W5 _ x _ _ _ _ _ T' Ks' HAn.out.ix (zeo.out.ext Nn.out) hA.out.good.st (by have h9:=zeo.out.len;dsimp only at h9;omega))
     rw [hf] at HF
     have Sb:=aA (And.intro hfree j8)
     clear hf hfree j8
     have a4:W5.cell? ⟨x,4,none⟩=some (.slice (some ⟨w.heap.size,0,none⟩) T'.length T'.length):=HAn.out.ix.blk.cell 4
     go_wp2_with fail
     refine HF.out.mono ?_
     rintro e w6 ⟨rfl,x6⟩
     simp only [Hd]
     have q0:=aB (x6.cell q0)
     have q1:=aB (x6.cell q1)
     have q2:=aB (x6.cell q2)
     have a4:=aB (x6.cell a4)
     have zc1:=aA x6;clear x6
     obtain ⟨qf,hqf,_⟩:=Sb.out.1.2
     have yB:f<T'.length:=(List.getElem?_eq_some_iff.1 hqf).1
     go_wp2_with fail
     refine aC 7 (by kernel_rfl) (by kernel_rfl) (by kernel_rfl) ?_
     iterate 7
      refine aK (by kernel_rfl) (by kernel_rfl) ?_
      apply Exists.intro
      refine ⟨fun w1 aT=>?_,fun K hK=>?_⟩
      ·go_simp;first | done | rfl
      go_simp;refine hK _ _ ?_;clear hK K
     refine aH ⟨rfl,by kernel_rfl,fun wq hwq=>?_⟩
     simp only [bL,List.drop]
     have Pz:=aA (HAn.out.go (zc1.out.trans hwq))
     obtain ⟨_,_,_,d0,d1,d2,_⟩:=Pz.out.ix.tab.at_ hqf
     have g0:wq.frozen? ⟨w.heap.size,f*3,none⟩=false:=Pz.out.ix.tab.blk.frozen _
     have g1:wq.frozen? ⟨w.heap.size,f*3+1,none⟩=false:=Pz.out.ix.tab.blk.frozen _
     have g2:wq.frozen? ⟨w.heap.size,f*3+2,none⟩=false:=Pz.out.ix.tab.blk.frozen _
     have zfy:=aA (zf7.out.ext (Nn.out.trans (zc1.out.trans hwq)))
     clear q0 q1 q2 a4 hwq
     go_wp2_with fail
     go_roundw
     case rel=>exact ⟨i+1,_,_,by omega,by go_num,(Pz.out.lay HP.out rfl Sb.out.1 Sb.out.2 (by have:=iZ.out;omega) yO zh.out (Nat.le_refl _) zfy.out).2⟩
     case measure=>simp [intOf];omega
    ·have h2:¬ ((st:Int)=1):=by omega
     have zkw:((st:Int) == 1)=false:=by simpa using h2
     go_wp2_with fail
     go_roundw
     case rel=>exact ⟨i+1,T',Ks',by omega,by go_num,(hA.out.go Nn.out).skip HP.out h1⟩
     case measure=>simp [intOf];omega
   ·go_wp2_with fail
    go_end0
    obtain rfl:i=T.length:=by omega
    exact ⟨rfl,T',Ks',hA.out⟩
def Nl (E:List (List UInt8 × Int)) (most:Nat) (key:List UInt8) (v old:Int) (had:Bool) (err:Int) (E':List (List UInt8 × Int)):Prop:=
 (4096<key.length∧old=0∧had=false∧err=51∧E'=E)∨
 (key.length≤4096∧had=true∧err=0∧∃ R,List.Perm E ((key,old) :: R)∧E'=(key,v) :: R)∨
 (key.length≤4096∧(∀ u,(key,u)∉E)∧E.length=most∧old=0∧had=false∧err=52∧E'=E)∨
 (key.length≤4096∧(∀ u,(key,u)∉E)∧E.length<most∧old=0∧had=false∧err=0∧E'=(key,v) :: E)
def nG (w:World) (B:Nat→Prop) (x most probes:Nat) (E:List (List UInt8 × Int)) (key:List UInt8) (v:Int) (e:Ending) (w':World):Prop:=
 ∃ (old:Int) (had:Bool) (err:Int) (E':List (List UInt8 × Int)) (B':Nat→Prop),e=.returned (.tuple #[.int .i64 old,.bool had,.int .i64 err])∧Nl E most key v old had err E'∧E9 w' B' x most (probes+1) E'∧(∀ b,B' b→B b∨w.heap.size≤b)∧aF B w w'
theorem zM {α:Type} {l:List α} {i:Nat} {v:α} (h:l[i]?=some v):l.set i v=l:=by
 obtain ⟨hi,e⟩:=List.getElem?_eq_some_iff.1 h
 rw [← e];exact List.set_getElem_self hi
theorem fO.putNum {w:World} {B:Nat→Prop} {x tb most size marks probes:Nat} {T:List Pl} {Ks:List Value} (h:fO w B x tb most size marks probes T Ks) (aZ:x≠tb) {i:Nat} {p:Pl} (hp:T[i]?=some p) (v:Int):fO (w.setCell ⟨tb,i*3+2,none⟩ (.int .i64 v)) B x tb most size marks probes (T.set i ⟨p.st,p.key,v⟩) Ks:=by
 have hi:i<T.length:=(List.getElem?_eq_some_iff.1 hp).1
 have zkC:i<Ks.length:=by rw [h.tab.len];exact hi
 have hK:Ks[i]?=some Ks[i]:=List.getElem?_eq_getElem zkC
 have e:=z7 T Ks i ⟨p.st,p.key,v⟩ Ks[i] h.tab.len hi
 have s0:(tR T Ks).set (i*3) (.int .u8 (p.st:Int))=tR T Ks:=zM (vK hp hK 0 _ rfl)
 have s1:(tR T Ks).set (i*3+1) Ks[i]=tR T Ks:=zM (vK hp hK 1 _ rfl)
 dsimp only at e
 rw [zM hK,s0,s1] at e
 have hc:=vH w ⟨tb,i*3+2,none⟩ (.int .i64 v)
 refine ⟨by rw [List.length_set];exact h.blk.far (p:=⟨tb,i*3+2,none⟩) aZ _,⟨?_,by rw [List.length_set];exact h.tab.len,fun j q L h1 h2=>?_,h.tab.inB⟩,by rw [List.length_set];exact h.pow,h.inB⟩
 ·rw [e]
  have:=h.tab.blk.set_ (i*3+2) (.int .i64 v)
  simpa using this
 ·have xU:∀ {k:List UInt8},bF w B L k→bF (w.setCell ⟨tb,i*3+2,none⟩ (.int .i64 v)) B L k:=fun ho=>ho.keep hc fun A n c e a ha=>ho.ne h.tab.blk (by decide) A n c e a ha
  by_cases hj:i=j
  ·subst hj
   rw [List.getElem?_set_self hi] at h1
   injection h1 with h1
   subst h1
   exact xU (h.tab.keys i p L hp h2)
  ·rw [List.getElem?_set_ne hj] at h1
   exact xU (h.tab.keys j q L h1 h2)
set_option maxRecDepth 100000 in
theorem Xa {w:World} {B:Nat→Prop} {x most probes:Nat} {E:List (List UInt8 × Int)} (h:E9 w B x most probes E) (hp:probes≤4611686018427387904) (key:List UInt8) (v:Int) (A:Option Addr) (n c:Nat) (hn:n=key.length) (hl:4096<n) (sD:n≤4611686018427387904) :
 Calls Tryz.prog 148 #[.pointer (some ⟨x,0,none⟩),.slice A n c,.int .i64 v] w (nG w B x most probes E key v):=by
 obtain ⟨tb,T,Ks,hI,hG,hE,h1,h2,h3,aZ⟩:=h.at_
 have a3:w.cell? ⟨x,3,none⟩=some (.int .i64 probes):=hI.blk.cell 3
 have f3:w.frozen? ⟨x,3,none⟩=false:=hI.blk.frozen 3
 have hC:=aA (show aF B w (w.setCell ⟨x,3,none⟩ (.int .i64 ((probes:Int)+1))) from (aF.refl _ _).setCell (.inl hI.inB) _)
 have HR:=aA (show Nl E most key v 0 false 51 E from .inl ⟨by omega,rfl,rfl,rfl,rfl⟩)
 have HH:=aA (show E9 (w.setCell ⟨x,3,none⟩ (.int .i64 ((probes:Int)+1))) B x most (probes+1) E from ⟨⟨tb,T,Ks,hI.probe aZ,hG,hE,h1,h2,h3,aZ⟩,h.most,fun b hb=>by simpa using h.old b hb⟩)
 have F9:(4096:Int)<(n:Int):=by omega
 clear h hI hG hE h1 h2 h3 aZ hn
 go_enter Tryz.func148,Tryz.ntmps148
 go_wp2_with fail
 go_ret3
 exact ⟨0,false,51,E,B,rfl,HR.out,HH.out,fun _ hb=>.inl hb,hC.out⟩
set_option maxRecDepth 100000 in
theorem Rv {w:World} {B:Nat→Prop} {x most probes:Nat} {E:List (List UInt8 × Int)} (h:E9 w B x most probes E) (hp:probes≤4611686018427387904) (key:List UInt8) (v:Int) (A:Option Addr) (n c:Nat) (hk:eK w A n key) (ha:dR B A) (hl:n≤4096) (bE:∃ u,(key,u)∈E) :
 Calls Tryz.prog 148 #[.pointer (some ⟨x,0,none⟩),.slice A n c,.int .i64 v] w (nG w B x most probes E key v):=by
 obtain ⟨tb,T,Ks,hI,hG,hE,h1,h2,h3,aZ⟩:=h.at_
 have Ui:eK (w.setCell ⟨x,3,none⟩ (.int .i64 ((probes:Int)+1))) A n key:=(vH w _ _).key hk fun a he hx=>ha a he (by rw [hx];exact hI.inB)
 have HF:=aA (mN key A n c _ B x tb most _ _ _ T Ks (hI.probe aZ) Ui hG.st (by omega))
 have HI:=aA (hI.probe aZ)
 have a3:w.cell? ⟨x,3,none⟩=some (.int .i64 probes):=hI.blk.cell 3
 have f3:w.frozen? ⟨x,3,none⟩=false:=hI.blk.frozen 3
 have HC:=aA (show aF B w (w.setCell ⟨x,3,none⟩ (.int .i64 ((probes:Int)+1))) from (aF.refl _ _).setCell (.inl hI.inB) _)
 have hm:=h.most
 have HO:=aA h.old
 obtain ⟨i,p,hf,hpi,iD,yO⟩ : ∃ (i:Nat) (p:Pl),vW T key=(some i,some i)∧T[i]?=some p∧p.st=1∧p.key=key:=by
  rcases mB hG key with h9 | ⟨f,_,_,h9⟩
  ·exact h9
  ·obtain ⟨u,hu⟩:=bE
   obtain ⟨i,p,q1,q2,q3,_⟩:=iO.1 (hE.mem_iff.2 hu)
   exact absurd q3 (h9 i p q1 q2)
 rw [hf] at HF
 have HP:=aA hpi
 have j0:i<T.length:=(List.getElem?_eq_some_iff.1 hpi).1
 obtain ⟨hG2,R,r1,r2,r3⟩:=Ev (p:=⟨1,key,v⟩) hG hpi iD (.inl ⟨rfl,yO.symm⟩)
 have zae:List.Perm E ((key,p.num) :: R):=yO ▸ (hE.symm.trans r1)
 have qb:=zae.length_eq
 rw [List.length_cons] at qb
 have r3:bM (T.set i ⟨1,key,v⟩)=bM T:=r3
 have Ix:=hk.len
 have HR:=aA (show Nl E most key v p.num true 0 ((key,v) :: R) from .inr (.inl ⟨by omega,rfl,rfl,R,zae,rfl⟩))
 have HW:=aA (show kQ (T.set i ⟨1,key,v⟩)∧List.Perm (ents (T.set i ⟨1,key,v⟩)) ((key,v) :: R)∧4*(((key,v) :: R).length+bM (T.set i ⟨1,key,v⟩))≤3*(T.set i ⟨1,key,v⟩).length∧(T.set i ⟨1,key,v⟩).length≤4*most+8∧(∀ p∈T.set i ⟨1,key,v⟩,p.key.length≤4096)∧x≠tb from
  ⟨hG2,r2,by rw [r3,List.length_set,List.length_cons];omega,by rw [List.length_set];exact h2,fun q hq=>by
   rcases List.mem_or_eq_of_mem_set hq with hq | rfl
   ·exact h3 q hq
   ·dsimp only;omega,aZ⟩)
 have Ou:=aA (And.intro hI.inB hI.tab.inB)
 have HEl:=aA qb
 have zbV:=aA r3
 have zcJ:=aA (And.intro iD yO)
 have F9:¬ (4096:Int)<(n:Int):=by omega
 have eQ:(0:Int)≤(i:Int):=by omega
 have zbr:(i:Int)<(T.length:Int):=by omega
 clear h hk Ui hI hE hf hpi iD yO hG h1 h2 h3 ha aZ hG2 r1 r2 r3 zae qb Ix bE
 go_enter Tryz.func148,Tryz.ntmps148
 go_wp2_with fail
 refine HF.out.mono ?_
 rintro e w1 ⟨rfl,x1⟩
 have X1:=aA x1
 have Ct:=aA (HI.out.ext x1)
 obtain ⟨A5,n5,c5,b0,b1,b2,_,hKs⟩:=Ct.out.tab.at_ HP.out
 have a4:w1.cell? ⟨x,4,none⟩=some (.slice (some ⟨tb,0,none⟩) T.length T.length):=Ct.out.blk.cell 4
 clear x1 a3 f3 b0 b1
 simp only [Hd]
 go_wp2_with fail
 have a4:=aB a4
 have b2:=aB b2
 refine aC 17 (by kernel_rfl) (by kernel_rfl) (by kernel_rfl) ?_
 iterate 17
  refine aK (by kernel_rfl) (by kernel_rfl) ?_
  apply Exists.intro
  refine ⟨fun w1 aT=>?_,fun K hK=>?_⟩
  ·go_simp;first | done | rfl
  go_simp;refine hK _ _ ?_;clear hK K
 refine aH ⟨rfl,by kernel_rfl,fun wq hwq=>?_⟩
 simp only [bL,List.drop]
 have HIq:=aA (Ct.out.ext hwq)
 obtain ⟨_,_,_,d0,d1,d2,hKq,hKs'⟩:=HIq.out.tab.at_ HP.out
 have g2:wq.frozen? ⟨tb,i*3+2,none⟩=false:=HIq.out.tab.blk.frozen _
 have XQ:=aA (X1.out.trans hwq)
 clear a4 b2 hwq
 go_wp2_with fail
 go_ret3
 have ziv:=HIq.out.putNum HW.out.2.2.2.2.2 HP.out v
 rw [zcJ.out.1,zcJ.out.2,HEl.out,← zbV.out] at ziv
 have zfe:=(HC.out.trans' (aF.of XQ.out)).setCell (p:=⟨tb,i*3+2,none⟩) (.inl Ou.out.2) (.int .i64 v)
 have zfB:=HEl.out
 exact ⟨p.num,true,0,_,B,rfl,HR.out,⟨⟨tb,_,Ks,ziv,HW.out.1,HW.out.2.1,HW.out.2.2.1,HW.out.2.2.2.1,HW.out.2.2.2.2.1,HW.out.2.2.2.2.2⟩,⟨by rw [List.length_cons];omega,hm.2⟩,fun b hb=>Nat.lt_of_lt_of_le (HO.out b hb) zfe.size⟩,fun _ hb=>.inl hb,zfe⟩
theorem bF.lt {w:World} {B:Nat→Prop} {K:Value} {k:List UInt8} (h:bF w B K k):bF w (fun b=>B b∧b<w.heap.size) K k:=by
 obtain ⟨A,n,c,rfl,h2,h3⟩:=h
 refine ⟨A,n,c,rfl,h2,fun a ha=>⟨h3 a ha,?_⟩⟩
 subst ha
 rcases h2.2 with ⟨h4,_⟩ | ⟨g,cap,cur,h4,_,h5,_⟩
 ·cases h4
 ·injection h4 with h4
  injection h4 with h4
  subst h4
  exact aL.lt h5
theorem fO.wide {w:World} {B C:Nat→Prop} {x tb most size marks probes:Nat} {T:List Pl} {Ks:List Value} (h:fO w B x tb most size marks probes T Ks) (hC:∀ b,B b→C b):fO w C x tb most size marks probes T Ks:=
 ⟨h.blk,⟨h.tab.blk,h.tab.len,fun i p K h1 h2=>(h.tab.keys i p K h1 h2).mono hC,hC _ h.tab.inB⟩,h.pow,hC _ h.inB⟩
theorem fO.lt {w:World} {B:Nat→Prop} {x tb most size marks probes:Nat} {T:List Pl} {Ks:List Value} (h:fO w B x tb most size marks probes T Ks):fO w (fun b=>B b∧b<w.heap.size) x tb most size marks probes T Ks:=
 ⟨h.blk,⟨h.tab.blk,h.tab.len,fun i p K h1 h2=>(h.tab.keys i p K h1 h2).lt,h.tab.inB,h.tab.blk.lt⟩,h.pow,h.inB,h.blk.lt⟩
structure sH (w0 W:World) (B B1:Nat→Prop) (x tb most probes m:Nat) (T:List Pl) (Ks:List Value) (E:List (List UInt8 × Int)) (key:List UInt8) (f:Nat) (q:Pl):Prop where
 ix:fO W B1 x tb most E.length m (probes+1) T Ks
 good:kQ T
 perm:List.Perm (ents T) E
 at_:T[f]?=some q
 free:nY T key f
 no:∀ (i:Nat) (p:Pl),T[i]?=some p→p.st=1→p.key≠key
 room:4*(E.length+bM T+1)≤3*T.length
 len:T.length≤4*most+8
 keys:∀ p∈T,p.key.length≤4096
 ne:x≠tb
 sub:∀ b,B1 b→B b∨w0.heap.size≤b
 chg:aF B w0 W
theorem sH.ext {w0 W W':World} {B B1:Nat→Prop} {x tb most probes m:Nat} {T:List Pl} {Ks:List Value} {E:List (List UInt8 × Int)} {key:List UInt8} {f:Nat} {q:Pl} (h:sH w0 W B B1 x tb most probes m T Ks E key f q) (hw:aD W W'):sH w0 W' B B1 x tb most probes m T Ks E key f q:=
 {h with ix:=h.ix.ext hw,chg:=h.chg.trans' (aF.of hw)}
theorem sH.marks {w0 W:World} {B B1:Nat→Prop} {x tb most probes m:Nat} {T:List Pl} {Ks:List Value} {E:List (List UInt8 × Int)} {key:List UInt8} {f:Nat} {q:Pl} (h:sH w0 W B B1 x tb most probes m T Ks E key f q) (m2:Nat) (u:Int) (hu:u=(m2:Int)):sH w0 (W.setCell ⟨x,2,none⟩ (.int .i64 u)) B B1 x tb most probes m2 T Ks E key f q:=
 {h with ix:=h.ix.setMarks h.ne m2 u hu,chg:=h.chg.setCell (h.sub x h.ix.inB) _}
theorem sH.fin {w0 W W9:World} {B B1:Nat→Prop} {x tb most probes m:Nat} {T:List Pl} {Ks:List Value} {E:List (List UInt8 × Int)} {key:List UInt8} {f:Nat} {q:Pl} (h:sH w0 W B B1 x tb most probes m T Ks E key f q) (hm:m+(if q.st=2 then 1 else 0)=bM T) (hw:aD W W9) (v:Int) {K:Value}
 (hK:bF W9 (fun b=>w0.heap.size≤b) K key) (hk:key.length≤4096) (hE:E.length<most) (hmo:most≤1048576) :
 let zkr:=(yF W9 tb f ⟨1,key,v⟩ K).setCell ⟨x,1,none⟩ (.int .i64 ((E.length:Int)+1))
 nG w0 B x most probes E key v (.returned (.tuple #[.int .i64 0,.bool false,.int .i64 0])) zkr:=by
 have yB:f<T.length:=(List.getElem?_eq_some_iff.1 h.at_).1
 obtain ⟨g1,g2,q',hq',g3⟩:=Iz (n:=v) h.good h.free h.no (by
  have h1:=h.perm.length_eq
  have h2:=h.room
  have h3:=h.good.pos
  omega)
 rw [h.at_] at hq'
 injection hq' with hq'
 subst hq'
 have hC:∀ b,B1 b→(B b∨w0.heap.size≤b):=h.sub
 have hI:=(h.ix.ext hw).wide hC
 have zjw:=hI.put h.ne yB ⟨1,key,v⟩ K (hK.mono fun b hb=>.inr hb)
 have zhP:=(zjw.setSize h.ne ((key,v) :: E).length ((E.length:Int)+1) (by rw [List.length_cons];omega)).lt
 have zf4:m=bM (T.set f ⟨1,key,v⟩):=by omega
 rw [zf4] at zhP
 have zfe:aF B w0 ((yF W9 tb f ⟨1,key,v⟩ K).setCell ⟨x,1,none⟩ (.int .i64 ((E.length:Int)+1))):=
  ((h.chg.trans' (aF.of hw)).trans (C:=fun g=>g=tb) (rP _ _ _ _ _) fun g hg hl=>by
    subst hg
    rcases h.sub _ h.ix.tab.inB with h5 | h5
    ·exact h5
    ·omega).setCell (h.sub x h.ix.inB) _
 have i4:=h.room
 refine ⟨0,false,0,(key,v) :: E,_,rfl,.inr (.inr (.inr ⟨hk,fun u hu=>?_,hE,rfl,rfl,rfl,rfl⟩)),⟨⟨tb,_,_,zhP,g1,g2.trans (List.Perm.cons _ h.perm),?_,by rw [List.length_set];exact h.len,fun p hp=>?_,h.ne⟩,⟨by rw [List.length_cons];omega,hmo⟩,fun b hb=>hb.2⟩,fun b hb=>hb.1,zfe⟩
 ·obtain ⟨i,p,q1,q2,q3,_⟩:=iO.1 (h.perm.mem_iff.2 hu)
  exact h.no i p q1 q2 q3
 ·rw [List.length_set,List.length_cons];omega
 ·rcases List.mem_or_eq_of_mem_set hp with hp | rfl
  ·exact h.keys p hp
  ·exact hk
theorem Kg {T:List Pl} {f:Nat} {q:Pl} (h:T[f]?=some q) (h2:q.st=2):1≤bM T:=
 List.countP_pos_iff.2 ⟨q,List.mem_of_getElem? h,by simpa using h2⟩
set_option maxHeartbeats 2000000 in
set_option maxRecDepth 100000 in
theorem ku {w:World} {B:Nat→Prop} {x most probes:Nat} {E:List (List UInt8 × Int)} (h:E9 w B x most probes E) (hp:probes≤4611686018427387904) (key:List UInt8) (v:Int) (A:Option Addr) (n c:Nat) (hk:eK w A n key) (ha:dR B A) (hl:n≤4096) (bE:∀ u,(key,u)∉E) :
 Calls Tryz.prog 148 #[.pointer (some ⟨x,0,none⟩),.slice A n c,.int .i64 v] w (nG w B x most probes E key v):=by
 obtain ⟨tb,T,Ks,hI,hG,hE,h1,h2,h3,aZ⟩:=h.at_
 have Ix:=hk.len
 have zd5:=aA (fun (w':World) (hc:aF B w w')=>hc.key hk ha)
 have zfA:aF B w (w.setCell ⟨x,3,none⟩ (.int .i64 ((probes:Int)+1))):=(aF.refl _ _).setCell (.inl hI.inB) _
 have HF:=aA (mN key A n c _ B x tb most _ _ _ T Ks (hI.probe aZ) (zd5.out _ zfA) hG.st (by omega))
 have HI:=aA (hI.probe aZ)
 have a3:w.cell? ⟨x,3,none⟩=some (.int .i64 probes):=hI.blk.cell 3
 have f3:w.frozen? ⟨x,3,none⟩=false:=hI.blk.frozen 3
 have HC:=aA zfA
 have hm:=h.most
 have HO:=aA h.old
 obtain ⟨f,hf,hfree,j8⟩ : ∃ f,vW T key=(none,some f)∧nY T key f∧∀ (i:Nat) (p:Pl),T[i]?=some p→p.st=1→p.key≠key:=by
  rcases mB hG key with ⟨i,p,_,hpi,iD,yO⟩ | h9
  ·exact absurd (hE.mem_iff.1 (iO.2 ⟨i,p,hpi,iD,yO,rfl⟩)) (bE _)
  ·exact h9
 rw [hf] at HF
 have HW:=aA (And.intro hG (And.intro hE (And.intro h1 (And.intro h2 (And.intro h3 aZ)))))
 have Sb:=aA (And.intro hfree j8)
 have Rh:=aA bE
 have kp:=aA hI.inB
 have F9:¬ (4096:Int)<(n:Int):=by omega
 have nD:bM T≤T.length:=by have:=hG.room;omega
 have zja:T.length≤4194400:=by omega
 have qb:=hE.length_eq
 have zjp:=aA qb
 have yK:key.length≤4096:=by omega
 clear h hk hI hE hf hfree j8 hG h1 h2 h3 ha aZ bE zfA qb Ix
 have zaQ:∀ a b:Nat,a≠b→¬ ((a:Int)=(b:Int)):=fun a b h=>by omega
 by_cases hfull:E.length=most
 ·have zj5:=aA hfull
  have ze7:(E.length:Int)=(most:Int):=by omega
  have zjs:=aA ze7
  clear hfull ze7
  go_enter Tryz.func148,Tryz.ntmps148
  go_wp2_with fail
  refine HF.out.mono ?_
  rintro e w1 ⟨rfl,x1⟩
  have X1:=aA x1
  have Ct:=aA (HI.out.ext x1)
  have a0:w1.cell? ⟨x,0,none⟩=some (.int .i64 most):=Ct.out.blk.cell 0
  have a1:w1.cell? ⟨x,1,none⟩=some (.int .i64 E.length):=Ct.out.blk.cell 1
  clear x1 a3 f3
  simp only [Hd]
  go_wp2_with fail
  have a0:=aB a0
  have a1:=aB a1
  have ze7:=zjs.out
  refine aC 9 (by kernel_rfl) (by kernel_rfl) (by kernel_rfl) ?_
  iterate 9
   refine aK (by kernel_rfl) (by kernel_rfl) ?_
   apply Exists.intro
   refine ⟨fun w1 aT=>?_,fun K hK=>?_⟩
   ·go_simp;first | done | rfl
   go_simp;refine hK _ _ ?_;clear hK K
  refine aH ⟨rfl,by kernel_rfl,fun wq hwq=>?_⟩
  simp only [bL]
  refine wpList_nil ?_
  have Cu:=aA (Ct.out.ext hwq)
  have XQ:=aA (X1.out.trans hwq)
  clear a0 a1 hwq
  go_wp2_with fail
  go_ret3
  have hC:=HC.out.trans' (aF.of XQ.out)
  exact ⟨0,false,52,E,B,rfl,.inr (.inr (.inl ⟨yK,Rh.out,zj5.out,rfl,rfl,rfl,rfl⟩)),⟨⟨tb,T,Ks,Cu.out,HW.out.1,HW.out.2.1,HW.out.2.2.1,HW.out.2.2.2.1,HW.out.2.2.2.2.1,HW.out.2.2.2.2.2⟩,hm,fun b hb=>Nat.lt_of_lt_of_le (HO.out b hb) hC.size⟩,fun _ hb=>.inl hb,hC⟩
 ·have bC:E.length<most:=by omega
  have rZ:=aA bC
  have ze7:¬ ((E.length:Int)=(most:Int)):=by omega
  have e1:IntKind.i64.wrap ((E.length:Int)+(bM T:Int))=(E.length:Int)+(bM T:Int):=IntWalk.i64_in _ (by omega)
  have e2:IntKind.i64.wrap ((E.length:Int)+(bM T:Int)+1)=(E.length:Int)+(bM T:Int)+1:=IntWalk.i64_in _ (by omega)
  have e3:IntKind.i64.wrap (((E.length:Int)+(bM T:Int)+1)*4)=((E.length:Int)+(bM T:Int)+1)*4:=IntWalk.i64_in _ (by omega)
  have e4:IntKind.i64.wrap ((T.length:Int)*3)=(T.length:Int)*3:=IntWalk.i64_in _ (by omega)
  by_cases hc:(T.length:Int)*3<((E.length:Int)+(bM T:Int)+1)*4
  ·clear zaQ
   go_enter Tryz.func148,Tryz.ntmps148
   go_wp2_with fail
   refine HF.out.mono ?_
   rintro e w1 ⟨rfl,x1⟩
   have X1:=aA x1
   have Ct:=aA (HI.out.ext x1)
   have a0:w1.cell? ⟨x,0,none⟩=some (.int .i64 most):=Ct.out.blk.cell 0
   have a1:w1.cell? ⟨x,1,none⟩=some (.int .i64 E.length):=Ct.out.blk.cell 1
   clear x1 a3 f3
   simp only [Hd]
   go_wp2_with fail
   have a0:=aB a0
   have a1:=aB a1
   refine aC 9 (by kernel_rfl) (by kernel_rfl) (by kernel_rfl) ?_
   iterate 9
    refine aK (by kernel_rfl) (by kernel_rfl) ?_
    apply Exists.intro
    refine ⟨fun w1 aT=>?_,fun K hK=>?_⟩
    ·go_simp;first | done | rfl
    go_simp;refine hK _ _ ?_;clear hK K
   refine aH ⟨rfl,by kernel_rfl,fun wq hwq=>?_⟩
   simp only [bL]
   refine wpList_nil ?_
   have Cu:=aA (Ct.out.ext hwq)
   have XQ:=aA (X1.out.trans hwq)
   clear a0 a1 hwq
   have a1:wq.cell? ⟨x,1,none⟩=some (.int .i64 E.length):=Cu.out.blk.cell 1
   have a2:wq.cell? ⟨x,2,none⟩=some (.int .i64 (bM T)):=Cu.out.blk.cell 2
   have a4:wq.cell? ⟨x,4,none⟩=some (.slice (some ⟨tb,0,none⟩) T.length T.length):=Cu.out.blk.cell 4
   go_wp2_with fail
   have a1:=aB a1
   have a2:=aB a2
   have a4:=aB a4
   rename World=>W2
   refine aC 18 (by kernel_rfl) (by kernel_rfl) (by kernel_rfl) ?_
   iterate 18
    refine aK (by kernel_rfl) (by kernel_rfl) ?_
    apply Exists.intro
    refine ⟨fun w1 aT=>?_,fun K hK=>?_⟩
    ·go_simp;first | done | rfl
    go_simp;refine hK _ _ ?_;clear hK K
   refine aH ⟨rfl,by kernel_rfl,fun wq hwq=>?_⟩
   simp only [bL]
   refine wpList_nil ?_
   have φ:=aA (Cu.out.ext hwq)
   have zfi:=aA (XQ.out.trans hwq)
   clear a1 a2 a4 hwq
   have zbo:=aA (Zs φ.out HW.out.1 zjp.out (by omega) (by have:=HW.out.2.2.1;omega) HW.out.2.2.2.2.1 HW.out.2.2.2.2.2)
   clear e1 e2 e3 e4
   go_wp2_with fail
   refine zbo.out.mono ?_
   rintro e w4 ⟨rfl,T',Ks',hA⟩
   have jM:List.Perm (ents T') E:=by
    have:=hA.perm
    rw [List.take_length] at this
    exact this.trans HW.out.2.1
   have kY:bM T'=0:=hA.gone
   have hN:=hA.len
   have zcx:aF B w w4:=(HC.out.trans' (aF.of zfi.out)).trans hA.chg fun g hg _=>hg ▸ kp.out
   obtain ⟨f',hf',hfree',hno'⟩ : ∃ f,vW T' key=(none,some f)∧nY T' key f∧∀ (i:Nat) (p:Pl),T'[i]?=some p→p.st=1→p.key≠key:=by
    rcases mB hA.good key with ⟨i,p,_,hpi,iD,yO⟩ | h9
    ·exact absurd (jM.mem_iff.1 (iO.2 ⟨i,p,hpi,iD,yO,rfl⟩)) (Rh.out _)
    ·exact h9
   have zib:=aA (mN key A n c w4 _ x _ _ _ _ _ T' Ks' hA.ix (zd5.out _ zcx) hA.good.st (by omega))
   rw [hf'] at zib
   obtain ⟨q,hq,hq1⟩:=hfree'.2
   have zis:0<T.length:=HW.out.1.pos
   have zfL:=HW.out.2.2.1
   have zcY:=HW.out.2.2.2.1
   have i4:4*(E.length+bM T'+1)≤3*T'.length∧T'.length≤4*most+8:=by
    rw [kY,hN]
    split <;> omega
   have za3:=aA (show sH w w4 B (fun b=>B b∨b=wq.heap.size) x wq.heap.size most probes 0 T' Ks' E key f' q from ⟨hA.ix,hA.good,jM,hq,hfree',hno',i4.1,i4.2,hA.keys,by have:=φ.out.blk.lt;omega,fun b hb=>hb.imp id fun h=>by subst h;exact (HC.out.trans' (aF.of zfi.out)).size,zcx⟩)
   clear hA jM hN zcx hf' hfree' hno' zfL zcY i4 zis
   go_wp2_with fail
   refine zib.out.mono ?_
   rintro e w5 ⟨rfl,x5⟩
   have Vs:=aA (za3.out.ext x5)
   clear x5
   simp only [Hd]
   have yB:f'<T'.length:=(List.getElem?_eq_some_iff.1 hq).1
   obtain ⟨A7,n7,c7,d0,d1,d2,_,hKs7⟩:=Vs.out.ix.tab.at_ hq
   have a4:w5.cell? ⟨x,4,none⟩=some (.slice (some ⟨wq.heap.size,0,none⟩) T'.length T'.length):=Vs.out.ix.blk.cell 4
   have J3:=Vs.out.good.st q (List.mem_of_getElem? hq)
   have HQ:=aA hq
   obtain ⟨qs,qk,qn⟩:=q
   dsimp only at d0 d1 d2 hq1 J3
   clear hq hKs7
   obtain rfl | rfl:qs=0∨qs=2:=by omega
   ·have d0:w5.cell? ⟨wq.heap.size,f'*3,none⟩=some (.int .u8 0):=d0
    go_upto_region 15 with fail
    clear d0 d1 d2 a4
    have I5:=Vs
    have zep:0+(if (0:Nat)=2 then 1 else 0)=bM T':=by rw [kY];rfl
    have a4:w5.cell? ⟨x,4,none⟩=some (.slice (some ⟨wq.heap.size,0,none⟩) T'.length T'.length):=I5.out.ix.blk.cell 4
    have a4:=aB a4
    have oR:=aA (fun w9 (hw9:aD w5 w9)=>wP key A n c w9 (zd5.out w9 (I5.out.chg.trans' (aF.of hw9))) (by omega))
    refine aC 10 (by kernel_rfl) (by kernel_rfl) (by kernel_rfl) ?_
    iterate 6
     refine aK (by kernel_rfl) (by kernel_rfl) ?_
     apply Exists.intro
     refine ⟨fun w1 aT=>?_,fun K hK=>?_⟩
     ·go_simp;first | done | rfl
     go_simp;refine hK _ _ ?_;clear hK K
    refine cU [] (fun u w'=>bF w' (fun b=>w.heap.size≤b) u key) (fun u w1 w2 _ h2 h=>h.ext h2) rfl (by kernel_rfl) (fun w9 hw9=>?_) ?_
    ·clear a4
     simp only [cN]
     go_simp
     refine ⟨aD.refl _,(oR.out w9 hw9).mono fun e w' h=>?_⟩
     obtain ⟨K,rfl,h2,h3⟩:=h
     exact ⟨K,rfl,h2,h3.mono fun b hb=>Nat.le_trans (I5.out.chg.trans' (aF.of hw9)).size hb.1⟩
    iterate 1
     refine aK (by kernel_rfl) (by kernel_rfl) ?_
     apply Exists.intro
     refine ⟨fun w1 aT=>?_,fun K hK=>?_⟩
     ·go_simp;first | done | rfl
     go_simp;refine hK _ _ ?_;clear hK K
    refine cU [103] (fun u w'=>∃ K,u=.agg #[.int .u8 1,K,.int .i64 v]∧bF w' (fun b=>w.heap.size≤b) K key) (fun u w1 w2 _ h2 h=>h.imp fun K hK=>⟨hK.1,hK.2.ext h2⟩) rfl (by kernel_rfl) (fun w9 hw9=>?_) ?_
    ·clear a4
     simp only [cN]
     intro u hu
     obtain ⟨A9,n9,c9,rfl,pI,hK2⟩:=hu _ rfl
     clear hu
     go_simp
     exact ⟨aD.refl _,A9,n9,c9,rfl,pI,hK2⟩
    iterate 1
     refine aK (by kernel_rfl) (by kernel_rfl) ?_
     apply Exists.intro
     refine ⟨fun w1 aT=>?_,fun K hK=>?_⟩
     ·go_simp;first | done | rfl
     go_simp;refine hK _ _ ?_;clear hK K
    refine aH ⟨rfl,by kernel_rfl,fun w9 hw9=>?_⟩
    simp only [bL]
    rintro _ ⟨K,rfl,A9,n9,c9,rfl,pI,hK2⟩ K0 _
    have hK:bF w9 (fun b=>w.heap.size≤b) (.slice A9 n9 c9) key:=⟨A9,n9,c9,rfl,pI,hK2⟩
    clear pI hK2
    simp only [List.drop]
    have yM:=aA (I5.out.ext hw9)
    have zcE:=aA hw9
    have m_:=aA hK
    obtain ⟨_,_,_,d0,d1,d2,_⟩:=yM.out.ix.tab.at_ HQ.out
    have g0:w9.frozen? ⟨wq.heap.size,f'*3,none⟩=false:=yM.out.ix.tab.blk.frozen _
    have g1:w9.frozen? ⟨wq.heap.size,f'*3+1,none⟩=false:=yM.out.ix.tab.blk.frozen _
    have g2:w9.frozen? ⟨wq.heap.size,f'*3+2,none⟩=false:=yM.out.ix.tab.blk.frozen _
    clear a4 hw9 hK
    go_upto_region 16 with fail
    have I3:=aA (show fO (((w9.setCell ⟨wq.heap.size,f'*3,none⟩ (.int .u8 1)).setCell ⟨wq.heap.size,f'*3+1,none⟩ (.slice A9 n9 c9)).setCell ⟨wq.heap.size,f'*3+2,none⟩ (.int .i64 v)) _ x wq.heap.size most E.length _ (probes+1) _ _ from (yM.out.ix.wide yM.out.sub).put yM.out.ne yB ⟨1,key,v⟩ _ (m_.out.mono fun b hb=>.inr hb))
    have Wu:=aA (show nG w B x most probes E key v _ ((((w9.setCell ⟨wq.heap.size,f'*3,none⟩ (.int .u8 1)).setCell ⟨wq.heap.size,f'*3+1,none⟩ (.slice A9 n9 c9)).setCell ⟨wq.heap.size,f'*3+2,none⟩ (.int .i64 v)).setCell ⟨x,1,none⟩ (.int .i64 ((E.length:Int)+1))) from I5.out.fin zep zcE.out v m_.out yK rZ.out hm.2)
    generalize ((w9.setCell ⟨wq.heap.size,f'*3,none⟩ (.int .u8 1)).setCell ⟨wq.heap.size,f'*3+1,none⟩ (.slice A9 n9 c9)).setCell ⟨wq.heap.size,f'*3+2,none⟩ (.int .i64 v)=t_ at *
    clear d0 d1 d2 g0 g1 g2
    have a1:t_.cell? ⟨x,1,none⟩=some (.int .i64 E.length):=I3.out.blk.cell 1
    have f1:t_.frozen? ⟨x,1,none⟩=false:=I3.out.blk.frozen 1
    go_wp2_with fail
    go_ret3
    exact Wu.out
   ·exact absurd (Kg HQ.out rfl) (by omega)
  ·have za3:=aA (fun W (hW:fO W B x tb most E.length (bM T) (probes+1) T Ks) (mG:aF B w W) q (hq:T[f]?=some q)=>(⟨hW,HW.out.1,HW.out.2.1,hq,Sb.out.1,Sb.out.2,by omega,HW.out.2.2.2.1,HW.out.2.2.2.2.1,HW.out.2.2.2.2.2,fun b hb=>.inl hb,mG⟩ : sH w W B B x tb most probes (bM T) T Ks E key f q))
   go_enter Tryz.func148,Tryz.ntmps148
   go_wp2_with fail
   refine HF.out.mono ?_
   rintro e w1 ⟨rfl,x1⟩
   have X1:=aA x1
   have Ct:=aA (HI.out.ext x1)
   have a0:w1.cell? ⟨x,0,none⟩=some (.int .i64 most):=Ct.out.blk.cell 0
   have a1:w1.cell? ⟨x,1,none⟩=some (.int .i64 E.length):=Ct.out.blk.cell 1
   clear x1 a3 f3
   simp only [Hd]
   go_wp2_with fail
   have a0:=aB a0
   have a1:=aB a1
   refine aC 9 (by kernel_rfl) (by kernel_rfl) (by kernel_rfl) ?_
   iterate 9
    refine aK (by kernel_rfl) (by kernel_rfl) ?_
    apply Exists.intro
    refine ⟨fun w1 aT=>?_,fun K hK=>?_⟩
    ·go_simp;first | done | rfl
    go_simp;refine hK _ _ ?_;clear hK K
   refine aH ⟨rfl,by kernel_rfl,fun wq hwq=>?_⟩
   simp only [bL]
   refine wpList_nil ?_
   have Cu:=aA (Ct.out.ext hwq)
   have XQ:=aA (X1.out.trans hwq)
   clear a0 a1 hwq
   have a1:wq.cell? ⟨x,1,none⟩=some (.int .i64 E.length):=Cu.out.blk.cell 1
   have a2:wq.cell? ⟨x,2,none⟩=some (.int .i64 (bM T)):=Cu.out.blk.cell 2
   have a4:wq.cell? ⟨x,4,none⟩=some (.slice (some ⟨tb,0,none⟩) T.length T.length):=Cu.out.blk.cell 4
   go_wp2_with fail
   have a1:=aB a1
   have a2:=aB a2
   have a4:=aB a4
   rename World=>W2
   refine aC 18 (by kernel_rfl) (by kernel_rfl) (by kernel_rfl) ?_
   iterate 18
    refine aK (by kernel_rfl) (by kernel_rfl) ?_
    apply Exists.intro
    refine ⟨fun w1 aT=>?_,fun K hK=>?_⟩
    ·go_simp;first | done | rfl
    go_simp;refine hK _ _ ?_;clear hK K
   refine aH ⟨rfl,by kernel_rfl,fun wq hwq=>?_⟩
   simp only [bL]
   refine wpList_nil ?_
   have φ:=aA (Cu.out.ext hwq)
   have zfi:=aA (XQ.out.trans hwq)
   clear a1 a2 a4 hwq
   obtain ⟨q,hq,hq1⟩:=Sb.out.1.2
   have Vs:=aA (za3.out wq φ.out (HC.out.trans' (aF.of zfi.out)) q hq)
   have yB:f<T.length:=(List.getElem?_eq_some_iff.1 hq).1
   obtain ⟨A7,n7,c7,d0,d1,d2,_,hKs7⟩:=Vs.out.ix.tab.at_ hq
   have a4:wq.cell? ⟨x,4,none⟩=some (.slice (some ⟨tb,0,none⟩) T.length T.length):=Vs.out.ix.blk.cell 4
   have J3:=Vs.out.good.st q (List.mem_of_getElem? hq)
   have HQ:=aA hq
   obtain ⟨qs,qk,qn⟩:=q
   dsimp only at d0 d1 d2 hq1 J3
   clear hq hKs7
   obtain rfl | rfl:qs=0∨qs=2:=by omega
   ·have d0:wq.cell? ⟨tb,f*3,none⟩=some (.int .u8 0):=d0
    go_upto_region 15 with fail
    clear d0 d1 d2 a4
    have I5:=Vs
    have zep:bM T+(if (0:Nat)=2 then 1 else 0)=bM T:=by simp
    have a4:wq.cell? ⟨x,4,none⟩=some (.slice (some ⟨tb,0,none⟩) T.length T.length):=I5.out.ix.blk.cell 4
    have a4:=aB a4
    have oR:=aA (fun w9 (hw9:aD wq w9)=>wP key A n c w9 (zd5.out w9 (I5.out.chg.trans' (aF.of hw9))) (by omega))
    refine aC 10 (by kernel_rfl) (by kernel_rfl) (by kernel_rfl) ?_
    iterate 6
     refine aK (by kernel_rfl) (by kernel_rfl) ?_
     apply Exists.intro
     refine ⟨fun w1 aT=>?_,fun K hK=>?_⟩
     ·go_simp;first | done | rfl
     go_simp;refine hK _ _ ?_;clear hK K
    refine cU [] (fun u w'=>bF w' (fun b=>w.heap.size≤b) u key) (fun u w1 w2 _ h2 h=>h.ext h2) rfl (by kernel_rfl) (fun w9 hw9=>?_) ?_
    ·clear a4
     simp only [cN]
     go_simp
     refine ⟨aD.refl _,(oR.out w9 hw9).mono fun e w' h=>?_⟩
     obtain ⟨K,rfl,h2,h3⟩:=h
     exact ⟨K,rfl,h2,h3.mono fun b hb=>Nat.le_trans (I5.out.chg.trans' (aF.of hw9)).size hb.1⟩
    iterate 1
     refine aK (by kernel_rfl) (by kernel_rfl) ?_
     apply Exists.intro
     refine ⟨fun w1 aT=>?_,fun K hK=>?_⟩
     ·go_simp;first | done | rfl
     go_simp;refine hK _ _ ?_;clear hK K
    refine cU [103] (fun u w'=>∃ K,u=.agg #[.int .u8 1,K,.int .i64 v]∧bF w' (fun b=>w.heap.size≤b) K key) (fun u w1 w2 _ h2 h=>h.imp fun K hK=>⟨hK.1,hK.2.ext h2⟩) rfl (by kernel_rfl) (fun w9 hw9=>?_) ?_
    ·clear a4
     simp only [cN]
     intro u hu
     obtain ⟨A9,n9,c9,rfl,pI,hK2⟩:=hu _ rfl
     clear hu
     go_simp
     exact ⟨aD.refl _,A9,n9,c9,rfl,pI,hK2⟩
    iterate 1
     refine aK (by kernel_rfl) (by kernel_rfl) ?_
     apply Exists.intro
     refine ⟨fun w1 aT=>?_,fun K hK=>?_⟩
     ·go_simp;first | done | rfl
     go_simp;refine hK _ _ ?_;clear hK K
    refine aH ⟨rfl,by kernel_rfl,fun w9 hw9=>?_⟩
    simp only [bL]
    rintro _ ⟨K,rfl,A9,n9,c9,rfl,pI,hK2⟩ K0 _
    have hK:bF w9 (fun b=>w.heap.size≤b) (.slice A9 n9 c9) key:=⟨A9,n9,c9,rfl,pI,hK2⟩
    clear pI hK2
    simp only [List.drop]
    have yM:=aA (I5.out.ext hw9)
    have zcE:=aA hw9
    have m_:=aA hK
    obtain ⟨_,_,_,d0,d1,d2,_⟩:=yM.out.ix.tab.at_ HQ.out
    have g0:w9.frozen? ⟨tb,f*3,none⟩=false:=yM.out.ix.tab.blk.frozen _
    have g1:w9.frozen? ⟨tb,f*3+1,none⟩=false:=yM.out.ix.tab.blk.frozen _
    have g2:w9.frozen? ⟨tb,f*3+2,none⟩=false:=yM.out.ix.tab.blk.frozen _
    clear a4 hw9 hK
    go_upto_region 16 with fail
    have I3:=aA (show fO (((w9.setCell ⟨tb,f*3,none⟩ (.int .u8 1)).setCell ⟨tb,f*3+1,none⟩ (.slice A9 n9 c9)).setCell ⟨tb,f*3+2,none⟩ (.int .i64 v)) _ x tb most E.length _ (probes+1) _ _ from (yM.out.ix.wide yM.out.sub).put yM.out.ne yB ⟨1,key,v⟩ _ (m_.out.mono fun b hb=>.inr hb))
    have Wu:=aA (show nG w B x most probes E key v _ ((((w9.setCell ⟨tb,f*3,none⟩ (.int .u8 1)).setCell ⟨tb,f*3+1,none⟩ (.slice A9 n9 c9)).setCell ⟨tb,f*3+2,none⟩ (.int .i64 v)).setCell ⟨x,1,none⟩ (.int .i64 ((E.length:Int)+1))) from I5.out.fin zep zcE.out v m_.out yK rZ.out hm.2)
    generalize ((w9.setCell ⟨tb,f*3,none⟩ (.int .u8 1)).setCell ⟨tb,f*3+1,none⟩ (.slice A9 n9 c9)).setCell ⟨tb,f*3+2,none⟩ (.int .i64 v)=t_ at *
    clear d0 d1 d2 g0 g1 g2
    have a1:t_.cell? ⟨x,1,none⟩=some (.int .i64 E.length):=I3.out.blk.cell 1
    have f1:t_.frozen? ⟨x,1,none⟩=false:=I3.out.blk.frozen 1
    go_wp2_with fail
    go_ret3
    exact Wu.out
   ·have d0:wq.cell? ⟨tb,f*3,none⟩=some (.int .u8 2):=d0
    have a2:wq.cell? ⟨x,2,none⟩=some (.int .i64 (bM T)):=Vs.out.ix.blk.cell 2
    have f2:wq.frozen? ⟨x,2,none⟩=false:=Vs.out.ix.blk.frozen 2
    have Nv:=Kg HQ.out rfl
    have zhd:=aA Nv
    go_upto_region 15 with fail
    have I5:=aA (Vs.out.marks (bM T - 1) ((bM T:Int) - 1) (by omega))
    generalize wq.setCell ⟨x,2,none⟩ (.int .i64 ((bM T:Int) - 1))=W8 at *
    clear d0 d1 d2 a4 a2 f2
    have zep:(bM T - 1)+(if (2:Nat)=2 then 1 else 0)=bM T:=by simp;omega
    have a4:W8.cell? ⟨x,4,none⟩=some (.slice (some ⟨tb,0,none⟩) T.length T.length):=I5.out.ix.blk.cell 4
    have a4:=aB a4
    have oR:=aA (fun w9 (hw9:aD W8 w9)=>wP key A n c w9 (zd5.out w9 (I5.out.chg.trans' (aF.of hw9))) (by omega))
    refine aC 10 (by kernel_rfl) (by kernel_rfl) (by kernel_rfl) ?_
    iterate 6
     refine aK (by kernel_rfl) (by kernel_rfl) ?_
     apply Exists.intro
     refine ⟨fun w1 aT=>?_,fun K hK=>?_⟩
     ·go_simp;first | done | rfl
     go_simp;refine hK _ _ ?_;clear hK K
    refine cU [] (fun u w'=>bF w' (fun b=>w.heap.size≤b) u key) (fun u w1 w2 _ h2 h=>h.ext h2) rfl (by kernel_rfl) (fun w9 hw9=>?_) ?_
    ·clear a4
     simp only [cN]
     go_simp
     refine ⟨aD.refl _,(oR.out w9 hw9).mono fun e w' h=>?_⟩
     obtain ⟨K,rfl,h2,h3⟩:=h
     exact ⟨K,rfl,h2,h3.mono fun b hb=>Nat.le_trans (I5.out.chg.trans' (aF.of hw9)).size hb.1⟩
    iterate 1
     refine aK (by kernel_rfl) (by kernel_rfl) ?_
     apply Exists.intro
     refine ⟨fun w1 aT=>?_,fun K hK=>?_⟩
     ·go_simp;first | done | rfl
     go_simp;refine hK _ _ ?_;clear hK K
    refine cU [103] (fun u w'=>∃ K,u=.agg #[.int .u8 1,K,.int .i64 v]∧bF w' (fun b=>w.heap.size≤b) K key) (fun u w1 w2 _ h2 h=>h.imp fun K hK=>⟨hK.1,hK.2.ext h2⟩) rfl (by kernel_rfl) (fun w9 hw9=>?_) ?_
    ·clear a4
     simp only [cN]
     intro u hu
     obtain ⟨A9,n9,c9,rfl,pI,hK2⟩:=hu _ rfl
     clear hu
     go_simp
     exact ⟨aD.refl _,A9,n9,c9,rfl,pI,hK2⟩
    iterate 1
     refine aK (by kernel_rfl) (by kernel_rfl) ?_
     apply Exists.intro
     refine ⟨fun w1 aT=>?_,fun K hK=>?_⟩
     ·go_simp;first | done | rfl
     go_simp;refine hK _ _ ?_;clear hK K
    refine aH ⟨rfl,by kernel_rfl,fun w9 hw9=>?_⟩
    simp only [bL]
    rintro _ ⟨K,rfl,A9,n9,c9,rfl,pI,hK2⟩ K0 _
    have hK:bF w9 (fun b=>w.heap.size≤b) (.slice A9 n9 c9) key:=⟨A9,n9,c9,rfl,pI,hK2⟩
    clear pI hK2
    simp only [List.drop]
    have yM:=aA (I5.out.ext hw9)
    have zcE:=aA hw9
    have m_:=aA hK
    obtain ⟨_,_,_,d0,d1,d2,_⟩:=yM.out.ix.tab.at_ HQ.out
    have g0:w9.frozen? ⟨tb,f*3,none⟩=false:=yM.out.ix.tab.blk.frozen _
    have g1:w9.frozen? ⟨tb,f*3+1,none⟩=false:=yM.out.ix.tab.blk.frozen _
    have g2:w9.frozen? ⟨tb,f*3+2,none⟩=false:=yM.out.ix.tab.blk.frozen _
    clear a4 hw9 hK
    go_upto_region 16 with fail
    have I3:=aA (show fO (((w9.setCell ⟨tb,f*3,none⟩ (.int .u8 1)).setCell ⟨tb,f*3+1,none⟩ (.slice A9 n9 c9)).setCell ⟨tb,f*3+2,none⟩ (.int .i64 v)) _ x tb most E.length _ (probes+1) _ _ from (yM.out.ix.wide yM.out.sub).put yM.out.ne yB ⟨1,key,v⟩ _ (m_.out.mono fun b hb=>.inr hb))
    have Wu:=aA (show nG w B x most probes E key v _ ((((w9.setCell ⟨tb,f*3,none⟩ (.int .u8 1)).setCell ⟨tb,f*3+1,none⟩ (.slice A9 n9 c9)).setCell ⟨tb,f*3+2,none⟩ (.int .i64 v)).setCell ⟨x,1,none⟩ (.int .i64 ((E.length:Int)+1))) from I5.out.fin zep zcE.out v m_.out yK rZ.out hm.2)
    generalize ((w9.setCell ⟨tb,f*3,none⟩ (.int .u8 1)).setCell ⟨tb,f*3+1,none⟩ (.slice A9 n9 c9)).setCell ⟨tb,f*3+2,none⟩ (.int .i64 v)=t_ at *
    clear d0 d1 d2 g0 g1 g2
    have a1:t_.cell? ⟨x,1,none⟩=some (.int .i64 E.length):=I3.out.blk.cell 1
    have f1:t_.frozen? ⟨x,1,none⟩=false:=I3.out.blk.frozen 1
    go_wp2_with fail
    go_ret3
    exact Wu.out
theorem Q0 {w:World} {B:Nat→Prop} {x most probes:Nat} {E:List (List UInt8 × Int)} (h:E9 w B x most probes E) (hp:probes≤4611686018427387904) (key:List UInt8) (v:Int) (A:Option Addr) (n c:Nat) (hk:eK w A n key) (ha:dR B A) (hn:n≤4611686018427387904) :
 Calls Tryz.prog 148 #[.pointer (some ⟨x,0,none⟩),.slice A n c,.int .i64 v] w (nG w B x most probes E key v):=by
 by_cases hl:4096<n
 ·exact Xa h hp key v A n c hk.len hl hn
 ·by_cases bE:∃ u,(key,u)∈E
  ·exact Rv h hp key v A n c hk ha (by omega) bE
  ·exact ku h hp key v A n c hk ha (by omega) (fun u hu=>bE ⟨u,hu⟩)
end Go.Proofs.YtahdiiaadjdmcaaGreat
