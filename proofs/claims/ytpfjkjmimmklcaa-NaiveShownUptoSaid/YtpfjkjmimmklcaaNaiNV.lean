/-
  newWalk: the walk's memory is laid.
  The levels of a query over tables: their numbers fit, their sizes are bounded.
-/
import Derived.Test.YtpfjkjmimmklcaaNaiG
import Derived.Test.YtpfjkjmimmklcaaNaiS
import Derived.Test.YtpfjkjmimmklcaaHomG
import Derived.Deep.RegionHeldLaw
import Derived.Deep.RegionLaw
import Derived.Deep.AppendLies
namespace Go.Proofs.Ytpfjkjmimmklcaa
open Go.RowKit

theorem infoRs : (Try.prog.info? 27).map (fun i => (i.zero, i.size, i.bytes)) = some (some (.slice none 0 0), 1, 24) := by kernel_rfl
theorem infoIs : (Try.prog.info? 100).map (fun i => (i.zero, i.size, i.bytes)) = some (some (.slice none 0 0), 1, 24) := by kernel_rfl
theorem infoBo : (Try.prog.info? 4).map (fun i => (i.zero, i.size, i.bytes)) = some (some (.bool false), 1, 1) := by kernel_rfl

/-- a level's rows: a row of the call's own, of rows that lay there before -/
def RRLo (w : World) (base : Nat) : World → List Value → List (List V) → Prop := fun w' cs rs => ∃ A n c cells, cs = [.slice A n c] ∧ n = rs.length ∧ w'.ownsRow base 35 1 (.slice A n c) n cells ∧ Els RRow 1 w cells rs
def RNLo (base : Nat) : World → List Value → List Nat → Prop := fun w' cs ks => ∃ A n c, cs = [.slice A n c] ∧ n = ks.length ∧ w'.ownsRow base 3 1 (.slice A n c) n ((ks.map Int.ofNat).map (Value.int .i64))
theorem RRLo.stab (w : World) (base : Nat) : Stab (RRLo w base) := fun _ _ _ _ hw ⟨A, n, c, cells, h1, h2, h3, h4⟩ => ⟨A, n, c, cells, h1, h2, mine_ext h3 hw, h4⟩
theorem RNLo.stab (base : Nat) : Stab (RNLo base) := fun _ _ _ _ hw ⟨A, n, c, h1, h2, h3⟩ => ⟨A, n, c, h1, h2, mine_ext h3 hw⟩
theorem RRLo.other {w : World} {base b1 : Nat} {e1 : TypeId} {s1 n1 : Nat} {v1 : Value} {x1 : List Value} {w1 w2 : World} {cs : List Value} {r : List (List V)} (h : RRLo w base w1 cs r) (h1 : w1.ownsRow b1 e1 s1 v1 n1 x1) (hne : e1 ≠ 35) (hg : w1.grownBy w2 v1.ownBlock) : RRLo w base w2 cs r := by
  obtain ⟨A, n, c, cells, h2, h3, h4, h5⟩ := h
  exact ⟨A, n, c, cells, h2, h3, mine_other h4 h1 hne hg, h5⟩
theorem RNLo.other {base b1 : Nat} {e1 : TypeId} {s1 n1 : Nat} {v1 : Value} {x1 : List Value} {w1 w2 : World} {cs : List Value} {r : List Nat} (h : RNLo base w1 cs r) (h1 : w1.ownsRow b1 e1 s1 v1 n1 x1) (hne : e1 ≠ 3) (hg : w1.grownBy w2 v1.ownBlock) : RNLo base w2 cs r := by
  obtain ⟨A, n, c, h2, h3, h4⟩ := h
  exact ⟨A, n, c, h2, h3, mine_other h4 h1 hne hg⟩
theorem RRLo.set_ {w : World} {base g : Nat} {w1 : World} {t : TypeId} {ds : Array Value} {cs : List Value} {r : List (List V)} (h : RRLo w base w1 cs r) (hb : Blk w1 g t ds) (hne : 35 ≠ t) (j : Nat) (u : Value) : RRLo w base (w1.setCell ⟨g, j, none⟩ u) cs r := by
  obtain ⟨A, n, c, cells, h2, h3, h4, h5⟩ := h
  exact ⟨A, n, c, cells, h2, h3, mine_set h4 hb hne j u, h5⟩
theorem RNLo.set_ {base g : Nat} {w1 : World} {t : TypeId} {ds : Array Value} {cs : List Value} {r : List Nat} (h : RNLo base w1 cs r) (hb : Blk w1 g t ds) (hne : 3 ≠ t) (j : Nat) (u : Value) : RNLo base (w1.setCell ⟨g, j, none⟩ u) cs r := by
  obtain ⟨A, n, c, h2, h3, h4⟩ := h
  exact ⟨A, n, c, h2, h3, mine_set h4 hb hne j u⟩

/-- the walk while it is laid: its levels and its head so far (R, Vs: its levels' rows and numbers, ahead of their being stored) -/
structure NC (w : World) (base : Nat) (D : WLoc) (N k : Nat) (R Vs : Value) (rws : List (List (List V))) (kss : List (List Nat)) (hs : List Nat) (w' : World) : Prop where
  st : Blk w' D.gw 136 (D.cells N k 0).toArray
  vals : ∃ cs : Array Value, Blk w' D.gv 58 cs ∧ cs.size = N * 3
  flags : Blk w' D.gb 4 (flagsF N fun _ => false).toArray
  tried : ∃ ts : Array Value, Blk w' D.gt 35 ts ∧ ts.size = k
  rows : ∃ A c cells, R = .slice A rws.length c ∧ w'.ownsRow base 27 1 R rws.length cells ∧ Els (RRLo w base) 1 w' cells rws
  vars : ∃ A c cells, Vs = .slice A kss.length c ∧ w'.ownsRow base 100 1 Vs kss.length cells ∧ Els (RNLo base) 1 w' cells kss
  head : ∃ A c, D.H = .slice A hs.length c ∧ w'.ownsRow base 3 1 D.H hs.length ((hs.map Int.ofNat).map (Value.int .i64))
  low : ∀ g, D.S4 g → w.heap.size ≤ g ∧ g < base
abbrev NB (w : World) (base : Nat) (D : WLoc) (N k : Nat) (rws : List (List (List V))) (kss : List (List Nat)) (hs : List Nat) (w' : World) : Prop := NC w base D N k D.R D.Vs rws kss hs w'
section
variable {w : World} {base : Nat} {D : WLoc} {N k : Nat} {R Vs : Value} {rws : List (List (List V))} {kss : List (List Nat)} {hs : List Nat} {w1 w2 : World}
theorem NC.ext (h : NC w base D N k R Vs rws kss hs w1) (hw : Ext w1 w2) : NC w base D N k R Vs rws kss hs w2 := by
  obtain ⟨cs, h1, h2⟩ := h.vals
  obtain ⟨ts, h3, h4⟩ := h.tried
  obtain ⟨A, c, cells, h5, h6, h7⟩ := h.rows
  obtain ⟨A', c', cells', h8, h9, h10⟩ := h.vars
  obtain ⟨A2, c2, h11, h12⟩ := h.head
  exact ⟨h.st.ext hw, ⟨cs, h1.ext hw, h2⟩, h.flags.ext hw, ⟨ts, h3.ext hw, h4⟩, ⟨A, c, cells, h5, mine_ext h6 hw, h7.ext (RRLo.stab w base) hw⟩, ⟨A', c', cells', h8, mine_ext h9 hw, h10.ext (RNLo.stab base) hw⟩, ⟨A2, c2, h11, mine_ext h12 hw⟩, h.low⟩
/-- one level's rows more -/
theorem NC.pushRows {cells : List Value} {A : Option Addr} {n c : Nat} {rc : List Value} {rs : List (List V)} {A' : Option Addr} {c' : Nat} (h : NC w base D N k R Vs rws kss hs w1) (hE : w1.ownsRow base 27 1 R rws.length cells ∧ Els (RRLo w base) 1 w1 cells rws)
    (hg : w1.grownBy w2 R.ownBlock) (ho : w2.ownsRow base 27 1 (.slice A' (rws.length + 1) c') (rws.length + 1) (cells ++ [.slice A n c])) (hn : n = rs.length) (hr : w1.ownsRow base 35 1 (.slice A n c) n rc) (hrs : Els RRow 1 w rc rs) :
    NC w base D N k (.slice A' (rws.length + 1) c') Vs (rws ++ [rs]) kss hs w2 := by
  obtain ⟨cs, h1, h2⟩ := h.vals
  obtain ⟨ts, h3, h4⟩ := h.tried
  obtain ⟨A2, c2, cells2, h8, h9, h10⟩ := h.vars
  obtain ⟨A3, c3, h11, h12⟩ := h.head
  obtain ⟨h6, h7⟩ := hE
  refine ⟨h.st.grown hg (own_ne_blk h6 h.st (by decide)), ⟨cs, h1.grown hg (own_ne_blk h6 h1 (by decide)), h2⟩, h.flags.grown hg (own_ne_blk h6 h.flags (by decide)), ⟨ts, h3.grown hg (own_ne_blk h6 h3 (by decide)), h4⟩,
    ⟨A', c', cells ++ [.slice A n c], by rw [List.length_append]; rfl, by rw [List.length_append]; exact ho, ?_⟩, ⟨A2, c2, cells2, h8, mine_other h9 h6 (by decide) hg, h10.mono fun cs x hx => hx.other h6 (by decide) hg⟩, ⟨A3, c3, h11, mine_other h12 h6 (by decide) hg⟩, h.low⟩
  exact (h7.mono fun cs x hx => hx.other h6 (by decide) hg).snoc rfl (fun v hv => by obtain rfl := List.mem_singleton.1 hv; rfl) ⟨A, n, c, rc, rfl, hn, mine_other hr h6 (by decide) hg, hrs⟩
/-- one level's numbers more -/
theorem NC.pushVars {cells : List Value} {A : Option Addr} {n c : Nat} {ks : List Nat} {A' : Option Addr} {c' : Nat} (h : NC w base D N k R Vs rws kss hs w1) (hE : w1.ownsRow base 100 1 Vs kss.length cells ∧ Els (RNLo base) 1 w1 cells kss)
    (hg : w1.grownBy w2 Vs.ownBlock) (ho : w2.ownsRow base 100 1 (.slice A' (kss.length + 1) c') (kss.length + 1) (cells ++ [.slice A n c])) (hn : n = ks.length) (hr : w1.ownsRow base 3 1 (.slice A n c) n ((ks.map Int.ofNat).map (Value.int .i64))) :
    NC w base D N k R (.slice A' (kss.length + 1) c') rws (kss ++ [ks]) hs w2 := by
  obtain ⟨cs, h1, h2⟩ := h.vals
  obtain ⟨ts, h3, h4⟩ := h.tried
  obtain ⟨A2, c2, cells2, h8, h9, h10⟩ := h.rows
  obtain ⟨A3, c3, h11, h12⟩ := h.head
  obtain ⟨h6, h7⟩ := hE
  refine ⟨h.st.grown hg (own_ne_blk h6 h.st (by decide)), ⟨cs, h1.grown hg (own_ne_blk h6 h1 (by decide)), h2⟩, h.flags.grown hg (own_ne_blk h6 h.flags (by decide)), ⟨ts, h3.grown hg (own_ne_blk h6 h3 (by decide)), h4⟩,
    ⟨A2, c2, cells2, h8, mine_other h9 h6 (by decide) hg, h10.mono fun cs x hx => hx.other h6 (by decide) hg⟩, ⟨A', c', cells ++ [.slice A n c], by rw [List.length_append]; rfl, by rw [List.length_append]; exact ho, ?_⟩, ⟨A3, c3, h11, mine_other h12 h6 (by decide) hg⟩, h.low⟩
  exact (h7.mono fun cs x hx => hx.other h6 (by decide) hg).snoc rfl (fun v hv => by obtain rfl := List.mem_singleton.1 hv; rfl) ⟨A, n, c, rfl, hn, mine_other hr h6 (by decide) hg⟩
/-- a field of the struct is stored -/
theorem NC.set_ (h : NC w base D N k R Vs rws kss hs w1) (D' : WLoc) (j : Nat) (u : Value) (e1 : D'.gw = D.gw) (e2 : D'.gv = D.gv) (e3 : D'.gb = D.gb) (e4 : D'.gt = D.gt) (e5 : D'.H = D.H) (e6 : (D.cells N k 0).toArray.setIfInBounds j u = (D'.cells N k 0).toArray) :
    NC w base D' N k R Vs rws kss hs (w1.setCell ⟨D.gw, j, none⟩ u) := by
  obtain ⟨cs, h1, h2⟩ := h.vals
  obtain ⟨ts, h3, h4⟩ := h.tried
  obtain ⟨A, c, cells, h5, h6, h7⟩ := h.rows
  obtain ⟨A', c', cells', h8, h9, h10⟩ := h.vars
  obtain ⟨A2, c2, h11, h12⟩ := h.head
  have hst := h.st
  refine ⟨by rw [e1, ← e6]; exact hst.set_ j u, ⟨cs, by rw [e2]; exact h1.far (p := ⟨D.gw, j, none⟩) (Ne.symm (blk_ne' hst h1 (by decide))) _, h2⟩, by rw [e3]; exact h.flags.far (p := ⟨D.gw, j, none⟩) (Ne.symm (blk_ne' hst h.flags (by decide))) _,
    ⟨ts, by rw [e4]; exact h3.far (p := ⟨D.gw, j, none⟩) (Ne.symm (blk_ne' hst h3 (by decide))) _, h4⟩, ⟨A, c, cells, h5, mine_set h6 hst (by decide) j u, h7.mono fun cs x hx => hx.set_ hst (by decide) j u⟩,
    ⟨A', c', cells', h8, mine_set h9 hst (by decide) j u, h10.mono fun cs x hx => hx.set_ hst (by decide) j u⟩, ⟨A2, c2, by rw [e5]; exact h11, by rw [e5]; exact mine_set h12 hst (by decide) j u⟩, fun g hg => h.low g ?_⟩
  unfold WLoc.S4 at hg ⊢
  rwa [e1, e2, e3, e4] at hg
/-- what is laid is what the walk wants -/
theorem NC.wst (h : NC w base D N k R Vs rws kss hs w1) : WSt D N k w1 [] [] 0 := by
  obtain ⟨cs, h1, h2⟩ := h.vals
  obtain ⟨ts, h3, h4⟩ := h.tried
  refine ⟨h.st, ⟨cs, h1, h2, by simp [cellsR]⟩, ?_, ⟨ts, h3, h4, rfl⟩, Nat.zero_le _⟩
  have := h.flags
  rwa [flagsF_congr (p' := fun i => decide (i < ([] : List V).length)) (fun i _ => by simp)] at this
end
theorem own_off {w w1 w2 : World} {S : Nat → Prop} {b : Nat} {e : TypeId} {s n : Nat} {v : Value} {xs : List Value} (h : w.ownsRow b e s v n xs) (hw : Ext w w1) (hF : Fr S w1 w2) (hb : ∀ g, S g → g < b ∨ w.heap.size ≤ g) : w2.ownsRow b e s v n xs :=
  own_fr (mine_ext h hw) hF fun g hg hs => by
    have h1 := h.lt g hg
    rcases hb g hs with h2 | h2 <;> omega
theorem NC.wfix {w : World} {base : Nat} {D : WLoc} {N : Nat} {lvs : List Lv} {hs : List Nat} {w1 W0 : World} {S : Nat → Prop} (h : NB w base D N lvs.length (lvs.map Lv.rows) (lvs.map Lv.ks) hs w1) (hE : Ext w w1) (hE1 : Ext w1 W0) (hat : LAt RA 2 w D.L.B D.L.m (lvs.map Lv.a))
    (hS2 : ∀ g, S g → g < base ∨ w1.heap.size ≤ g) (hS3 : ∀ g, S g → w.heap.size ≤ g) : WFix D lvs hs S W0 := by
  have hout : ∀ w', Fr S W0 w' → Ext w w' := fun w' hw => by
    have h1 : Fr S w w' := (Fr.of_ext (hE.trans hE1)).trans hw
    exact h1.out hS3
  obtain ⟨A, c, cells, h5, h6, h7⟩ := h.rows
  obtain ⟨A', c', cells', h8, h9, h10⟩ := h.vars
  obtain ⟨A2, c2, h11, h12⟩ := h.head
  refine ⟨⟨A, c, by rw [h5, List.length_map], fun i l hl => ?_⟩, ⟨A', c', by rw [h8, List.length_map], fun i l hl => ?_⟩, ⟨A2, c2, h11, fun w' hw => ?_⟩, fun w' hw => hat.ext RA.stab (hout w' hw)⟩
  · have hl2 : (lvs.map Lv.rows)[i]? = some l.rows := by rw [List.getElem?_map, hl]; rfl
    obtain ⟨cs, g1, g2, ⟨A9, n9, c9, cells9, rfl, rfl, g4, g5⟩, g6⟩ := h7.get hl2
    rw [h5] at h6
    have hlt : i < (lvs.map Lv.rows).length := (List.getElem?_eq_some_iff.1 hl2).1
    obtain ⟨b, off, rfl, -⟩ := (Sl.own h6).2 (by omega)
    refine ⟨b, off, A9, c9, cells9, rfl, fun w' hw => ⟨?_, ?_, ?_⟩⟩
    · obtain ⟨b', off', e, hc⟩ := (Sl.own (own_off h6 hE1 hw hS2)).2 (by omega)
      obtain ⟨rfl, rfl⟩ : b = b' ∧ off = off' := by injection e with e; injection e with e1 e2; exact ⟨e1, e2⟩
      have g7 := g6 0 (by omega)
      rw [Nat.mul_one, Nat.add_zero] at g7
      exact hc i _ g7
    · exact Sl.own (own_off g4 hE1 hw hS2)
    · exact g5.ext RRow.stab (hout w' hw)
  · have hl2 : (lvs.map Lv.ks)[i]? = some l.ks := by rw [List.getElem?_map, hl]; rfl
    obtain ⟨cs, g1, g2, ⟨A9, n9, c9, rfl, rfl, g4⟩, g6⟩ := h10.get hl2
    rw [h8] at h9
    have hlt : i < (lvs.map Lv.ks).length := (List.getElem?_eq_some_iff.1 hl2).1
    obtain ⟨b, off, rfl, -⟩ := (Sl.own h9).2 (by omega)
    refine ⟨b, off, A9, c9, rfl, fun w' hw => ⟨?_, ?_⟩⟩
    · obtain ⟨b', off', e, hc⟩ := (Sl.own (own_off h9 hE1 hw hS2)).2 (by omega)
      obtain ⟨rfl, rfl⟩ : b = b' ∧ off = off' := by injection e with e; injection e with e1 e2; exact ⟨e1, e2⟩
      have g7 := g6 0 (by omega)
      rw [Nat.mul_one, Nat.add_zero] at g7
      exact hc i _ g7
    · have := NumAt.own (own_off g4 hE1 hw hS2)
      exact this
  · rw [h11] at h12
    exact NumAt.own (own_off h12 hE1 hw hS2)
theorem blk_newAt {w : World} {g : Nat} {t : TypeId} {cs : Array Value} (h : w.heap.size = g) : Blk (w.alloc (.cells cs t)) g t cs := h ▸ Blk.new w t cs
/-- the head's numbers were laid behind all else -/
theorem NC.finish {w : World} {base : Nat} {D : WLoc} {N k : Nat} {R Vs : Value} {rws : List (List (List V))} {kss : List (List Nat)} {hs : List Nat} {w1 w2 : World} {A : Option Addr} {c b : Nat} (h : NC w base D N k R Vs rws kss [] w1) (D' : WLoc) (hD : D' = { D with H := .slice A hs.length c }) (hF : Fr (fun g => g = D.gw) w1 w2)
    (hst : Blk w2 D.gw 136 (D'.cells N k 0).toArray) (ho : w2.ownsRow b 3 1 (.slice A hs.length c) hs.length ((hs.map Int.ofNat).map (Value.int .i64))) (hb : base ≤ b) :
    NC w base D' N k R Vs rws kss hs w2 := by
  subst hD
  obtain ⟨cs, h1, h2⟩ := h.vals
  obtain ⟨ts, h3, h4⟩ := h.tried
  obtain ⟨A1, c1, cells, h5, h6, h7⟩ := h.rows
  obtain ⟨A', c', cells', h8, h9, h10⟩ := h.vars
  have hg0 := h.st
  refine ⟨hst, ⟨cs, h1.fr hF (fun e => blk_ne' hg0 h1 (by decide) e.symm), h2⟩, h.flags.fr hF (fun e => blk_ne' hg0 h.flags (by decide) e.symm), ⟨ts, h3.fr hF (fun e => blk_ne' hg0 h3 (by decide) e.symm), h4⟩,
    ⟨A1, c1, cells, h5, own_fr h6 hF (fun g hg e => own_ne_blk h6 hg0 (by decide) (by rw [hg, e])), h7.mono fun cs x hx => ?_⟩, ⟨A', c', cells', h8, own_fr h9 hF (fun g hg e => own_ne_blk h9 hg0 (by decide) (by rw [hg, e])), h10.mono fun cs x hx => ?_⟩, ⟨A, c, rfl, mine_base ho hb⟩, h.low⟩
  · obtain ⟨B, n, d, dells, g1, g2, g3, g4⟩ := hx
    exact ⟨B, n, d, dells, g1, g2, own_fr g3 hF (fun g hg e => own_ne_blk g3 hg0 (by decide) (by rw [hg, e])), g4⟩
  · obtain ⟨B, n, d, g1, g2, g3⟩ := hx
    exact ⟨B, n, d, g1, g2, own_fr g3 hF (fun g hg e => own_ne_blk g3 hg0 (by decide) (by rw [hg, e]))⟩
/-- the first append of newWalk's statement with two -/
theorem step_pr {vI : Value} {nI : Nat} {xI : List Value} {wL w0 wr w : World} {base : Nat} {D : WLoc} {N k : Nat} {AR : Option Addr} {cR : Nat} {Vs : Value} {rws : List (List (List V))} {kss : List (List Nat)} {hs : List Nat} {cellsA rc : List Value} {rs : List (List V)} {A : Option Addr} {n c i : Nat} {k0 : TypeInfo} {ops : Array Oper} {o : Oper} {a : Act} {K : Act → World → Prop} {Q : Exit → Act → World → Prop} {E : Prop}
    (hi : Try.prog.info? 27 = some k0) (hz : k0.zero = some (.slice none 0 0)) (hsz : k0.size = 1) (hby : k0.bytes = 24) (hil : i = rws.length) (hl : i ≤ 1048576)
    (hN : NC w0 base D N k (.slice AR i cR) Vs rws kss hs wr) (ho : wr.ownsRow base 27 1 (.slice AR i cR) i cellsA) (he : Els (RRLo w0 base) 1 wr cellsA rws)
    (hn : n = rs.length) (hr : wr.ownsRow base 35 1 (.slice A n c) n rc) (hrs : Els RRow 1 w0 rc rs) (hvo : wr.ownsRow base 3 1 vI nI xI) (hbase : base ≤ wr.heap.size) (hL : Ext wL wr) (hLb : wL.heap.size ≤ base)
    (hgd : o.guard = none) (s x : Operand) (hop : o.op = .call { callee := .builtin .append, args := #[s, x], argTypes := #[133, 133] }) (hs' : a.eval s = .slice AR i cR)
    (hw : Ext wr w) (g : Nat) (hx : a.eval x = .slice (some ⟨g, 0, none⟩) 1 1) (hg : Blk w g 27 #[.slice A n c])
    (h : ∀ A6 c6 w', NC w0 base D N k (.slice A6 (i + 1) c6) Vs (rws ++ [rs]) kss hs w' → w.grownBy w' (Value.slice AR i cR).ownBlock → Ext wL w' → base ≤ w'.heap.size → w'.ownsRow base 3 1 vI nI xI → K (a.put o.dst (.slice A6 (i + 1) c6)) w') :
    if Region.wanted o (yielded ops a.tmps) = true then Oper.wp Try.prog o a w K Q else E := by
  subst hil
  have o1 := mine_ext ho hw
  refine step_append_lies w hgd s x _ hop base 27 k0 _ 1 24 Try.underlying133 hi hz hsz hby rfl (by omega) _ rws.length cellsA hs' o1 ⟨g, 0, none⟩ 1 1 [.slice A n c] hx rfl (World.news_of_block hg) (by simp [Value.oneCell']) (by omega) (by unfold maxLen; omega) (by omega) (Nat.le_trans hbase hw.size) _ rfl ?_
  intro g' cap w' hown hgrow hat hlt
  exact h _ _ _ ((hN.ext hw).pushRows ⟨o1, he.ext (RRLo.stab _ _) hw⟩ hgrow hown hn (mine_ext hr hw) hrs) hgrow (Below.grown (hL.trans hw) hgrow (hL.trans hw).size fun k hk => Nat.le_trans hLb (o1.lt k hk).1) (Nat.le_trans hbase (Nat.le_trans hw.size hgrow.size)) (mine_other (mine_ext hvo hw) o1 (by decide) hgrow)
/-- the second -/
theorem step_pv {wL w0 w : World} {base : Nat} {D : WLoc} {N k : Nat} {AV : Option Addr} {cV : Nat} {R : Value} {rws : List (List (List V))} {kss : List (List Nat)} {hs : List Nat} {ks : List Nat} {A : Option Addr} {n c i : Nat} {k0 : TypeInfo} {ops : Array Oper} {o : Oper} {a : Act} {K : Act → World → Prop} {Q : Exit → Act → World → Prop} {E : Prop}
    (hi : Try.prog.info? 100 = some k0) (hz : k0.zero = some (.slice none 0 0)) (hsz : k0.size = 1) (hby : k0.bytes = 24) (hil : i = kss.length) (hl : i ≤ 1048576)
    (hN : NC w0 base D N k R (.slice AV i cV) rws kss hs w)
    (hn : n = ks.length) (hr : w.ownsRow base 3 1 (.slice A n c) n ((ks.map Int.ofNat).map (Value.int .i64))) (hbase : base ≤ w.heap.size) (hL : Ext wL w) (hLb : wL.heap.size ≤ base)
    (hgd : o.guard = none) (s x : Operand) (hop : o.op = .call { callee := .builtin .append, args := #[s, x], argTypes := #[134, 134] }) (hs' : a.eval s = .slice AV i cV)
    (g : Nat) (hx : a.eval x = .slice (some ⟨g, 0, none⟩) 1 1) (hg : Blk w g 100 #[.slice A n c])
    (h : ∀ A6 c6 w', NC w0 base D N k R (.slice A6 (i + 1) c6) rws (kss ++ [ks]) hs w' → Ext wL w' → base ≤ w'.heap.size → K (a.put o.dst (.slice A6 (i + 1) c6)) w') :
    if Region.wanted o (yielded ops a.tmps) = true then Oper.wp Try.prog o a w K Q else E := by
  subst hil
  obtain ⟨A2, c2, cells2, h8, h9, h10⟩ := id hN.vars
  refine step_append_lies w hgd s x _ hop base 100 k0 _ 1 24 Try.underlying134 hi hz hsz hby rfl (by omega) _ kss.length cells2 hs' h9 ⟨g, 0, none⟩ 1 1 [.slice A n c] hx rfl (World.news_of_block hg) (by simp [Value.oneCell']) (by omega) (by unfold maxLen; omega) (by omega) hbase _ rfl ?_
  intro g' cap w' hown hgrow hat hlt
  exact h _ _ _ (hN.pushVars ⟨h9, h10⟩ hgrow hown hn hr) (Below.grown hL hgrow hL.size fun k hk => Nat.le_trans hLb (h9.lt k hk).1) (Nat.le_trans hbase hgrow.size)
/-- one number more at a row of the call's own, in a statement that draws its order -/
theorem step_ph {wr w : World} {b : Nat} {A : Option Addr} {c p : Nat} {xs : List Value} {x9 : Int} {k0 : TypeInfo} {ops : Array Oper} {o : Oper} {a : Act} {K : Act → World → Prop} {Q : Exit → Act → World → Prop} {E : Prop}
    (hi : Try.prog.info? 3 = some k0) (hz : k0.zero = some (.int .i64 0)) (hsz : k0.size = 1) (hby : k0.bytes = 8) (hl : p ≤ 1048576)
    (ho : wr.ownsRow b 3 1 (.slice A p c) p xs) (hbase : b ≤ wr.heap.size)
    (hgd : o.guard = none) (s x : Operand) (hop : o.op = .call { callee := .builtin .append, args := #[s, x], argTypes := #[100, 100] }) (hs' : a.eval s = .slice A p c)
    (hw : Ext wr w) (g : Nat) (hx : a.eval x = .slice (some ⟨g, 0, none⟩) 1 1) (hg : Blk w g 3 #[.int .i64 x9])
    (h : ∀ A6 c6 w', w'.ownsRow b 3 1 (.slice A6 (p + 1) c6) (p + 1) (xs ++ [.int .i64 x9]) → w.grownBy w' (Value.slice A p c).ownBlock → K (a.put o.dst (.slice A6 (p + 1) c6)) w') :
    if Region.wanted o (yielded ops a.tmps) = true then Oper.wp Try.prog o a w K Q else E := by
  refine step_append_lies w hgd s x _ hop b 3 k0 _ 1 8 Try.underlying100 hi hz hsz hby rfl (by omega) _ p xs hs' (mine_ext ho hw) ⟨g, 0, none⟩ 1 1 [.int .i64 x9] hx rfl (World.news_of_block hg) (by simp [Value.oneCell']) (by omega) (by unfold maxLen; omega) (by omega) (Nat.le_trans hbase hw.size) _ rfl ?_
  intro g' cap w' hown hgrow hat hlt
  exact h _ _ _ hown hgrow
/-- a call of a function that only reads, in a statement that draws its order -/
theorem step_call {P : Program} {w : World} {f : FuncId} {args : Array Value} {v : Value} {ops : Array Oper} {o : Oper} {a : Act} {K : Act → World → Prop} {Q : Exit → Act → World → Prop} {E : Prop}
    (hgd : o.guard = none) (hrun : (execOp a.eval o).run P w = .ok (.enter f args) w) (hc : Calls P f args w fun e w' => e = .returned v ∧ w = w') (hK : K (a.put o.dst v) w) :
    if Region.wanted o (yielded ops a.tmps) = true then Oper.wp P o a w K Q else E := by
  have hw : Region.wanted o (yielded ops a.tmps) = true := by simp [Region.wanted, hgd]
  rw [if_pos hw]
  unfold Oper.wp
  rw [hrun]
  simp only [Oper.upon]
  refine hc.mono ?_
  rintro e w' ⟨rfl, rfl⟩
  exact hK
end Go.Proofs.Ytpfjkjmimmklcaa

namespace Go.Proofs.Ytpfjkjmimmklcaa
open Go.RowKit

theorem fold_pre : ∀ (l acc : List ByteArray), ∃ r, l.foldl addV acc = acc ++ r
  | [], acc => ⟨[], by simp⟩
  | y :: l, acc => by
    obtain ⟨r, hr⟩ := fold_pre l (addV acc y)
    rw [List.foldl_cons, hr]
    unfold addV
    split
    · exact ⟨r, rfl⟩
    · exact ⟨y :: r, by simp⟩
theorem numFit_vars (all : List ByteArray) : ∀ (xs vs rest : List ByteArray), all = xs.foldl addV vs ++ rest → NumFit vs.length (xs.map (atN all)) (xs.foldl addV vs).length
  | [], vs, rest, _ => rfl
  | x :: xs, vs, rest, hall => by
    rw [List.foldl_cons] at hall ⊢
    by_cases hm : x ∈ vs
    · have e1 : addV vs x = vs := by simp [addV, memB_iff.2 hm]
      rw [e1] at hall ⊢
      obtain ⟨r, hr⟩ := fold_pre xs vs
      have ha := at_pre (l := vs) (x := x) (r ++ rest) hm
      rw [← List.append_assoc, ← hr, ← hall] at ha
      exact .inl ⟨by rw [ha.1]; exact ha.2, numFit_vars all xs vs rest hall⟩
    · have hmm : memB vs x = false := by
        rw [← Bool.not_eq_true, memB_iff]; exact hm
      have e1 : addV vs x = vs ++ [x] := by simp [addV, hmm]
      rw [e1] at hall ⊢
      obtain ⟨r, hr⟩ := fold_pre xs (vs ++ [x])
      have ha : atN all x = vs.length := by
        rw [hall, hr, List.append_assoc, List.append_assoc, List.singleton_append]
        exact at_new _ hm
      have ih := numFit_vars all xs (vs ++ [x]) rest hall
      rw [List.length_append, List.length_singleton] at ih
      exact .inr ⟨ha, ih⟩
theorem fit_lvs (all : List ByteArray) (data : List Tbl) : ∀ (as_ : List Atm) (vs rest : List ByteArray), all = addTs vs (as_.flatMap (·.terms)) ++ rest → FitL (lvsFrom all data as_) vs.length (addTs vs (as_.flatMap (·.terms))).length
  | [], vs, rest, _ => rfl
  | a :: as_, vs, rest, hall => by
    have e0 : addTs vs ((a :: as_).flatMap (·.terms)) = addTs (addTs vs a.terms) (as_.flatMap (·.terms)) := by rw [List.flatMap_cons, addTs_append]
    rw [e0] at hall ⊢
    obtain ⟨rs, hrs⟩ := addTs_pre (addTs vs a.terms) (as_.flatMap (·.terms))
    have hadd : (varsA a).foldl addV vs = addTs vs a.terms := varsQ_step vs a
    have h1 := numFit_vars all (varsA a) vs (rs ++ rest) (by rw [hadd, hall, hrs, List.append_assoc])
    rw [hadd] at h1
    exact ⟨_, h1, fit_lvs all data as_ (addTs vs a.terms) rest hall⟩
theorem fit_query (q : Qy) (data : List Tbl) : FitL (lvsFrom (varsQ q) data q.atoms) 0 (varsQ q).length := by
  have h := fit_lvs (varsQ q) data q.atoms [] [] (by rw [← varsQ_flat, List.append_nil])
  rwa [← varsQ_flat] at h
theorem rowsOfP_mem {data : List Tbl} {rel : ByteArray} {r : List V} (h : r ∈ rowsOfP data rel) : ∃ t ∈ data, t.rel = rel ∧ r ∈ t.rows := by
  unfold rowsOfP at h
  obtain ⟨t, h1, h2⟩ := List.mem_flatMap.1 h
  split at h2
  · rename_i h3; exact ⟨t, h1, h3, h2⟩
  · cases h2
theorem rowsOfP_len' (data : List Tbl) (rel : ByteArray) : (rowsOfP data rel).length ≤ (data.flatMap Tbl.rows).length := by
  unfold rowsOfP
  induction data with
  | nil => simp
  | cons t data ih =>
    rw [List.flatMap_cons, List.flatMap_cons, List.length_append, List.length_append]
    split
    · omega
    · simp only [List.length_nil]; omega
theorem lvs_ok {q : Qy} {data : List Tbl} (hq : Shaped q) (hsum : (data.flatMap Tbl.rows).length ≤ 1099511627776) (hrow : ∀ t ∈ data, ∀ r ∈ t.rows, r.length ≤ 1048576) : ∀ l ∈ lvsFrom (varsQ q) data q.atoms, l.Ok := fun l hl => by
  obtain ⟨a, ha, rfl⟩ := List.mem_map.1 hl
  refine ⟨by simp, Nat.le_trans (hq.atoms a ha).2.1 (by omega), Nat.le_trans (rowsOfP_len' _ _) hsum, fun r hr => ?_⟩
  obtain ⟨t, h1, -, h2⟩ := rowsOfP_mem hr
  exact hrow t h1 r h2
theorem vars_sixty {q : Qy} (hq : Shaped q) : (varsQ q).length ≤ 60 := by
  have h1 := addTs_len [] (q.atoms.flatMap (·.terms))
  have h2 := flat_len hq
  rw [varsQ_flat]
  simp only [List.length_nil] at h1 h2 ⊢
  omega
theorem head_lt {q : Qy} (hq : Shaped q) : ∀ x ∈ q.head.map (atN (varsQ q)), x < (varsQ q).length := fun x hx => by
  obtain ⟨y, hy, rfl⟩ := List.mem_map.1 hx
  exact (List.getElem?_eq_some_iff.1 (atN_get (mem_vars.2 (hq.safe y hy)))).1
end Go.Proofs.Ytpfjkjmimmklcaa
