/-
  law of node: scripts; rows that are told.
  node, plain: what is put on and taken off again.
-/
import Derived.Test.YtahdiiaadjdmcaaGreatNgJ
import Derived.Test.YtahdiiaadjdmcaaGreatNgK
import Derived.Test.YtahdiiaadjdmcaaGreatNgA
import Derived.Test.YtahdiiaadjdmcaaGreatGaK
namespace Go.Proofs.YtahdiiaadjdmcaaGreat
open Go.RowKit

/-- rows that are told, in P -/
def Told (w : World) (P : Nat → Prop) (A : Option Addr) (n c : Nat) (rows : List (List V)) : Prop :=
  n = rows.length ∧ ∃ cells, OwnH w P 28 1 n (.slice A n c) cells ∧ Els (fun w cs r => ∃ A n c, cs = [.slice A n c] ∧ OwnH w P 85 3 n (.slice A n c) (cellsR r)) 1 w cells rows
theorem MineV.told {M : Nat} {P : Nat → Prop} {w : World} {A : Option Addr} {n c : Nat} {rows : List (List V)} (h : MineV M w A n c rows) (hP : ∀ b, M ≤ b → b < w.heap.size → P b) : Told w P A n c rows := by
  obtain ⟨cells, h1, h2, h3⟩ := h
  refine ⟨h1, cells, ⟨own_base0 h2 (Nat.zero_le _), fun g hg => hP g (h2.lt g hg).1 (h2.lt g hg).2⟩, h3.mono fun cs r hx => ?_⟩
  obtain ⟨A, n, c, e, ho⟩ := hx
  exact ⟨A, n, c, e, own_base0 ho (Nat.zero_le _), fun g hg => hP g (ho.lt g hg).1 (ho.lt g hg).2⟩
theorem Told.keep {w w' : World} {P Q : Nat → Prop} {A : Option Addr} {n c : Nat} {rows : List (List V)} (h : Told w P A n c rows) (hw : Keeps P w w') (hq : ∀ b, P b → Q b) : Told w' Q A n c rows := by
  obtain ⟨h1, cells, h2, h3⟩ := h
  refine ⟨h1, cells, (h2.chg hw fun g hg h => h hg).mono hq, h3.mono fun cs r hx => ?_⟩
  obtain ⟨A, n, c, e, ho⟩ := hx
  exact ⟨A, n, c, e, (ho.chg hw fun g hg h => h hg).mono hq⟩
theorem Told.ext {w w' : World} {P Q : Nat → Prop} {A : Option Addr} {n c : Nat} {rows : List (List V)} (h : Told w P A n c rows) (hw : Ext w w') (hq : ∀ b, P b → Q b) : Told w' Q A n c rows := h.keep (Chg.of hw) hq
theorem Told.lat {w : World} {P : Nat → Prop} {A : Option Addr} {n c : Nat} {rows : List (List V)} (h : Told w P A n c rows) : LAt RRow 1 w A n rows := by
  obtain ⟨h1, cells, h2, h3⟩ := h
  refine ⟨h1, cells, h3.mono fun cs r hx => ?_, Sl.own h2.own⟩
  obtain ⟨A, n, c, e, ho⟩ := hx
  exact ⟨A, n, c, e, RowAt.own ho.own⟩
/-- a row, in P, as an argument -/
def AP (w : World) (P : Nat → Prop) (A : Option Addr) (n : Nat) (r : List V) : Prop := ArgR w A n r ∧ ∀ a, A = some a → P a.block
theorem AP.keep {w w' : World} {P Q : Nat → Prop} {A : Option Addr} {n : Nat} {r : List V} (h : AP w P A n r) (hw : Keeps P w w') (hq : ∀ b, P b → Q b) : AP w' Q A n r :=
  ⟨h.1.chg (fun a ha hn => hn (h.2 a ha)) hw, fun a ha => hq _ (h.2 a ha)⟩
theorem AP.ext {w w' : World} {P Q : Nat → Prop} {A : Option Addr} {n : Nat} {r : List V} (h : AP w P A n r) (hw : Ext w w') (hq : ∀ b, P b → Q b) : AP w' Q A n r := h.keep (Chg.of hw) hq
structure OpS where
  kind : Int
  k : Int
  row : List V
def ROp : World → List Value → OpS → Prop := fun w cs o => ∃ A n c, cs = [.int .i64 o.kind, .int .i64 o.k, .slice A n c] ∧ RowAt w A n o.row
theorem ROp.stab : Stab ROp := fun _ _ _ _ hw ⟨A, n, c, e, h⟩ => ⟨A, n, c, e, h.ext hw⟩
theorem LAt.op {w : World} {A : Option Addr} {n : Nat} {ops : List OpS} (h : LAt ROp 3 w A n ops) {i : Nat} (hi : i < n) : ∃ b off o A9 c9, A = some ⟨b, off, none⟩ ∧ ops[i]? = some o ∧ b < w.heap.size ∧ w.cell? ⟨b, off + i * 3, none⟩ = some (.int .i64 o.kind) ∧ w.cell? ⟨b, off + i * 3 + 1, none⟩ = some (.int .i64 o.k) ∧ w.cell? ⟨b, off + i * 3 + 2, none⟩ = some (.slice A9 o.row.length c9) ∧ RowAt w A9 o.row.length o.row := by
  obtain ⟨b, off, o, cs, rfl, ho, hbl, _, _, ⟨A9, n9, c9, rfl, hr⟩, hcell⟩ := LAt.get (by omega) h hi
  obtain rfl := hr.len
  exact ⟨b, off, o, A9, c9, rfl, ho, hbl, hcell 0 (by omega), hcell 1 (by omega), hcell 2 (by omega), hr⟩
theorem told_retrows {w w' : World} {rows : List (List V)} {e : Ending} (h : RetRows w rows e w') : ∃ A c, e = .returned (.slice A rows.length c) ∧ Ext w w' ∧ ∀ P : Nat → Prop, (∀ b, w.heap.size ≤ b → b < w'.heap.size → P b) → Told w' P A rows.length c rows := by
  obtain ⟨A, n, c, cells, rfl, rfl, h3, h4, h5⟩ := h
  exact ⟨A, c, rfl, h5, fun P hP => (show MineV w.heap.size w' A rows.length c rows from ⟨cells, rfl, h3, h4⟩).told hP⟩
/-- a node that was made, and what stands beside it: the document's -/
theorem MadeN.np {s : SP} {w w' : World} {e : Ending} (h : MadeN s w w' e) : (s.good = false ∧ e = .returned (.tuple #[.pointer none, .pointer none, .bool true]) ∧ Ext w w') ∨
    (s.good = true ∧ ∃ n d l b, e = .returned (.tuple #[.pointer (some ⟨n, 0, none⟩), .pointer (some ⟨d, 0, none⟩), .bool true]) ∧ NP w w' n l (nkOf s) emptyN 262144 (fun x => b ≤ x ∧ x < w'.heap.size) ∧ w.heap.size ≤ b ∧ DocNew b w' d s) := by
  obtain ⟨hx, ⟨h1, h2⟩ | ⟨h1, n, d, B, b, h2, h3, h4, h5, h6⟩⟩ := h
  · exact .inl ⟨h1, h2, hx⟩
  · obtain ⟨lab, v, q1, q2, q3⟩ := h3.at_
    exact .inr ⟨h1, n, d, v.l, b, h2, ⟨h3.ok, h3.now, h3.old, ⟨lab, v, q1, q2, rfl, fun x hx => ⟨(h4 x (q3 x hx)).1, fun hp => by have := (h4 x (q3 x hx)).2; omega⟩⟩, hx, fun x hx => hx.2⟩, h5, h6⟩
end Go.Proofs.YtahdiiaadjdmcaaGreat

namespace Go.Proofs.YtahdiiaadjdmcaaGreat
open Go.RowKit

theorem NOk.liveFit {K : NK} {s : NSt} (h : NOk K s) : ∀ r ∈ s.live, Fit K.width r := fun r hr => by
  by_cases h3 : K.kind = 3
  · exact h.ons r ((h.meet h3 r).1 hr).1
  · rw [h.plain h3] at hr
    exact h.ons r hr
theorem NOk.liveLen {K : NK} (hK : NKOk K) {s : NSt} (h : NOk K s) : s.live.length ≤ 65536 := by
  have h1 := h.most; have h2 := hK.most
  by_cases h3 : K.kind = 3
  · have := nodup_sub_len h.lnd fun r hr => ((h.meet h3 r).1 hr).1
    omega
  · rw [h.plain h3]; omega
theorem NKOk.width {K : NK} (h : NKOk K) : K.width ≤ 30 := by
  have h1 := h.inn; have h2 := h.keep.1
  unfold NK.width
  split <;> omega
theorem fit_len {w : Nat} {r : List V} (h : Fit w r) (hw : w ≤ 30) : r.length ≤ 30 := by
  have h1 := h.1
  unfold fitsR at h1
  simp only [Bool.and_eq_true, decide_eq_true_eq] at h1
  omega
theorem NOk.liveSmall {K : NK} (hK : NKOk K) {s : NSt} (h : NOk K s) : ∀ r ∈ s.live, r.length ≤ 30 := fun r hr => fit_len (h.liveFit r hr) hK.width
theorem delR_snoc {r : List V} : ∀ {l : List (List V)}, r ∉ l → delR r (l ++ [r]) = l
  | [], _ => by simp [delR, sameR_self]
  | s :: l, h => by
    rw [List.mem_cons, not_or] at h
    rw [List.cons_append]
    unfold delR
    rw [sameR_ne (fun e => h.1 e.symm), delR_snoc h.2]; rfl
theorem turn_fail {K : NK} {s : NSt} {on : Bool} {f : Int} {r : List V} (h : (turnN K s on f r).2.2.2 ≠ 0) : (turnN K s on f r).1 = s ∧ (turnN K s on f r).2.1 = [] ∧ (turnN K s on f r).2.2.1 = [] := by
  revert h
  unfold turnN sideN sourceN leafN trimN
  repeat' split
  all_goals first | exact fun _ => ⟨rfl, rfl, rfl⟩ | exact fun h => absurd rfl h
/-- what a turn tells is small -/
def Little (l : List (List V)) : Prop := l.length ≤ 65536 ∧ ∀ q ∈ l, q.length ≤ 30
theorem Little.nil : Little [] := ⟨by simp, fun _ h => by cases h⟩
theorem Little.one {q : List V} (h : q.length ≤ 30) : Little [q] := ⟨by simp, fun x hx => by obtain rfl := List.mem_singleton.1 hx; exact h⟩
theorem little_side {K : NK} (hK : NKOk K) {s : NSt} (h : NOk K s) (r : List V) : Little (ofSide K s r) := by
  unfold ofSide
  refine ⟨?_, fun q hq => fit_len (h.ons q (List.mem_filter.1 hq).1) hK.width⟩
  have h1 := List.length_filter_le (fun x => sameR (keyR K.side x) r) s.ons
  have h2 := h.most; have h3 := hK.most
  omega
theorem fits_len {w : Nat} {r : List V} (h : fitsR w r = true) (hw : w ≤ 30) : r.length ≤ 30 := by
  unfold fitsR at h
  simp only [Bool.and_eq_true, decide_eq_true_eq] at h
  omega
theorem turn_told {K : NK} (hK : NKOk K) {s : NSt} (h : NOk K s) (on : Bool) (f : Int) {r : List V} (hs : smallR r) (hw : wfR r) : Little (turnN K s on f r).2.1 ∧ Little (turnN K s on f r).2.2.1 := by
  have hb := little_side hK h r
  unfold turnN
  split
  · split
    · unfold sideN
      repeat' split
      all_goals exact ⟨by first | exact hb | exact Little.nil, by first | exact hb | exact Little.nil⟩
    · exact ⟨Little.nil, Little.nil⟩
  · split
    · exact ⟨Little.nil, Little.nil⟩
    · split
      · rename_i hf
        have h1 := Little.one (fits_len hf hK.inn)
        split
        · have h2 : Little [keyR K.keep r] := Little.one (by
            have := (keyR_good hf hs hw hK.keep.1 hK.keep.2).len
            have := hK.keep.1; omega)
          unfold trimN
          repeat' split
          all_goals exact ⟨by first | exact h2 | exact Little.nil, by first | exact h2 | exact Little.nil⟩
        · split
          · unfold sourceN
            repeat' split
            all_goals exact ⟨by first | exact h1 | exact Little.nil, by first | exact h1 | exact Little.nil⟩
          · unfold leafN
            repeat' split
            all_goals exact ⟨by first | exact h1 | exact Little.nil, by first | exact h1 | exact Little.nil⟩
      · exact ⟨Little.nil, Little.nil⟩
/-- what is flipped on is live more; what is taken off again is as it was -/
def BackOk (K : NK) (s : NSt) (t u : Turn) : Prop := t.1.live.length = s.live.length + t.2.1.length ∧ u.2.2.2 = 0 ∧ u.2.1 = t.2.1 ∧ u.2.2.1 = t.2.2.1 ∧ u.1.live = s.live ∧ storedN K u.1 = storedN K s
theorem back_side {K : NK} {s : NSt} (h : NOk K s) (h3 : K.kind = 3) {r : List V} (hz : (sideN K s true r).2.2.2 = 0) : BackOk K s (sideN K s true r) (sideN K (sideN K s true r).1 false r) := by
  unfold sideN at hz
  by_cases h1 : inB s.sides r = true
  · rw [if_pos rfl, if_pos h1] at hz
    exact absurd hz (by show (191 : Int) ≠ 0; omega)
  · by_cases h2 : s.sides.length < K.most
    · have e1 : sideN K s true r = ({ s with sides := s.sides ++ [r], live := s.live ++ ofSide K s r }, ofSide K s r, ofSide K s r, 0) := by
        unfold sideN; rw [if_pos rfl, if_neg h1, if_pos h2]
      have hr : r ∉ s.sides := fun hm => h1 (inB_iff.2 hm)
      have e2 : sideN K { s with sides := s.sides ++ [r], live := s.live ++ ofSide K s r } false r = ({ s with sides := s.sides, live := s.live }, ofSide K s r, ofSide K s r, 0) := by
        unfold sideN
        rw [if_neg (by decide), if_pos (inB_iff.2 (List.mem_append_right _ (List.mem_singleton.2 rfl)))]
        have e3 : (s.live ++ ofSide K s r).filter (fun x => !sameR (keyR K.side x) r) = s.live := by
          rw [List.filter_append, filter_nil (l := ofSide K s r), List.append_nil]
          · refine filter_all fun x hx => ?_
            have := ((h.meet h3 x).1 hx).2
            rw [sameR_ne (fun e : keyR K.side x = r => hr (e ▸ this))]; rfl
          · intro x hx
            rw [(mem_ofSide.1 hx).2, sameR_self]; rfl
        show (_, _, _, _) = _
        rw [delR_snoc hr, e3]
        rfl
      rw [e1]
      show BackOk K s _ (sideN K { s with sides := s.sides ++ [r], live := s.live ++ ofSide K s r } false r)
      rw [e2]
      exact ⟨List.length_append, rfl, rfl, rfl, rfl, rfl⟩
    · rw [if_pos rfl, if_neg h1, if_neg h2] at hz
      exact absurd hz (by show (31 : Int) ≠ 0; omega)
theorem back_source {K : NK} {s : NSt} (h : NOk K s) (h3 : K.kind = 3) {r : List V} (hz : (sourceN K s true r).2.2.2 = 0) : BackOk K s (sourceN K s true r) (sourceN K (sourceN K s true r).1 false r) := by
  unfold sourceN at hz
  by_cases h1 : inB s.ons r = true
  · rw [if_pos rfl, if_pos h1] at hz
    exact absurd hz (by show (191 : Int) ≠ 0; omega)
  · by_cases h2 : s.ons.length < K.most
    · have hr : r ∉ s.ons := fun hm => h1 (inB_iff.2 hm)
      have hl : r ∉ s.live := fun hm => hr ((h.meet h3 r).1 hm).1
      have hin : inB (s.ons ++ [r]) r = true := inB_iff.2 (List.mem_append_right _ (List.mem_singleton.2 rfl))
      by_cases h4 : inB s.sides (keyR K.side r) = true
      · have e1 : sourceN K s true r = ({ s with ons := s.ons ++ [r], live := s.live ++ [r] }, [r], [r], 0) := by
          unfold sourceN; rw [if_pos rfl, if_neg h1, if_pos h2, if_pos h4]
        have e2 : sourceN K { s with ons := s.ons ++ [r], live := s.live ++ [r] } false r = ({ s with ons := s.ons, live := s.live }, [r], [r], 0) := by
          unfold sourceN
          rw [if_neg (by decide), if_pos hin, if_pos (inB_iff.2 (List.mem_append_right _ (List.mem_singleton.2 rfl)))]
          show (_, _, _, _) = _
          rw [delR_snoc hr, delR_snoc hl]
        rw [e1]
        show BackOk K s _ (sourceN K { s with ons := s.ons ++ [r], live := s.live ++ [r] } false r)
        rw [e2]
        exact ⟨List.length_append, rfl, rfl, rfl, rfl, rfl⟩
      · have e1 : sourceN K s true r = ({ s with ons := s.ons ++ [r] }, [], [r], 0) := by
          unfold sourceN; rw [if_pos rfl, if_neg h1, if_pos h2, if_neg h4]
        have e2 : sourceN K { s with ons := s.ons ++ [r] } false r = ({ s with ons := s.ons }, [], [r], 0) := by
          unfold sourceN
          rw [if_neg (by decide), if_pos hin, if_neg (fun hm => hl (inB_iff.1 hm))]
          show (_, _, _, _) = _
          rw [delR_snoc hr]
        rw [e1]
        show BackOk K s _ (sourceN K { s with ons := s.ons ++ [r] } false r)
        rw [e2]
        exact ⟨rfl, rfl, rfl, rfl, rfl, rfl⟩
    · rw [if_pos rfl, if_neg h1, if_neg h2] at hz
      exact absurd hz (by show (31 : Int) ≠ 0; omega)
theorem stored_ne3 {K : NK} (h3 : K.kind ≠ 3) (s : NSt) : storedN K s = s.live.length := if_neg h3
theorem back_leaf {K : NK} {s : NSt} (h3 : K.kind ≠ 3) {r : List V} (hz : (leafN K s true r).2.2.2 = 0) : BackOk K s (leafN K s true r) (leafN K (leafN K s true r).1 false r) := by
  unfold leafN at hz
  by_cases h1 : inB s.live r = true
  · rw [if_pos rfl, if_pos h1] at hz
    exact absurd hz (by show (191 : Int) ≠ 0; omega)
  · by_cases h2 : s.live.length < K.most
    · have hl : r ∉ s.live := fun hm => h1 (inB_iff.2 hm)
      have e1 : leafN K s true r = ({ s with ons := s.ons ++ [r], live := s.live ++ [r] }, [r], [r], 0) := by
        unfold leafN; rw [if_pos rfl, if_neg h1, if_pos h2]
      have e2 : leafN K { s with ons := s.ons ++ [r], live := s.live ++ [r] } false r = ({ s with ons := delR r (s.ons ++ [r]), live := s.live }, [r], [r], 0) := by
        unfold leafN
        rw [if_neg (by decide), if_pos (inB_iff.2 (List.mem_append_right _ (List.mem_singleton.2 rfl)))]
        show (_, _, _, _) = _
        rw [delR_snoc hl]
      rw [e1]
      show BackOk K s _ (leafN K { s with ons := s.ons ++ [r], live := s.live ++ [r] } false r)
      rw [e2]
      exact ⟨List.length_append, rfl, rfl, rfl, rfl, by rw [stored_ne3 h3, stored_ne3 h3]⟩
    · rw [if_pos rfl, if_neg h1, if_neg h2] at hz
      exact absurd hz (by show (31 : Int) ≠ 0; omega)
theorem back_trim {K : NK} {s : NSt} (h : NOk K s) (hk : K.kind = 2) {own : List V} (hz : (trimN K s true own).2.2.2 = 0) : BackOk K s (trimN K s true own) (trimN K (trimN K s true own).1 false own) := by
  have h3 : K.kind ≠ 3 := by omega
  have hlv := h.plain h3
  have hlen := (h.cnt hk).1
  have hpos := cntL_pos hlen (fun c hc => ((h.cnt hk).2 c hc).1) own
  unfold trimN at hz
  by_cases h1 : cntL s.ons s.cnt own = 65536
  · rw [if_pos rfl, if_pos h1] at hz
    exact absurd hz (by show (31 : Int) ≠ 0; omega)
  · by_cases h2 : cntL s.ons s.cnt own = 0
    · have hr : own ∉ s.ons := fun hm => by have := hpos.1 hm; omega
      by_cases h4 : s.live.length < K.most
      · have e1 : trimN K s true own = ({ s with ons := s.ons ++ [own], cnt := s.cnt ++ [1], live := s.live ++ [own] }, [own], [own], 0) := by
          unfold trimN; rw [if_pos rfl, if_neg h1, if_pos h2, if_pos h4]
        have hc := cntL_app own 1 hr hlen
        rw [if_pos rfl] at hc
        have e2 : (trimN K { s with ons := s.ons ++ [own], cnt := s.cnt ++ [1], live := s.live ++ [own] } false own) = ({ s with ons := delR own (s.ons ++ [own]), cnt := (s.cnt ++ [1]).eraseIdx ((ixR own (s.ons ++ [own])).getD 0), live := delR own (s.live ++ [own]) }, [own], [own], 0) := by
          unfold trimN
          rw [if_neg (by decide), if_neg (by show ¬ cntL (s.ons ++ [own]) (s.cnt ++ [1]) own = 0; omega), if_pos (by exact hc)]
        rw [e1]
        show BackOk K s _ (trimN K { s with ons := s.ons ++ [own], cnt := s.cnt ++ [1], live := s.live ++ [own] } false own)
        rw [e2]
        have hd : delR own (s.live ++ [own]) = s.live := delR_snoc (by rw [hlv]; exact hr)
        exact ⟨List.length_append, rfl, rfl, rfl, hd, by rw [stored_ne3 h3, stored_ne3 h3]; exact congrArg List.length hd⟩
      · rw [if_pos rfl, if_neg h1, if_pos h2, if_neg h4] at hz
        exact absurd hz (by show (31 : Int) ≠ 0; omega)
    · have e1 : trimN K s true own = ({ s with cnt := s.cnt.set ((ixR own s.ons).getD 0) (cntL s.ons s.cnt own + 1) }, [], [own], 0) := by
        unfold trimN; rw [if_pos rfl, if_neg h1, if_neg h2]
      have hr : own ∈ s.ons := Classical.byContradiction fun hm => h2 (hpos.2 hm)
      obtain ⟨i, hi⟩ := ixR_some hr
      have hg : (ixR own s.ons).getD 0 = i := by rw [hi]; rfl
      have hc := cntL_set (c := cntL s.ons s.cnt own + 1) own hlen hi
      rw [if_pos rfl] at hc
      rw [e1, hg]
      show BackOk K s _ (trimN K { s with cnt := s.cnt.set i (cntL s.ons s.cnt own + 1) } false own)
      have e2 : trimN K { s with cnt := s.cnt.set i (cntL s.ons s.cnt own + 1) } false own = ({ s with cnt := (s.cnt.set i (cntL s.ons s.cnt own + 1)).set ((ixR own s.ons).getD 0) (cntL s.ons (s.cnt.set i (cntL s.ons s.cnt own + 1)) own - 1) }, [], [own], 0) := by
        unfold trimN
        rw [if_neg (by decide), if_neg (by show ¬ cntL s.ons (s.cnt.set i (cntL s.ons s.cnt own + 1)) own = 0; omega), if_neg (by show ¬ cntL s.ons (s.cnt.set i (cntL s.ons s.cnt own + 1)) own = 1; omega)]
      rw [e2]
      exact ⟨rfl, rfl, rfl, rfl, rfl, by rw [stored_ne3 h3, stored_ne3 h3]⟩
theorem back_law {K : NK} {s : NSt} (h : NOk K s) {f : Int} {r : List V} (hz : (turnN K s true f r).2.2.2 = 0) : BackOk K s (turnN K s true f r) (turnN K (turnN K s true f r).1 false f r) := by
  unfold turnN at hz ⊢
  by_cases h1 : f = 2 ∧ K.kind = 3
  · rw [if_pos h1] at hz
    simp only [if_pos h1]
    by_cases h2 : fitsR K.side.length r = true
    · rw [if_pos h2] at hz
      simp only [if_pos h2]
      exact back_side h h1.2 hz
    · rw [if_neg h2] at hz
      exact absurd hz (by show (62 : Int) ≠ 0; omega)
  · rw [if_neg h1] at hz
    simp only [if_neg h1]
    by_cases h2 : f ≠ 1
    · rw [if_pos h2] at hz
      exact absurd hz (by show (190 : Int) ≠ 0; omega)
    · rw [if_neg h2] at hz
      simp only [if_neg h2]
      by_cases h3 : fitsR K.inn r = true
      · rw [if_pos h3] at hz
        simp only [if_pos h3]
        by_cases h4 : K.kind = 2
        · rw [if_pos h4] at hz
          simp only [if_pos h4]
          exact back_trim h h4 hz
        · rw [if_neg h4] at hz
          simp only [if_neg h4]
          by_cases h5 : K.kind = 3
          · rw [if_pos h5] at hz
            simp only [if_pos h5]
            exact back_source h h5 hz
          · rw [if_neg h5] at hz
            simp only [if_neg h5]
            exact back_leaf h5 hz
      · rw [if_neg h3] at hz
        exact absurd hz (by show (62 : Int) ≠ 0; omega)
end Go.Proofs.YtahdiiaadjdmcaaGreat
