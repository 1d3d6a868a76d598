/-
  Copies and answers, as lists that can be read.
-/
import Derived.Test.YtpfjkjmimmklcaaNaiH
namespace Go.Proofs.Ytpfjkjmimmklcaa
open Go.RowKit

def smallTab (M : Nat) (t : Tbl) : Prop := t.rows.length ≤ M ∧ ∀ r ∈ t.rows, r.length ≤ M
theorem RBM.other {b b1 s1 n1 : Nat} {w w' : World} {e1 : TypeId} {v1 : Value} {x1 cs : List Value} {t : Tbl} (h : RBM b w cs t) (h1 : w.ownsRow b1 e1 s1 v1 n1 x1) (hne : e1 ≠ 58) (hne2 : e1 ≠ 35) (hg : w.grownBy w' v1.ownBlock) : RBM b w' cs t := by
  obtain ⟨A, n, c, cells, h2, h3, h4, h5⟩ := h
  exact ⟨A, n, c, cells, h2, h3, mine_other h4 h1 hne2 hg, h5.mono fun _ _ hx => hx.other h1 hne hg⟩
theorem copy_qt (q : Qy) (L : QLoc) (w : World) (hq : QAt w L q) (hM : smallM 1048576 q) :
    Calls Try.prog 14 #[qval q.name L] w fun e w' => ∃ A n c B m d, e = .returned (.agg #[.string q.name, .slice A n c, .slice B m d]) ∧ QAt w' ⟨A, n, c, B, m, d⟩ q ∧ Ext w w' :=
  (copy_query q L w hq hM).mono fun _ _ ⟨⟨A, n, c, B, m, d⟩, h1, h2, h3⟩ => ⟨A, n, c, B, m, d, h1, h2.qat, h3⟩
theorem answers_lat (q : Qy) (L : QLoc) (data : List Tbl) (B : Option Addr) (m c : Nat) (most : Int) (w : World) (hq : QAt w L q) (hM : smallM 1048576 q) (hb : LAt RB 2 w B m data) (hm : m ≤ 1048576) (hsum : (data.flatMap Tbl.rows).length ≤ 1099511627776)
    (hrow : ∀ t ∈ data, ∀ r ∈ t.rows, r.length ≤ 1048576) :
    Calls Try.prog 13 #[qval q.name L, .slice B m c, .int .i64 most] w fun e w' => ∃ A c, e = .returned (.tuple #[.slice A (answersP q data most).1.length c, .int .i64 (answersP q data most).2]) ∧ LAt RRow 1 w' A (answersP q data most).1.length (answersP q data most).1 ∧ Ext w w' :=
  (answers_any q L data B m c most w hq hM hb hm hsum hrow).mono fun _ _ ⟨A, c, _, h1, h2, h3, h4⟩ => ⟨A, c, h1, mine_lat rfl h2 h3, h4⟩
/-- a value that reads as the query -/
def QIs (q : Qy) : Value → World → Prop := fun u w => ∃ L, u = qval q.name L ∧ QAt w L q
theorem QIs.ext {q : Qy} {u : Value} {w w' : World} (hw : Ext w w') (h : QIs q u w) : QIs q u w' := by
  obtain ⟨L, h1, h2⟩ := h
  exact ⟨L, h1, h2.ext hw⟩
theorem copy_qis {q : Qy} {L : QLoc} {w : World} (hq : QAt w L q) (hM : smallM 1048576 q) :
    Calls Try.prog 14 #[.agg #[.string q.name, .slice L.A L.n L.c, .slice L.B L.m L.d]] w fun e w' => ∃ v, e = .returned v ∧ Ext w w' ∧ QIs q v w' :=
  (copy_query q L w hq hM).mono fun _ _ ⟨L', h1, h2, h3⟩ => ⟨_, h1, h3, L', rfl, h2.qat⟩
/-- values that read as tables, as answers with an error's number, as rows -/
def TabsIs (data : List Tbl) (u : Value) (w : World) : Prop := ∃ A c, u = .slice A data.length c ∧ LAt RB 2 w A data.length data
theorem TabsIs.ext {data : List Tbl} {u : Value} {w w' : World} (h : TabsIs data u w) (hw : Ext w w') : TabsIs data u w' := by
  obtain ⟨A, c, h1, h2⟩ := h
  exact ⟨A, c, h1, h2.ext RB.stab hw⟩
def AnsIs (rows : List (List V)) (e : Int) (u : Value) (w : World) : Prop := ∃ A c, u = .tuple #[.slice A rows.length c, .int .i64 e] ∧ LAt RRow 1 w A rows.length rows
theorem AnsIs.ext {rows : List (List V)} {e : Int} {u : Value} {w w' : World} (h : AnsIs rows e u w) (hw : Ext w w') : AnsIs rows e u w' := by
  obtain ⟨A, c, h1, h2⟩ := h
  exact ⟨A, c, h1, h2.ext RRow.stab hw⟩
def RowsIs (rows : List (List V)) (u : Value) (w : World) : Prop := ∃ A c, u = .slice A rows.length c ∧ LAt RRow 1 w A rows.length rows
theorem RowsIs.ext {rows : List (List V)} {u : Value} {w w' : World} (h : RowsIs rows u w) (hw : Ext w w') : RowsIs rows u w' := by
  obtain ⟨A, c, h1, h2⟩ := h
  exact ⟨A, c, h1, h2.ext RRow.stab hw⟩
theorem copy_tabsIs {data : List Tbl} {A : Option Addr} {n c : Nat} {w : World} (ha : LAt RB 2 w A n data) (hn : n ≤ 16777216) (hr : ∀ t ∈ data, smallTab 16777216 t) :
    Calls Try.prog 15 #[.slice A n c] w fun e w' => ∃ u, e = .returned u ∧ Ext w w' ∧ TabsIs data u w' :=
  (copy_tabs data A n c w ha hn hr).mono fun _ _ ⟨A', _, c', _, h1, h2, h3, h4, h5⟩ => ⟨_, h1, h5, A', c', by rw [h2], h2 ▸ tabs_lat h2 h3 h4⟩
end Go.Proofs.Ytpfjkjmimmklcaa
