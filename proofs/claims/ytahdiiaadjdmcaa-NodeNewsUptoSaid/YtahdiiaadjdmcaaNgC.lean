/-
  node: a leaf's turns.
  node: a trim's own row and its key; its counts.
  node: a trim's turns.
-/
import Derived.Test.YtahdiiaadjdmcaaNgB
namespace Go.Proofs.Ytahdiiaadjdmcaa
open Go.RowKit

theorem workC_leaf {K : NK} (hk : K.kind = 1) (v : NdV) : workS K = 76 ∧ workC K v = #[ptr v.l] := by
  unfold workS workC
  rw [if_neg (by omega), if_neg (by omega), if_neg (by omega), if_neg (by omega)]
  exact ⟨rfl, rfl⟩
/-- a leaf's structs and blocks say nothing of what is on -/
theorem NdR.leaf {w : World} {lab : Lab} {K : NK} {v : NdV} {a a' : NAbs} {N : Nat} (h : NdR w lab K v a N) (hk : K.kind = 1) : NdR w lab K v a' N :=
  ⟨h.lt, fun i => match i, h.part i with
    | 0, hp => hp
    | 1, _ => trivial
    | 2, _ => fun h3 => by omega
    | 3, _ => fun h3 => by omega
    | 4, _ => fun h3 => by omega
    | 5, _ => fun h3 => by omega
    | _ + 6, _ => trivial⟩
theorem NdQ.leaf {w : World} {lab : Lab} {K : NK} {v : NdV} {a a' : NAbs} {S : SAbs} {N : Nat} (h : NdQ w lab K v a S N) (hk : K.kind = 1) : NdQ w lab K v a' S N := ⟨h.r.leaf hk, h.s⟩
theorem two_cells {w : World} {g : Nat} {t : TypeId} {x y : Value} (h : Blk w g t #[x, y]) (u z : Value) : Blk ((w.setCell ⟨g, 0, none⟩ u).setCell ⟨g, 1, none⟩ z) g t #[u, z] := (h.set_ 0 u).set_ 1 z
theorem chg_var (w : World) (g j : Nat) (u : Value) : Chg (fun b => b = g) w (w.setCell ⟨g, j, none⟩ u) := Chg.setCell (B := fun b => b = g) (Chg.refl _ w) (p := ⟨g, j, none⟩) (.inl rfl) u
/-- a result's variable that is none of the node's -/
theorem NdQ.var {w : World} {lab : Lab} {K : NK} {v : NdV} {a : NAbs} {S : SAbs} {N g : Nat} (h : NdQ w lab K v a S N) (hg : ¬ lab.dom g) (j : Nat) (u : Value) : NdQ (w.setCell ⟨g, j, none⟩ u) lab K v a S N :=
  h.chg (chg_var w g j u) fun _ hb e => hg (e ▸ hb)
theorem step_var {w w2 : World} {lab lab2 : Lab} {g : Nat} (h : Step w lab w2 lab2) (hg : w.heap.size ≤ g) (j : Nat) (u : Value) : Step w lab (w2.setCell ⟨g, j, none⟩ u) lab2 :=
  ⟨h.1, h.2.trans (chg_var w2 g j u) fun _ hb hl => by omega⟩
theorem moved_one {T rb : Nat} {D : Nat → Prop} {w2 w4 w5 : World} {A2 : Option Addr} {r : List V} (h2 : MineA w2.heap.size w4 A2 1 1 [r]) (hc : Chg (fun b => b = rb) w4 w5) (hrb : rb < w2.heap.size) (hT : T ≤ w2.heap.size) (hD : ∀ b, D b → b < w2.heap.size) : MovedAt T D w5 [] [r] (.agg #[.slice none 0 0, .slice A2 1 1]) := by
  have hs := hc.size
  refine ⟨none, 0, A2, 1, fun _ => False, fun b => w2.heap.size ≤ b ∧ b < w4.heap.size, rfl, ToldA.nil _ _, ?_, fun _ h => h.elim, fun b hb => ?_⟩
  · exact (h2.toldA (P := fun b => w2.heap.size ≤ b ∧ b < w4.heap.size) fun b h h' => ⟨h, h'⟩).chg hc (fun b hb e => by omega) fun _ h => h
  · rcases hb with hb | hb
    · exact hb.elim
    · exact ⟨by omega, by omega, fun hd => by have := hD b hd; omega⟩
theorem moved_two {T rb : Nat} {D : Nat → Prop} {w2 w3 w4 w5 : World} {A1 A2 : Option Addr} {r : List V} (h1 : MineA w2.heap.size w3 A1 1 1 [r]) (x34 : Ext w3 w4) (h2 : MineA w3.heap.size w4 A2 1 1 [r]) (hc : Chg (fun b => b = rb) w4 w5) (hrb : rb < w2.heap.size) (x23 : w2.heap.size ≤ w3.heap.size) (hT : T ≤ w2.heap.size) (hD : ∀ b, D b → b < w2.heap.size) : MovedAt T D w5 [r] [r] (.agg #[.slice A1 1 1, .slice A2 1 1]) := by
  have hs := hc.size
  have hs2 := x34.size
  refine ⟨A1, 1, A2, 1, fun b => w2.heap.size ≤ b ∧ b < w3.heap.size, fun b => w3.heap.size ≤ b ∧ b < w4.heap.size, rfl, ?_, ?_, fun b h h' => by omega, fun b hb => ?_⟩
  · exact ((h1.toldA (P := fun b => w2.heap.size ≤ b ∧ b < w3.heap.size) fun b h h' => ⟨h, h'⟩).ext x34).chg hc (fun b hb e => by omega) fun _ h => h
  · exact (h2.toldA (P := fun b => w3.heap.size ≤ b ∧ b < w4.heap.size) fun b h h' => ⟨h, h'⟩).chg hc (fun b hb e => by omega) fun _ h => h
  · rcases hb with hb | hb
    · exact ⟨by omega, by omega, fun hd => by have := hD b hd; omega⟩
    · exact ⟨by omega, by omega, fun hd => by have := hD b hd; omega⟩
theorem NdQ.dom {w : World} {lab : Lab} {K : NK} {v : NdV} {a : NAbs} {S : SAbs} {N : Nat} (h : NdQ w lab K v a S N) : ∀ b, lab.dom b → b < w.heap.size := fun b ⟨i, hi⟩ => h.r.lt b i hi
theorem nd_far {w1 w2 : World} {lab lab2 : Lab} {rb : Nat} (st : Step w1 lab w2 lab2) (hd : ¬ lab.dom rb) (hlt : rb < w1.heap.size) : ¬ lab2.dom rb := fun h => (st.1 rb h).elim hd fun h => by omega
theorem turn_nil {w w1 w2 : World} {lab lab2 : Lab} {K : NK} {v : NdV} {a : NAbs} {N rb : Nat} {z : Int} {t : Turn} (ht : t = (a.now, [], [], z)) (x1 : Ext w w1) (st : Step w1 lab w2 lab2) (q : NdQ w2 lab2 K v a (S1 K a) N) (hrb : w.heap.size ≤ rb) (hd : ¬ lab.dom rb) (hlt : rb < w1.heap.size) :
    TurnAt w lab K v a N t (.returned (.tuple #[.agg #[.slice none 0 0, .slice none 0 0], .int .i64 z])) ((w2.setCell ⟨rb, 0, none⟩ (.slice none 0 0)).setCell ⟨rb, 1, none⟩ (.slice none 0 0)) := by
  subst ht
  have hf := nd_far st hd hlt
  exact ⟨_, lab2, rfl, (q.var hf 0 _).var hf 1 _, step_var (step_var (step_on (step_ext x1) st) hrb 0 _) hrb 1 _, MovedAt.nil _ _ _⟩
theorem turn_one {w w1 w2 w4 : World} {lab lab2 : Lab} {K : NK} {v : NdV} {a : NAbs} {N rb : Nat} {s : NSt} {r : List V} {t : Turn} {A2 : Option Addr} (ht : t = (s, [], [r], 0)) (x1 : Ext w w1) (st : Step w1 lab w2 lab2) (q : NdQ w2 lab2 K v { a with now := s } (S1 K { a with now := s }) N) (hrb : w.heap.size ≤ rb) (hd : ¬ lab.dom rb) (hlt : rb < w1.heap.size)
    (h2 : MineA w2.heap.size w4 A2 1 1 [r]) (x24 : Ext w2 w4) :
    TurnAt w lab K v a N t (.returned (.tuple #[.agg #[.slice none 0 0, .slice A2 1 1], .int .i64 0])) ((w4.setCell ⟨rb, 0, none⟩ (.slice none 0 0)).setCell ⟨rb, 1, none⟩ (.slice A2 1 1)) := by
  subst ht
  have hf := nd_far st hd hlt
  have hs2 := st.2.size
  exact ⟨_, lab2, rfl, ((q.ext x24).var hf 0 _).var hf 1 _, step_var (step_var (step_pre (step_on (step_ext x1) st) x24) hrb 0 _) hrb 1 _,
    moved_one h2 ((chg_var w4 rb 0 _).trans' (chg_var _ rb 1 _)) (by omega) (by have := x1.size; omega) q.dom⟩
theorem turn_two {w w1 w2 w3 w4 : World} {lab lab2 : Lab} {K : NK} {v : NdV} {a : NAbs} {N rb : Nat} {s : NSt} {r : List V} {t : Turn} {A1 A2 : Option Addr} (ht : t = (s, [r], [r], 0)) (x1 : Ext w w1) (st : Step w1 lab w2 lab2) (q : NdQ w2 lab2 K v { a with now := s } (S1 K { a with now := s }) N) (hrb : w.heap.size ≤ rb) (hd : ¬ lab.dom rb) (hlt : rb < w1.heap.size)
    (h1 : MineA w2.heap.size w3 A1 1 1 [r]) (x23 : Ext w2 w3) (h2 : MineA w3.heap.size w4 A2 1 1 [r]) (x34 : Ext w3 w4) :
    TurnAt w lab K v a N t (.returned (.tuple #[.agg #[.slice A1 1 1, .slice A2 1 1], .int .i64 0])) ((w4.setCell ⟨rb, 0, none⟩ (.slice A1 1 1)).setCell ⟨rb, 1, none⟩ (.slice A2 1 1)) := by
  subst ht
  have hf := nd_far st hd hlt
  have hs2 := st.2.size
  exact ⟨_, lab2, rfl, ((q.ext (x23.trans x34)).var hf 0 _).var hf 1 _, step_var (step_var (step_pre (step_on (step_ext x1) st) (x23.trans x34)) hrb 0 _) hrb 1 _,
    moved_two h1 x34 h2 ((chg_var w4 rb 0 _).trans' (chg_var _ rb 1 _)) (by omega) x23.size (by have := x1.size; omega) q.dom⟩
section
variable {w : World} {lab : Lab} {K : NK} {v : NdV} {a : NAbs} {N : Nat}
set_option maxRecDepth 100000 in
set_option maxHeartbeats 1000000 in
theorem leaf_on (h : NdQ w lab K v a (S1 K a) N) (hk : K.kind = 1) (hN : N + 262145 ≤ 8796093022208) (from_ : Int) {r : List V} {A : Option Addr} {n : Nat} (c : Nat) (ha : ArgR w A n r) (hf : fitsR K.inn r = true) (hA : Aside lab.dom A) :
    Calls Try.prog 106 #[.pointer (some ⟨v.k, 0, none⟩), .int .i64 from_, .slice A n c] w (TurnAt w lab K v a (N + 262145) (leafN K a.now true r)) := by
  have hE1 := Ext.alloc w (.cells #[.slice none 0 0, .slice none 0 0] 53)
  have hq := h.ext hE1
  have HS := hide (put_st hq.s hN c (ha.ext hE1) (fun x hx hb => hA x hx ⟨1, hb⟩))
  have RB := hide (Blk.new w 53 #[.slice none 0 0, .slice none 0 0])
  have hw := workC_leaf hk v
  have k0 := hq.r.wk.cell 0
  rw [hw.2] at k0
  have k0 : (w.alloc (.cells #[.slice none 0 0, .slice none 0 0] 53)).cell? ⟨v.k, 0, none⟩ = some (.pointer (some ⟨v.l, 0, none⟩)) := k0
  have a6 := hq.r.rows6
  have hfit : fitsR (S1 K a).width r = true := by unfold S1 NK.width; rw [if_neg (by omega)]; exact hf
  have HQ := hide hq; have HA := hide (ha.ext hE1); have HE := hide hE1; have HRB := hide (show ¬ lab.dom w.heap.size from fun ⟨i, hi⟩ => by have := h.r.lt _ _ hi; omega)
  have HA0 := hide ha; have HAS := hide hA
  clear h ha hA hq hw hf hE1
  have hS : (S1 K a).rows = a.now.live ∧ (S1 K a).most = K.most := ⟨rfl, rfl⟩
  obtain ⟨t, ht⟩ : ∃ t, leafN K a.now true r = t := ⟨_, rfl⟩
  rw [ht]
  have HT := hide ht
  obtain ⟨rb, hrb⟩ : ∃ rb, w.heap.size = rb := ⟨_, rfl⟩
  have HR := hide (Nat.le_of_eq hrb)
  rw [hrb] at RB HRB
  clear ht
  go_enter Try.func106, Try.ntmps106
  go_upto_region 1 with fail
  generalize hw1 : w.alloc (.cells #[.slice none 0 0, .slice none 0 0] 53) = w1 at *
  clear hrb hw1
  cases hin : inB a.now.live r with
  | true =>
    have hput : putS (S1 K a) r = (S1 K a, false, 0) := by unfold putS; rw [hfit, hS.1, hin]; rfl
    rw [hput] at HS
    have ht : t = (a.now, [], [], 191) := by rw [← HT.out]; unfold leafN; rw [hin]; rfl
    have HT := hide ht
    clear hput hin hS hfit ht
    go_upto_region 5 with ((with_reducible refine HS.out.mono ?_); rintro e w2 ⟨rfl, h2⟩; have T2 := hide (HQ.out.live (Nat.le_add_right N 262145) h2); clear h2)
    obtain ⟨lab2, q2, st2⟩ := T2.out
    have Q2 := hide q2; have ST2 := hide st2
    have B2 := hide (st2.2.blk RB.out HRB.out)
    clear q2 st2 T2
    have f0 := B2.out.frozen 0
    have f1 := B2.out.frozen 1
    have c0 : _ = some (Value.slice none 0 0) := B2.out.cell 0
    have c1 : _ = some (Value.slice none 0 0) := B2.out.cell 1
    go_wp2_with fail
    have R := (two_cells B2.out (.slice none 0 0) (.slice none 0 0))
    have r0 := R.cell 0
    have r1 := R.cell 1
    refine bodyPost_ret (v := .tuple #[.agg #[.slice none 0 0, .slice none 0 0], .int .i64 191]) (by simp [results, Try.results106, go_sem, r0, r1]) rfl ?_
    exact turn_nil HT.out HE.out ST2.out Q2.out HR.out HRB.out RB.out.lt
  | false =>
    by_cases hm : a.now.live.length < K.most
    · have hput : putS (S1 K a) r = ({ S1 K a with rows := a.now.live ++ [r] }, true, 0) := by unfold putS; rw [hfit, hS.1, hin, hS.2, if_pos hm]; rfl
      rw [hput] at HS
      have ht : t = ({ a.now with ons := a.now.ons ++ [r], live := a.now.live ++ [r] }, [r], [r], 0) := by rw [← HT.out]; unfold leafN; rw [hin, if_pos hm]; rfl
      have HT := hide ht
      clear hput hin hS hfit ht hm
      go_upto_region 6 with ((with_reducible refine HS.out.mono ?_); rintro e w2 ⟨rfl, h2⟩; have T2 := hide (HQ.out.live (Nat.le_add_right N 262145) h2); clear h2)
      obtain ⟨lab2, q2, st2⟩ := T2.out
      have Q2 := hide (show NdQ w2 lab2 K v { a with now := { a.now with ons := a.now.ons ++ [r], live := a.now.live ++ [r] } } (S1 K { a with now := { a.now with ons := a.now.ons ++ [r], live := a.now.live ++ [r] } }) (N + 262145) from q2.leaf hk); have ST2 := hide st2
      have B2 := hide (st2.2.blk RB.out HRB.out)
      have HA2 := hide (HA.out.stays (B := lab.dom) HAS.out st2.2)
      clear q2 st2 T2
      have HO := hide (fun (w5 : World) (h5 : Ext w2 w5) => one_any c (HA2.out.ext h5))
      go_wp2_with (first
        | ((with_reducible refine (HO.out w2 (Ext.refl _)).mono ?_); rintro e w3 ⟨A1, rfl, h1, x1⟩; have O1 := hide h1; have X1 := hide x1; clear h1 x1)
        | ((with_reducible refine (HO.out w3 X1.out).mono ?_); rintro e w4 ⟨A2, rfl, h1, x1⟩; have O2 := hide h1; have X2 := hide x1; have B4 := hide (B2.out.ext (X1.out.trans X2.out)); have f0 := B4.out.frozen 0; have f1 := B4.out.frozen 1; have c0 : _ = some (Value.slice none 0 0) := B4.out.cell 0; have c1 : _ = some (Value.slice none 0 0) := B4.out.cell 1; clear h1 x1))
      have R := (two_cells B4.out (.slice A1 1 1) (.slice A2 1 1))
      have r0 := R.cell 0
      have r1 := R.cell 1
      refine bodyPost_ret (v := .tuple #[.agg #[.slice A1 1 1, .slice A2 1 1], .int .i64 0]) (by simp [results, Try.results106, go_sem, r0, r1]) rfl ?_
      exact turn_two HT.out HE.out ST2.out Q2.out HR.out HRB.out RB.out.lt O1.out X1.out O2.out X2.out
    · have hput : putS (S1 K a) r = (S1 K a, false, 31) := by unfold putS; rw [hfit, hS.1, hin, hS.2, if_neg hm]; rfl
      rw [hput] at HS
      have ht : t = (a.now, [], [], 31) := by rw [← HT.out]; unfold leafN; rw [hin, if_neg hm]; rfl
      have HT := hide ht
      clear hput hin hS hfit ht hm
      go_upto_region 3 with ((with_reducible refine HS.out.mono ?_); rintro e w2 ⟨rfl, h2⟩; have T2 := hide (HQ.out.live (Nat.le_add_right N 262145) h2); clear h2)
      obtain ⟨lab2, q2, st2⟩ := T2.out
      have Q2 := hide q2; have ST2 := hide st2
      have B2 := hide (st2.2.blk RB.out HRB.out)
      clear q2 st2 T2
      have f0 := B2.out.frozen 0
      have f1 := B2.out.frozen 1
      have c0 : _ = some (Value.slice none 0 0) := B2.out.cell 0
      have c1 : _ = some (Value.slice none 0 0) := B2.out.cell 1
      go_wp2_with fail
      have R := (two_cells B2.out (.slice none 0 0) (.slice none 0 0))
      have r0 := R.cell 0
      have r1 := R.cell 1
      refine bodyPost_ret (v := .tuple #[.agg #[.slice none 0 0, .slice none 0 0], .int .i64 31]) (by simp [results, Try.results106, go_sem, r0, r1]) rfl ?_
      exact turn_nil HT.out HE.out ST2.out Q2.out HR.out HRB.out RB.out.lt
end
end Go.Proofs.Ytahdiiaadjdmcaa

namespace Go.Proofs.Ytahdiiaadjdmcaa
open Go.RowKit

theorem workC_trim {K : NK} (hk : K.kind = 2) (v : NdV) : workS K = 80 ∧ workC K v = #[ptr v.l, .map (some v.m1), v.m2] := by
  unfold workS workC
  rw [if_pos hk, if_pos hk]
  exact ⟨rfl, rfl⟩
theorem run_smap {w : World} (t e : TypeId) (ht : Try.prog.underlying t = some (.map 9 e)) {z : Value} (hz : ∀ w, (zeroValue e).run Try.prog w = .ok z w) {b n : Nat} {σ : SMap} (h : MapS w b n σ) {k : ByteArray} (hk : k.size ≤ maxLen) :
    (Instr.lookup t (.map (some b)) (.string k) false).run Try.prog w = .ok ((σ k).getD z) w := by
  obtain ⟨D, h1, h2⟩ := h
  obtain ⟨v, ps, hrun, hv⟩ := h1.lookup skeyed ht (hz w) (zd := .held z) (zp := []) rfl (skey_of hk)
  have hv' : DataW.held v = D.atKey (skey k) (.held z) := by simpa [valElem] using congrArg (fun o => o.map Prod.fst) hv
  cases hs : σ k with
  | none =>
    have := Maps.atKey_of_not_has (D := D) (k := skey k) (by rw [(h2 k).1, hs]; rfl) (.held z)
    rw [this] at hv'
    obtain rfl := DataW.held.inj hv'
    exact hrun
  | some u =>
    rw [(h2 k).2 u hs] at hv'
    obtain rfl := DataW.held.inj hv'
    exact hrun
theorem strB_size (r : List V) : (strB (pk r)).size ≤ maxLen := by
  have h := pk_le r
  have e : (strB (pk r)).size = (pk r).length := rfl
  rw [e]; unfold maxLen; omega
section
variable {w : World} {lab : Lab} {K : NK} {v : NdV} {a : NAbs} {N : Nat}
theorem NdR.keep {w : World} {lab : Lab} {K : NK} {v : NdV} {a : NAbs} {N : Nat} (h : NdR w lab K v a N) : NumAt w v.kA K.keep.length (K.keep.map Int.ofNat) := (h.part 0).2.2.2.1.1
theorem NdR.sideN {w : World} {lab : Lab} {K : NK} {v : NdV} {a : NAbs} {N : Nat} (h : NdR w lab K v a N) : NumAt w v.sA K.side.length (K.side.map Int.ofNat) := (h.part 0).2.2.2.2.1.1
set_option maxRecDepth 100000 in
theorem trim_own (h : NdR w lab K v a N) (hK : NKOk K) (hk : K.kind = 2) {r : List V} {A : Option Addr} {n : Nat} (c : Nat) (ha : ArgR w A n r) (hf : fitsR K.inn r = true) :
    Calls Try.prog 113 #[.pointer (some ⟨v.k, 0, none⟩), .slice A n c] w fun e w' => ∃ A' c', e = .returned (.tuple #[.slice A' (keyR K.keep r).length c', .string (strB (pk (keyR K.keep r)))]) ∧ ArgR w' A' (keyR K.keep r).length (keyR K.keep r) ∧ (∀ a, A' = some a → w.heap.size ≤ a.block) ∧ Ext w w' := by
  have HP := proj_any r (K.keep.map Int.ofNat) A v.kA n K.keep.length c v.kC w ha.at_ h.keep ha.len (by have := hK.keep.1; omega)
  have hkg := keyR_good hf ha.small ha.wf hK.keep.1 hK.keep.2
  have hw := workC_trim hk v
  have k0 := h.wk.cell 0
  rw [hw.2] at k0
  have k0 : w.cell? ⟨v.k, 0, none⟩ = some (.pointer (some ⟨v.l, 0, none⟩)) := k0
  have l2 := h.kind.2.2.2.2.1
  have HP := hide HP; have HK := hide hkg
  have hlen := hide (show (keyR K.keep r).length ≤ 1048576 from by rw [hkg.len]; have := hK.keep.1; omega)
  have HKR := hide (show (projR r (K.keep.map Int.ofNat)).1 = keyR K.keep r from rfl)
  clear h ha hw hf hkg
  rw [show (keyR K.keep r) = (projR r (K.keep.map Int.ofNat)).1 from rfl] at *
  generalize projR r (K.keep.map Int.ofNat) = res at *
  obtain ⟨own, z⟩ := res
  try dsimp only at *
  go_enter Try.func113, Try.ntmps113
  go_upto_region 2 with ((with_reducible refine HP.out.mono ?_); rintro e w2 ⟨A2, c2, rfl, h2, x2⟩; have O2 := hide h2; have X2 := hide x2; clear h2 x2)
  try dsimp only at *
  have HR2 := hide (row_pack own A2 own.length c2 w2 (RowAt.own O2.out) hlen.out HK.out.small HK.out.wf)
  go_upto_region 3 with ((with_reducible refine HR2.out.mono ?_); rintro e w3 ⟨A3, c3, rfl, h3, x3⟩; have O3 := hide h3; have X3 := hide x3; clear h3 x3)
  have hcv : ∀ w9, Ext w3 w9 → (convert 113 9 (.slice A3 (packRes own).1.length c3)).run Try.prog w9 = .ok (.string (strB (pk own))) w9 := fun w9 h9 => key_conv (k := pk own) ((Sl.own O3.out).ext h9) c3
  refine wp_region_ext 5 (by kernel_rfl) (by kernel_rfl) (by kernel_rfl) ?_
  iterate 5
    refine wpE_k (by kernel_rfl) (by kernel_rfl) ?_
    apply Exists.intro
    refine ⟨fun w1 hw1 => ?_, fun K hK => ?_⟩
    · go_simp; first | done | rfl
    go_simp; refine hK _ _ ?_; clear hK K
  refine wpE_nil ⟨rfl, by kernel_rfl, fun w4 hw4 => ?_⟩
  simp only [EndQ]
  refine wpList_nil ?_
  have X4 := hide hw4
  clear hw4 hcv
  go_wp2_with fail
  go_ret2
  have hx := X3.out.trans X4.out
  exact ⟨A2, c2, rfl, ⟨(RowAt.own O2.out).ext hx, hlen.out, HK.out.small, HK.out.wf⟩, own_ge O2.out, X2.out.trans hx⟩
end
end Go.Proofs.Ytahdiiaadjdmcaa

namespace Go.Proofs.Ytahdiiaadjdmcaa
open Go.RowKit Classical

theorem Fit.inj {k : Nat} {r q : List V} (hr : Fit k r) (hq : Fit k q) (h : strB (pk r) = strB (pk q)) : r = q := by
  have h1 := hr.1
  have h2 := hq.1
  unfold fitsR at h1 h2
  rw [Bool.and_eq_true] at h1 h2
  exact pk_inj h1.2 hr.2.2 h2.2 hq.2.2 (strB_inj h)
/-- the count of an own row is another one -/
theorem CntAt.put {w' : World} {B : Nat → Prop} {K : NK} {b N : Nat} {s s' : NSt} {own : List V} {c n : Nat} {σ : SMap} (hb : B b) (hn : n ≤ N) (hm : MapS w' b n (σ.put (strB (pk own)) (.int .i64 (c : Int)))) (hs : ∀ x, Fit K.width x → σ (strB (pk x)) = if cntL s.ons s.cnt x = 0 then none else some (.int .i64 (cntL s.ons s.cnt x : Nat)))
    (hown : Fit K.width own) (hc : 1 ≤ c) (h : ∀ x, cntL s'.ons s'.cnt x = if x = own then c else cntL s.ons s.cnt x) : CntAt w' B K b N s' := by
  refine ⟨hb, n, _, hn, hm, fun x hx => ?_⟩
  rw [h x]
  unfold SMap.put
  by_cases e : x = own
  · rw [if_pos e, e, if_pos rfl, if_neg (by omega)]
  · rw [if_neg e, if_neg (fun e2 => e (Fit.inj hx hown e2))]
    exact hs x hx
theorem CntAt.del {w' : World} {B : Nat → Prop} {K : NK} {b N : Nat} {s s' : NSt} {own : List V} {n : Nat} {σ : SMap} (hb : B b) (hn : n ≤ N) (hm : MapS w' b n (σ.del (strB (pk own)))) (hs : ∀ x, Fit K.width x → σ (strB (pk x)) = if cntL s.ons s.cnt x = 0 then none else some (.int .i64 (cntL s.ons s.cnt x : Nat)))
    (hown : Fit K.width own) (h : ∀ x, cntL s'.ons s'.cnt x = if x = own then 0 else cntL s.ons s.cnt x) : CntAt w' B K b N s' := by
  refine ⟨hb, n, _, hn, hm, fun x hx => ?_⟩
  rw [h x]
  unfold SMap.del
  by_cases e : x = own
  · rw [if_pos e, e, if_pos rfl]; rfl
  · rw [if_neg e, if_neg (fun e2 => e (Fit.inj hx hown e2))]
    exact hs x hx
theorem NdQ.count {w w' : World} {lab : Lab} {K : NK} {v : NdV} {a a' : NAbs} {S : SAbs} {N M : Nat} (h : NdQ w lab K v a S N) (hk : K.kind = 2) (hM : N ≤ M) (ho : a'.old = a.old) (hC : Chg (lab.own 4) w w') (hc : CntAt w' (lab.own 4) K v.m1 M a'.now) : ∃ lab', NdQ w' lab' K v a' S M ∧ Step w lab w' lab' ∧ ∀ b, lab'.dom b → lab.dom b := by
  have key : ∀ i, i ≠ 4 → npart w' (lab.own i) K v a N i → npart w' (lab.own i) K v a' M i := fun i hi hp => by
    have hp := npart_mono (fun _ h => h) hM i hp
    match i, hi, hp with
    | 0, _, hp => exact hp
    | 1, _, hp => exact trivial
    | 2, _, hp => exact fun h3 => by omega
    | 3, _, hp => exact fun h3 => by omega
    | 4, hi, _ => exact absurd rfl hi
    | 5, _, hp => exact fun h2 => by rw [ho]; exact hp h2
    | _ + 6, _, hp => exact trivial
  obtain ⟨lab', r1, r2, r3, r4, r5⟩ := h.r.turn 4 (v' := v) (a' := a') (N' := M) (fun _ hb => .inl hb) (fun _ hb => Nat.lt_of_lt_of_le (h.r.lt _ 4 hb) hC.size) hC key (fun _ => hc)
  exact ⟨lab', ⟨r1, by rw [r3 1 (by decide)]; exact (h.s.chg hC (own_apart (by decide))).more hM⟩, r5, fun b hb => (r4 b hb).elim id fun h => ⟨4, h⟩⟩
theorem MovedAt.chg {T : Nat} {D D' C : Nat → Prop} {w w' : World} {F U : List (List V)} {y : Value} (h : MovedAt T D w F U y) (hw : Chg C w w') (hC : ∀ b, b < w.heap.size → C b → D b) (hD : ∀ b, b < w.heap.size → D' b → D b) : MovedAt T D' w' F U y := by
  obtain ⟨A, c, A2, c2, P, Q, e, h1, h2, h3, h4⟩ := h
  have hs := hw.size
  refine ⟨A, c, A2, c2, P, Q, e, h1.chg hw (fun b hb hc => ?_) fun _ h => h, h2.chg hw (fun b hb hc => ?_) fun _ h => h, h3, fun b hb => ?_⟩
  · have := h4 b (.inl hb); exact this.2.2 (hC b this.2.1 hc)
  · have := h4 b (.inr hb); exact this.2.2 (hC b this.2.1 hc)
  · have := h4 b hb; exact ⟨this.1, by omega, fun hd => this.2.2 (hD b this.2.1 hd)⟩
def Rg (a b : Nat) : Nat → Prop := fun g => a ≤ g ∧ g < b
theorem MineA.rg {M : Nat} {w w' : World} {A : Option Addr} {n c : Nat} {rows : List (List V)} (h : MineA M w A n c rows) (hw : Ext w w') : ToldA w' (Rg M w.heap.size) A n c rows := (h.toldA fun _ h1 h2 => ⟨h1, h2⟩).ext hw
/-- the result is stored -/
theorem turn_gen {w w1 w8 : World} {lab lab8 : Lab} {K : NK} {v : NdV} {a : NAbs} {N rb : Nat} {s : NSt} {F U : List (List V)} {z : Int} {t : Turn} {x y : Value} (ht : t = (s, F, U, z)) (x1 : Ext w w1) (st : Step w1 lab w8 lab8) (q : NdQ w8 lab8 K v { a with now := s } (S1 K { a with now := s }) N) (hrb : w.heap.size ≤ rb) (hd : ¬ lab.dom rb) (hlt : rb < w1.heap.size)
    (hm : MovedAt w.heap.size (fun b => lab8.dom b ∨ b = rb) w8 F U (.agg #[x, y])) :
    TurnAt w lab K v a N t (.returned (.tuple #[.agg #[x, y], .int .i64 z])) ((w8.setCell ⟨rb, 0, none⟩ x).setCell ⟨rb, 1, none⟩ y) := by
  subst ht
  have hf := nd_far st hd hlt
  exact ⟨_, lab8, rfl, (q.var hf 0 _).var hf 1 _, step_var (step_var (step_on (step_ext x1) st) hrb 0 _) hrb 1 _,
    hm.chg ((chg_var w8 rb 0 x).trans' (chg_var _ rb 1 y)) (fun b _ h => .inr h) fun b _ h => .inl h⟩
section
variable {w : World} {lab : Lab} {K : NK} {v : NdV} {a : NAbs} {N : Nat}
theorem cnt_le {K : NK} {s : NSt} (h : NOk K s) (hk : K.kind = 2) (own : List V) : cntL s.ons s.cnt own ≤ 65536 := by
  rw [cntL_ix]
  cases ixR own s.ons with
  | none => simp
  | some i =>
    cases hi : s.cnt[i]? with
    | none => simp [hi]
    | some c => simpa [hi] using ((h.cnt hk).2 c (List.mem_of_getElem? hi)).2
theorem zeroInt (w : World) : (zeroValue 3).run Try.prog w = .ok (.int .i64 0) w := by kernel_rfl
theorem NdR.counts {S : SAbs} (h : NdQ w lab K v a S N) (hk : K.kind = 2) {own : List V} (hown : Fit K.width own) : w.cell? ⟨v.k, 0, none⟩ = some (.pointer (some ⟨v.l, 0, none⟩)) ∧ w.cell? ⟨v.k, 1, none⟩ = some (.map (some v.m1)) ∧ ∀ w', Ext w w' →
    (Instr.lookup 78 (.map (some v.m1)) (.string (strB (pk own))) false).run Try.prog w' = .ok (.int .i64 (cntL a.now.ons a.now.cnt own : Nat)) w' := by
  have hb := h.r.wk
  rw [(workC_trim hk v).2] at hb
  refine ⟨hb.cell 0, hb.cell 1, fun w' hw => ?_⟩
  obtain ⟨-, n, σ, hn, hm, hs⟩ := h.r.part 4 hk
  rw [run_smap 78 3 Try.underlying78 (z := .int .i64 0) zeroInt (hm.ext hw) (strB_size own), hs own hown]
  split
  · rename_i h0; rw [h0]; rfl
  · rfl
set_option maxRecDepth 100000 in
set_option maxHeartbeats 2000000 in
theorem trim_on (h : NdQ w lab K v a (S1 K a) N) (hK : NKOk K) (hO : NOk K a.now) (hk : K.kind = 2) (hN : N + 262146 ≤ 8796093022208) (from_ : Int) {r : List V} {A : Option Addr} {n : Nat} (c : Nat) (ha : ArgR w A n r) (hf : fitsR K.inn r = true) :
    Calls Try.prog 110 #[.pointer (some ⟨v.k, 0, none⟩), .int .i64 from_, .slice A n c] w (TurnAt w lab K v a (N + 262146) (trimN K a.now true (keyR K.keep r))) := by
  have hE1 := Ext.alloc w (.cells #[.slice none 0 0, .slice none 0 0] 53)
  have hq := h.ext hE1
  have HOwn := hide (trim_own hq.r hK hk c (ha.ext hE1) hf)
  have RB := hide (Blk.new w 53 #[.slice none 0 0, .slice none 0 0])
  have hkg := keyR_good hf ha.small ha.wf hK.keep.1 hK.keep.2
  have hwd : K.width = K.keep.length := by unfold NK.width; rw [if_pos hk]
  have hfk := hide (show Fit K.width (keyR K.keep r) from ⟨by rw [hwd]; unfold fitsR; rw [Bool.and_eq_true]; exact ⟨decide_eq_true hkg.len, hkg.ok⟩, hkg.small, hkg.wf⟩)
  have HQ := hide hq; have HE := hide hE1; have HRB := hide (show ¬ lab.dom w.heap.size from fun ⟨i, hi⟩ => by have := h.r.lt _ _ hi; omega)
  have HDM := hide h.dom; have HO := hide hO
  clear h ha hq hE1 hkg hwd hf hK hO
  generalize keyR K.keep r = own at *
  obtain ⟨t, ht⟩ : ∃ t, trimN K a.now true own = t := ⟨_, rfl⟩
  rw [ht]
  have HT := hide ht
  obtain ⟨rb, hrb⟩ : ∃ rb, w.heap.size = rb := ⟨_, rfl⟩
  have HR := hide (Nat.le_of_eq hrb)
  rw [hrb] at RB HRB HDM
  clear ht
  go_enter Try.func110, Try.ntmps110
  go_upto_region 1 with fail
  generalize hw1 : w.alloc (.cells #[.slice none 0 0, .slice none 0 0] 53) = w1 at *
  clear hrb hw1
  go_upto_region 2 with ((with_reducible refine HOwn.out.mono ?_); rintro e w2 ⟨A2, c2, rfl, h2, g2, x2⟩; have HA2 := hide h2; have G2 := hide g2; have X2 := hide x2; clear h2 g2 x2)
  have Q2 := hide (HQ.out.ext X2.out)
  obtain ⟨k0, k1, hlk⟩ := NdR.counts Q2.out hk hfk.out
  have HLK := hide hlk
  have hl2 := hlk w2 (Ext.refl _)
  have hcl := cnt_le HO.out hk own
  have HC := hide (cntL_pos ((HO.out.cnt hk).1) (fun c hc => ((HO.out.cnt hk).2 c hc).1) own)
  clear hlk
  generalize hcc : cntL a.now.ons a.now.cnt own = cc at *
  have HCC := hide hcc
  clear hcc
  by_cases h6 : cc = 65536
  · subst h6
    have ht : t = (a.now, [], [], 31) := by rw [← HT.out]; unfold trimN; rw [HCC.out]; rfl
    have HT := hide ht
    have B2 := hide (RB.out.ext X2.out)
    have ST2 := hide (step_ext (lab := lab) X2.out)
    have Q2 := hide (Q2.out.more (Nat.le_add_right N 262146))
    clear ht k0
    have f0 := B2.out.frozen 0
    have f1 := B2.out.frozen 1
    have c0 : _ = some (Value.slice none 0 0) := B2.out.cell 0
    have c1 : _ = some (Value.slice none 0 0) := B2.out.cell 1
    go_wp2_with fail
    have R := (two_cells B2.out (.slice none 0 0) (.slice none 0 0))
    have r0 := R.cell 0
    have r1 := R.cell 1
    refine bodyPost_ret (v := .tuple #[.agg #[.slice none 0 0, .slice none 0 0], .int .i64 31]) (by simp [results, Try.results110, go_sem, r0, r1]) rfl ?_
    exact turn_nil HT.out HE.out ST2.out Q2.out HR.out HRB.out RB.out.lt
  · have h6b : ((cc : Int) == 65536) = false := by simp; omega
    have HO1 := hide (one_any c2 HA2.out)
    go_upto_region 5 with ((with_reducible refine HO1.out.mono ?_); rintro e w3 ⟨A3, rfl, h3, x3⟩; have O3 := hide h3; have X3 := hide x3; clear h3 x3)
    have MB := hide (Blk.new w3 53 #[.slice none 0 0, .slice A3 1 1])
    have X4 := hide (Ext.alloc w3 (.cells #[.slice none 0 0, .slice A3 1 1] 53))
    obtain ⟨mb, hmb⟩ : ∃ mb, w3.heap.size = mb := ⟨_, rfl⟩
    have HMB := hide (Nat.le_of_eq hmb)
    rw [hmb] at MB ⊢
    generalize w3.alloc (.cells #[.slice none 0 0, .slice A3 1 1] 53) = w4 at *
    clear hmb hl2 k0 k1 h6b
    have XA := hide ((X2.out.trans X3.out).trans X4.out)
    have Q4 := hide (HQ.out.ext XA.out)
    obtain ⟨k0, k1, hlk⟩ := NdR.counts Q4.out hk hfk.out
    have hl4 := HLK.out w4 (X3.out.trans X4.out)
    clear hlk
    have B4 := hide (RB.out.ext XA.out)
    have HSZ := hide (show rb < w1.heap.size ∧ w1.heap.size ≤ w2.heap.size ∧ w2.heap.size ≤ w3.heap.size ∧ mb < w4.heap.size from ⟨RB.out.lt, X2.out.size, X3.out.size, MB.out.lt⟩)
    have HMD := hide (show ¬ lab.dom mb from fun hd => by have := HQ.out.dom _ hd; have := HSZ.out; have := HMB.out; omega)
    have hTU := hide (show MovedAt w.heap.size (fun b => lab.dom b ∨ b = rb ∨ b = mb) w4 [] [own] (.agg #[.slice none 0 0, .slice A3 1 1]) from
      ⟨none, 0, A3, 1, fun _ => False, Rg w2.heap.size w3.heap.size, rfl, ToldA.nil _ _, O3.out.rg X4.out, fun _ h => h.elim, fun b hb => by
        have h1 := HSZ.out; have h2 := HMB.out; have h3 := HE.out.size; have h4 := X4.out.size
        rcases hb with hb | ⟨hb, hb2⟩
        · exact hb.elim
        · refine ⟨by omega, by omega, ?_⟩
          rintro (hd | hd | hd)
          · have := HQ.out.dom _ hd; omega
          · omega
          · omega⟩)
    by_cases h0 : cc = 0
    · subst h0
      have hno := hide (show own ∉ a.now.live from fun hm => by rw [HO.out.plain (by omega)] at hm; have := HC.out.1 hm; omega)
      have HAS := hide (show Aside (lab.own 1) A2 from fun x hx hb => by have h1 := G2.out x hx; have h2 := HQ.out.dom _ ⟨1, hb⟩; omega)
      have HA4 := hide (HA2.out.ext (X3.out.trans X4.out))
      have HS := hide (put_st Q4.out.s (by omega) c2 HA4.out HAS.out)
      rw [show ((0 : Nat) : Int) = 0 from rfl] at hl4
      have a6 := Q4.out.r.rows6
      by_cases hm : a.now.live.length < K.most
      · have hput : putS (S1 K a) own = ({ S1 K a with rows := a.now.live ++ [own] }, true, 0) := by unfold putS; rw [show fitsR (S1 K a).width own = true from hfk.out.1, show (S1 K a).rows = a.now.live from rfl, inB_false.2 hno.out, show (S1 K a).most = K.most from rfl, if_pos hm]; rfl
        rw [hput] at HS
        have ht : t = ({ a.now with ons := a.now.ons ++ [own], cnt := a.now.cnt ++ [1], live := a.now.live ++ [own] }, [own], [own], 0) := by rw [← HT.out]; unfold trimN; rw [HCC.out, if_pos hm]; rfl
        have HT := hide ht
        clear hput ht hm
        go_upto_region 9 with ((with_reducible refine HS.out.mono ?_); rintro e w5 ⟨rfl, h2⟩; have T2 := hide (Q4.out.live (Nat.le_add_right N 262145) h2); clear h2)
        obtain ⟨lab2, q2, st2⟩ := T2.out
        have Q5 := hide q2; have ST5 := hide st2
        have B5 := hide (st2.2.blk B4.out HRB.out)
        have M5 := hide (st2.2.blk MB.out HMD.out)
        have HA5 := hide (HA4.out.stays (B := lab.dom) (fun x hx hb => by have h1 := G2.out x hx; have h2 := HQ.out.dom _ hb; omega) st2.2)
        have HO5 := hide (one_any c2 HA5.out)
        clear q2 st2 T2 k0 k1 hl4 a6
        go_upto_region 10 with ((with_reducible refine HO5.out.mono ?_); rintro e w6 ⟨A6, rfl, h3, x3⟩; have O6 := hide h3; have X6 := hide x3; have f0 := (M5.out.ext x3).frozen 0; have c0 : _ = some (Value.slice none 0 0) := (M5.out.ext x3).cell 0; clear h3 x3)
        have M7 := hide ((M5.out.ext X6.out).set_ 0 (.slice A6 1 1))
        have HMD2 := hide (nd_far ST5.out HMD.out MB.out.lt)
        have HRB2 := hide (nd_far ST5.out HRB.out B4.out.lt)
        have Q7 := hide ((Q5.out.ext X6.out).var HMD2.out 0 (.slice A6 1 1))
        have B7 := hide ((B5.out.ext X6.out).far (p := ⟨mb, 0, none⟩) (show rb ≠ mb by have := HSZ.out; have := HMB.out; omega) (.slice A6 1 1))
        have HS7 := hide (show w5.heap.size ≤ w6.heap.size ∧ w6.heap.size = (w6.setCell ⟨mb, 0, none⟩ (.slice A6 1 1)).heap.size ∧ w4.heap.size ≤ w5.heap.size from ⟨X6.out.size, by simp, ST5.out.2.size⟩)
        have hMV := hide (show MovedAt w.heap.size (fun b => lab2.dom b ∨ b = rb) (w6.setCell ⟨mb, 0, none⟩ (.slice A6 1 1)) [own] [own] (.agg #[.slice A6 1 1, .slice A3 1 1]) from
          ⟨A6, 1, A3, 1, Rg w5.heap.size w6.heap.size, Rg w2.heap.size w3.heap.size, rfl, (O6.out.rg (Ext.refl _)).chg (chg_var w6 mb 0 _) (fun b hb e => by have := hb.1; have h1 := MB.out.lt; have h2 := HS7.out; omega) (fun _ h => h),
            (((O3.out.rg X4.out).chg ST5.out.2 (fun b hb hd => by have h1 := hb.1; have h2 := HQ.out.dom _ hd; have h3 := HSZ.out; omega) (fun _ h => h)).ext X6.out).chg (chg_var w6 mb 0 _) (fun b hb e => by have := hb.2; have h2 := HMB.out; omega) (fun _ h => h),
            fun b h1 h2 => by have h3 := h1.1; have h4 := h2.2; have h5 := HS7.out; have h6 := X4.out.size; omega,
            fun b hb => by
              have h1 := HSZ.out; have h2 := HMB.out; have h3 := HE.out.size; have h4 := X4.out.size; have h5 := HS7.out
              have hq := Q5.out.dom b
              have hq2 : lab2.dom b → lab.dom b ∨ w4.heap.size ≤ b := ST5.out.1 b
              have hq3 : lab.dom b → b < w1.heap.size := HQ.out.dom b
              rcases hb with hb | hb
              · have h6 := hb.1; have h7 := hb.2
                refine ⟨by omega, by omega, ?_⟩
                rintro (hd | hd)
                · have := hq hd; omega
                · omega
              · have h6 := hb.1; have h7 := hb.2
                refine ⟨by omega, by omega, ?_⟩
                rintro (hd | hd)
                · rcases hq2 hd with h | h
                  · have := hq3 h; omega
                  · omega
                · omega⟩)
        have HST7 := hide (step_var (step_pre (step_on (step_ext (lab := lab) XA.out) ST5.out) X6.out) (show w1.heap.size ≤ mb by have := HSZ.out; have := HMB.out; omega) 0 (.slice A6 1 1))
        generalize w6.setCell ⟨mb, 0, none⟩ (.slice A6 1 1) = w7 at *
        clear f0 c0
        obtain ⟨k0, k1, hlk⟩ := NdR.counts Q7.out hk hfk.out
        have hl7 := hlk w7 (Ext.refl _)
        rw [HCC.out, show ((0 : Nat) : Int) = 0 from rfl] at hl7
        clear hlk
        obtain ⟨hb4, nn, σ, hn, hm, hs⟩ := Q7.out.r.part 4 hk
        have HB4 := hide hb4; have HN4 := hide hn; have HM4 := hide hm; have HS4 := hide hs
        clear hb4 hn hm hs
        go_upto_region 11 with (at_mapUpdate; refine wpList_smap_put rfl (.tmp 59) (.tmp 60) (.tmp 62) 78 3 rfl Try.underlying78 v.m1 nn σ rfl HM4.out (by have := HN4.out; unfold maxLen; omega) (strB (pk own)) (.int .i64 1) rfl rfl (strB_size own) ?_; intro w8 M8 T8)
        have hct : CntAt w8 (lab2.own 4) K v.m1 (N + 262146) { a.now with ons := a.now.ons ++ [own], cnt := a.now.cnt ++ [1], live := a.now.live ++ [own] } :=
          CntAt.put HB4.out (Nat.succ_le_succ HN4.out) M8.out HS4.out hfk.out (c := 1) (Nat.le_refl 1) (fun x => cntL_app x 1 (fun hmm => hno.out (by rw [HO.out.plain (by omega)]; exact hmm)) (HO.out.cnt hk).1)
        obtain ⟨lab8, q8, st8, -⟩ := Q7.out.count (a' := { a with now := { a.now with ons := a.now.ons ++ [own], cnt := a.now.cnt ++ [1], live := a.now.live ++ [own] } }) hk (Nat.le_succ _) rfl (turned_chg T8.out HB4.out) hct
        have HQ8 := hide q8; have HST8 := hide st8
        have hne : ∀ g, ¬ lab2.dom g → g ≠ v.m1 := fun g hg e => hg (e ▸ ⟨4, HB4.out⟩)
        have M8b := hide (turned_blk T8.out M7.out (hne mb HMD2.out))
        have B8 := hide (turned_blk T8.out B7.out (hne rb HRB2.out))
        have m0 : w8.cell? ⟨mb, 0, none⟩ = some (.slice A6 1 1) := M8b.out.cell 0
        have m1 : w8.cell? ⟨mb, 1, none⟩ = some (.slice A3 1 1) := M8b.out.cell 1
        have f0 := B8.out.frozen 0
        have f1 := B8.out.frozen 1
        have c0 : _ = some (Value.slice none 0 0) := B8.out.cell 0
        have c1 : _ = some (Value.slice none 0 0) := B8.out.cell 1
        have HMV := hide (hMV.out.chg (D' := fun b => lab8.dom b ∨ b = rb) (turned_chg (B := lab2.own 4) T8.out HB4.out) (fun b _ h => .inl ⟨4, h⟩) (fun b hb h => h.imp (fun h => (st8.1 b h).resolve_right (by omega)) id))
        clear q8 st8 hne hct k0 k1 hl7
        go_wp2_with fail
        have R := (two_cells B8.out (.slice A6 1 1) (.slice A3 1 1))
        have r0 := R.cell 0
        have r1 := R.cell 1
        refine bodyPost_ret (v := .tuple #[.agg #[.slice A6 1 1, .slice A3 1 1], .int .i64 0]) (by simp [results, Try.results110, go_sem, r0, r1]) rfl ?_
        exact turn_gen HT.out HE.out (step_on HST7.out HST8.out) HQ8.out HR.out HRB.out RB.out.lt HMV.out
      · have hput : putS (S1 K a) own = (S1 K a, false, 31) := by unfold putS; rw [show fitsR (S1 K a).width own = true from hfk.out.1, show (S1 K a).rows = a.now.live from rfl, inB_false.2 hno.out, show (S1 K a).most = K.most from rfl, if_neg hm]; rfl
        rw [hput] at HS
        have ht : t = (a.now, [], [], 31) := by rw [← HT.out]; unfold trimN; rw [HCC.out, if_neg hm]; rfl
        have HT := hide ht
        clear hput ht hm
        go_upto_region 8 with ((with_reducible refine HS.out.mono ?_); rintro e w5 ⟨rfl, h2⟩; have T2 := hide (Q4.out.live (Nat.le_add_right N 262145) h2); clear h2)
        obtain ⟨lab2, q2, st2⟩ := T2.out
        have Q2 := hide (q2.more (Nat.le_succ (N + 262145))); have ST2 := hide (step_on (step_ext XA.out) st2)
        have B2 := hide (st2.2.blk B4.out HRB.out)
        clear q2 st2 T2 k0 k1 hl4 a6
        have f0 := B2.out.frozen 0
        have f1 := B2.out.frozen 1
        have c0 : _ = some (Value.slice none 0 0) := B2.out.cell 0
        have c1 : _ = some (Value.slice none 0 0) := B2.out.cell 1
        go_wp2_with fail
        have R := (two_cells B2.out (.slice none 0 0) (.slice none 0 0))
        have r0 := R.cell 0
        have r1 := R.cell 1
        refine bodyPost_ret (v := .tuple #[.agg #[.slice none 0 0, .slice none 0 0], .int .i64 31]) (by simp [results, Try.results110, go_sem, r0, r1]) rfl ?_
        exact turn_nil HT.out HE.out ST2.out Q2.out HR.out HRB.out RB.out.lt
    · have h0b : ((cc : Int) == 0) = false := by simp; omega
      have ht : t = ({ a.now with cnt := a.now.cnt.set ((ixR own a.now.ons).getD 0) (cc + 1) }, [], [own], 0) := by rw [← HT.out]; unfold trimN; rw [HCC.out, if_neg h6, if_neg h0]; rfl
      have HT := hide ht
      have hin := hide (show own ∈ a.now.ons from Classical.byContradiction fun hm => h0 (HC.out.2 hm))
      obtain ⟨ix, hix⟩ := ixR_some hin.out
      have HIX := hide hix
      rw [hix] at HT
      have hcw : IntKind.i64.wrap ((cc : Int) + 1) = ((cc + 1 : Nat) : Int) := by
        rw [show ((cc : Int) + 1) = ((cc + 1 : Nat) : Int) by omega]
        exact IntWalk.i64_in _ (by omega)
      have hcb : (cc : Int) < 65537 := by omega
      clear ht hix
      obtain ⟨hb4, nn, σ, hn, hm, hs⟩ := Q4.out.r.part 4 hk
      have HB4 := hide hb4; have HN4 := hide hn; have HM4 := hide hm; have HS4 := hide hs
      clear hb4 hn hm hs
      go_upto_region 11 with (at_mapUpdate; refine wpList_smap_put rfl (.tmp 59) (.tmp 60) (.tmp 62) 78 3 rfl Try.underlying78 v.m1 nn σ rfl HM4.out (by have := HN4.out; unfold maxLen; omega) (strB (pk own)) (.int .i64 ((cc + 1 : Nat) : Int)) rfl rfl (strB_size own) ?_; intro w8 M8 T8)
      have hct : CntAt w8 (lab.own 4) K v.m1 (N + 262146) { a.now with cnt := a.now.cnt.set ix (cc + 1) } :=
        CntAt.put HB4.out (by have := HN4.out; omega) M8.out HS4.out hfk.out (c := cc + 1) (by omega) (fun x => cntL_set x (HO.out.cnt hk).1 HIX.out)
      obtain ⟨lab8, q8, st8, -⟩ := Q4.out.count (a' := { a with now := { a.now with cnt := a.now.cnt.set ix (cc + 1) } }) hk (Nat.le_add_right N 262146) rfl (turned_chg T8.out HB4.out) hct
      have HQ8 := hide q8; have HST8 := hide st8
      have hne : ∀ g, ¬ lab.dom g → g ≠ v.m1 := fun g hg e => hg (e ▸ ⟨4, HB4.out⟩)
      have M8b := hide (turned_blk T8.out MB.out (hne mb HMD.out))
      have B8 := hide (turned_blk T8.out B4.out (hne rb HRB.out))
      have m0 : w8.cell? ⟨mb, 0, none⟩ = some (.slice none 0 0) := M8b.out.cell 0
      have m1 : w8.cell? ⟨mb, 1, none⟩ = some (.slice A3 1 1) := M8b.out.cell 1
      have f0 := B8.out.frozen 0
      have f1 := B8.out.frozen 1
      have c0 : _ = some (Value.slice none 0 0) := B8.out.cell 0
      have c1 : _ = some (Value.slice none 0 0) := B8.out.cell 1
      have HMV := hide (hTU.out.chg (D' := fun b => lab8.dom b ∨ b = rb) (turned_chg (B := lab.own 4) T8.out HB4.out) (fun b _ h => .inl ⟨4, h⟩) (fun b hb h => h.imp (fun h => (st8.1 b h).resolve_right (by omega)) .inl))
      clear q8 st8 hne hct k0 k1 hl4
      go_wp2_with fail
      have R := (two_cells B8.out (.slice none 0 0) (.slice A3 1 1))
      have r0 := R.cell 0
      have r1 := R.cell 1
      refine bodyPost_ret (v := .tuple #[.agg #[.slice none 0 0, .slice A3 1 1], .int .i64 0]) (by simp [results, Try.results110, go_sem, r0, r1]) rfl ?_
      exact turn_gen HT.out HE.out (step_on (step_ext XA.out) HST8.out) HQ8.out HR.out HRB.out RB.out.lt HMV.out
end
end Go.Proofs.Ytahdiiaadjdmcaa
