/-
  hashidx: Keys.
-/
import Derived.Test.YtlpbkhdpfmknkaaHidS
namespace Go.Proofs.Ytlpbkhdpfmknkaa
open Go.RowKit

theorem chg_grown {w w' : World} {row : Option Nat} (hg : w.grownBy w' row) : Chg (fun g => row = some g) w w' :=
  ⟨hg.os, hg.tape, hg.output, hg.size, fun k hk hn => hg.block k hk (fun h => hn h.symm)⟩
/-- a key's block is none of a row of another kind -/
theorem OwnKey.grown {w w' : World} {B : Nat → Prop} {K : Value} {k : List UInt8} (h : OwnKey w B K k) {base : Nat} {e : TypeId} {s n : Nat} {v : Value} {xs : List Value} (ho : w.ownsRow base e s v n xs) (hne : 5 ≠ e) (hg : w.grownBy w' v.ownBlock) : OwnKey w' B K k := by
  refine h.keep (chg_grown hg) fun A m c he a ha hb => ?_
  rcases ho.2 with ⟨rfl, _⟩ | ⟨g, cap, cur, rfl, _, hh, _⟩
  · simp [Value.ownBlock] at hb
  · simp only [Value.ownBlock, Option.some.injEq] at hb
    exact h.ne (show Blk w g e cur from hh) hne A m c he a ha hb.symm
/-- the keys that are collected -/
structure KInv (w0 w : World) (ps : List KP) (A : Option Addr) (c : Nat) (ks : List (List UInt8)) : Prop where
  own : w.ownsRow w0.heap.size 30 1 (.slice A ps.length c) ps.length (ps.map KP.val)
  keys : ∀ p ∈ ps, OwnKey w (fun b => w0.heap.size ≤ b) p.val p.r
  eq : ps.map KP.r = ks
  ext : Ext w0 w
  isNil : ps = [] → A = none ∧ c = 0
theorem KInv.go {w0 w w' : World} {ps : List KP} {A : Option Addr} {c : Nat} {ks : List (List UInt8)} (h : KInv w0 w ps A c ks) (hw : Ext w w') : KInv w0 w' ps A c ks :=
  ⟨own_keep h.own hw, fun p hp => (h.keys p hp).ext hw, h.eq, h.ext.trans hw, h.isNil⟩
theorem KInv.nil (w : World) : KInv w w [] none 0 [] := ⟨World.ownsRow_nil _ _ _ _, fun p hp => (by cases hp), rfl, Ext.refl w, fun _ => ⟨rfl, rfl⟩⟩
theorem KInv.snoc {w0 w w' : World} {ps : List KP} {A A' A9 : Option Addr} {c c' n9 c9 : Nat} {ks : List (List UInt8)} {k : List UInt8} (h : KInv w0 w ps A c ks) (hK : OwnKey w (fun b => w0.heap.size ≤ b) (.slice A9 n9 c9) k)
    (ho : w'.ownsRow w0.heap.size 30 1 (.slice A' (ps.length + 1) c') (ps.length + 1) (ps.map KP.val ++ [.slice A9 n9 c9])) (hg : w.grownBy w' (Value.slice A ps.length c).ownBlock) (hE : Ext w0 w') : KInv w0 w' (ps ++ [⟨A9, n9, c9, k⟩]) A' c' (ks ++ [k]) := by
  refine ⟨?_, fun p hp => ?_, by rw [List.map_append, h.eq]; rfl, hE, fun hx => (by simp at hx)⟩
  · rw [List.length_append, List.map_append]; exact ho
  · rcases List.mem_append.1 hp with hp | hp
    · exact (h.keys p hp).grown h.own (by decide) hg
    · obtain rfl := List.mem_singleton.1 hp
      exact hK.grown h.own (by decide) hg

theorem infoKs : (Try.prog.info? 30).map (fun i => (i.zero, i.size, i.bytes)) = some (some (.slice none 0 0), 1, 24) := by kernel_rfl
/-- what Keys gives back: all keys, sorted, in memory of their own -/
def KeysRet (w0 : World) (E : List (List UInt8 × Int)) (e : Ending) (w' : World) : Prop :=
  ∃ (ps : List KP) (A : Option Addr) (c : Nat), e = .returned (.slice A ps.length c) ∧ KInv w0 w' ps A c (ps.map KP.r) ∧ List.Perm (ps.map KP.r) (E.map (·.1)) ∧ ps.Pairwise kpLe
/-- the sort's contract at the keys that were collected -/
theorem sort_any {w0 w : World} {ps : List KP} {A : Option Addr} {c : Nat} {ks : List (List UInt8)} (h : KInv w0 w ps A c ks) (hn : ps.length ≤ 16777216) :
    Calls Try.prog 21 #[.slice A ps.length c, .func (.func 22) #[] #[]] w fun e w' => e = .returned (.tuple #[]) ∧
      ∃ ps' : List KP, ps'.Perm ps ∧ ps'.Pairwise kpLe ∧ KInv w0 w' ps' A c (ps'.map KP.r) ∧ ps'.length = ps.length := by
  cases ps with
  | nil =>
    obtain ⟨rfl, rfl⟩ := h.isNil rfl
    refine (sort_nil w _).mono fun e w' ⟨he, hw⟩ => ⟨he, [], .nil, .nil, ?_, rfl⟩
    subst hw
    have := h.eq
    rw [this]; exact h
  | cons p0 ps0 =>
    generalize hps : p0 :: ps0 = ps at *
    have h0 : 0 < ps.length := by rw [← hps]; simp
    rcases h.own.2 with ⟨_, h1⟩ | ⟨g, cap, cur, hv, hb, hg, hc1, hc2, hc3, hc4⟩
    · omega
    · injection hv with e1 e2 e3
      subst e1; subst e3
      rw [Nat.mul_one] at hc3 hc4
      have hcur : cur = (ps.map KP.val ++ cur.toList.drop ps.length).toArray := by
        apply Array.toList_inj.1
        rw [← hc4, List.take_append_drop]
      have hB : Blk w g 30 (ps.map KP.val ++ cur.toList.drop ps.length).toArray := by
        unfold Blk; rw [← hcur]; exact hg
      refine (sort_keys ps _ w g c hB (fun p hp => ?_) hn h0).mono fun e w' ⟨he, ps', hp, hs, hB', hC⟩ => ⟨he, ps', hp, hs, ?_, hp.length_eq⟩
      · have hk := h.keys p hp
        obtain ⟨A, n, c, r⟩ := p
        obtain ⟨A', n', c', e, ho, _⟩ := hk
        injection e with e1 e2 e3
        subst e1; subst e2; subst e3
        exact ⟨Sl.own ho, fun a ha => (h.keys _ hp).ne hB (by decide) _ _ _ rfl a ha⟩
      · have hl := hp.length_eq
        refine ⟨⟨by rw [List.length_map]; omega, .inr ⟨g, c, _, by rw [hl], hb, hB', by omega, hc2, ?_, ?_⟩⟩, fun p hp' => ?_, rfl, ?_, fun hx => ?_⟩
        · simp only [List.size_toArray, List.length_append, List.length_map, List.length_drop, Array.length_toList, Nat.mul_one]
          omega
        · rw [Nat.mul_one]
          have : (ps'.map KP.val).length = ps'.length := List.length_map ..
          rw [← this]; exact List.take_left
        · exact (h.keys p (hp.mem_iff.1 hp')).keep hC fun A n c e a ha => (h.keys p (hp.mem_iff.1 hp')).ne hB (by decide) A n c e a ha
        · exact hC.ext h.ext fun x hx => by subst hx; exact hb
        · subst hx; simp at hl; omega
set_option maxHeartbeats 1000000 in
set_option maxRecDepth 100000 in
theorem keys_any {w : World} {B : Nat → Prop} {x most probes : Nat} {E : List (List UInt8 × Int)} (h : HIx w B x most probes E) :
    Calls Try.prog 14 #[.pointer (some ⟨x, 0, none⟩)] w (KeysRet w E) := by
  obtain ⟨tb, T, Ks, hI, hG, hE, h1, h2, h3, hne⟩ := h.at_
  have a4 : w.cell? ⟨x, 4, none⟩ = some (.slice (some ⟨tb, 0, none⟩) T.length T.length) := hI.blk.cell 4
  have HI := hide hI
  have hm := h.most
  have hTl : T.length ≤ 4194400 := by omega
  have HK3 := hide h3; have HE := hide hE
  have HLE := hide (show ∀ i, (ents (T.take i)).length ≤ 4194400 from fun i => by
    have := ents_take_le T i
    have := hE.length_eq
    omega)
  obtain ⟨i0, hi0, hz0, hz1, hz2⟩ := info_parts infoKs
  clear h hI hG hE h1 h2 h3 hne
  go_enter Try.func14, Try.ntmps14
  go_wp2_with fail
  go_loopw [3, 11] (fun s3 s11 w' => ∃ (i : Nat) (ps : List KP) (A : Option Addr) (c : Nat), i ≤ T.length ∧ s3 = .slice A ps.length c ∧ s11 = .int .i64 i ∧ Hid (KInv w w' ps A c ((ents (T.take i)).map (·.1)))) (fun _ s11 _ => T.length - (intOf s11).toNat)
  case atStart => exact ⟨0, [], none, 0, by omega, rfl, rfl, KInv.nil w⟩
  case round =>
    obtain ⟨i, ps, A, c, hin, rfl, rfl, hK⟩ := hrel
    clear a4
    by_cases h : i < T.length
    · obtain ⟨p, hp⟩ : ∃ p, T[i]? = some p := ⟨_, List.getElem?_eq_getElem h⟩
      obtain ⟨A5, n5, c5, b0, b1, b2, hK5, _⟩ := (HI.out.ext hK.out.ext).tab.at_ hp
      have het := hide (ents_take hp)
      have hpk := HK3.out p (List.mem_of_getElem? hp)
      have HK5 := hide hK5
      obtain ⟨st, pk, pn⟩ := p
      dsimp only at b0 b1 b2 hpk
      clear hp hK5
      go_upto_region 5 with fail
      have HE5 := hide (Ext.alloc wr (.cells #[.int .u8 (st : Int), .slice A5 n5 c5, .int .i64 pn] 56))
      have HB5 := hide (Blk.new wr 56 #[.int .u8 (st : Int), .slice A5 n5 c5, .int .i64 pn])
      generalize wr.alloc (.cells #[.int .u8 (st : Int), .slice A5 n5 c5, .int .i64 pn] 56) = W5 at *
      clear b0 b1 b2
      have q0 : W5.cell? ⟨wr.heap.size, 0, none⟩ = some (.int .u8 (st : Int)) := HB5.out.cell 0
      by_cases h1 : st = 1
      · subst h1
        have q0 : W5.cell? ⟨wr.heap.size, 0, none⟩ = some (.int .u8 1) := q0
        have q1 : W5.cell? ⟨wr.heap.size, 1, none⟩ = some (.slice A5 n5 c5) := HB5.out.cell 1
        have HCL := hide (clone_key pk A5 n5 c5 W5 (HK5.out.ext HE5.out) (by have h9 := HK5.out.len; dsimp only at h9; omega))
        have hlen : ps.length ≤ 4194400 := by
          have h9 := congrArg List.length hK.out.eq
          rw [List.length_map, List.length_map] at h9
          have := HLE.out i
          omega
        have hen := hide (show ents (T.take (i + 1)) = ents (T.take i) ++ [(pk, pn)] from het.out)
        go_wp2_with fail
        refine HCL.out.mono ?_
        rintro e w6 ⟨K, rfl, x6, A9, n9, c9, rfl, o9, b9⟩
        have HK6 := hide (hK.out.go (HE5.out.trans (x6.trans (Ext.alloc w6 (.cells #[.slice A9 n9 c9] 30)))))
        have HO9 := hide (show OwnKey (w6.alloc (.cells #[.slice A9 n9 c9] 30)) (fun b => w.heap.size ≤ b) (.slice A9 n9 c9) pk from OwnKey.ext ⟨A9, n9, c9, rfl, o9, fun a ha => Nat.le_trans (hK.out.ext.trans HE5.out).size (b9 a ha).1⟩ (Ext.alloc _ _))
        have HNW := hide (Blk.new w6 30 #[.slice A9 n9 c9])
        clear o9 b9 x6 q0 q1
        go_wp2_with (at_builtin; refine wpList_append_sl rfl (.tmp 18) (.tmp 22) _ rfl 30 i0 _ 1 24 Try.underlying36 hi0 hz0 hz1 hz2 rfl (by omega) w HK6.out.ext _ ps.length (ps.map KP.val) rfl HK6.out.own _ 1 1 [.slice A9 n9 c9] rfl (HNW.out.sl (n := 1) (size := 1) rfl) (by intro v hv; obtain rfl := List.mem_singleton.1 hv; rfl) (by unfold maxLen; omega) (by omega) ?_; intro A7 c7 w7 o7 x7 g7 _)
        go_roundw
        case rel => exact ⟨i + 1, ps ++ [⟨A9, n9, c9, pk⟩], A7, c7, by omega, by rw [List.length_append]; rfl, by go_num, by rw [hen.out, List.map_append]; exact HK6.out.snoc HO9.out o7.out g7.out x7.out⟩
        case measure => simp [intOf]; omega
      · have h2 : ¬ ((st : Int) = 1) := by omega
        have hbq : ((st : Int) == 1) = false := by simpa using h2
        have hen := hide (show ents (T.take (i + 1)) = ents (T.take i) by rw [het.out, ent, if_neg h1]; simp)
        go_wp2_with fail
        go_roundw
        case rel => exact ⟨i + 1, ps, A, c, by omega, rfl, by go_num, by rw [hen.out]; exact hK.out.go HE5.out⟩
        case measure => simp [intOf]; omega
    · obtain rfl : i = T.length := by omega
      have hK2 := hK.out
      rw [List.take_length] at hK2
      have hlen : ps.length ≤ 4194400 := by
        have h9 := congrArg List.length hK2.eq
        rw [List.length_map, List.length_map] at h9
        have := HLE.out T.length
        rw [List.take_length] at this
        omega
      have HSO := hide (sort_any hK2 (by omega))
      have HPE := hide (show List.Perm (ps.map KP.r) (E.map (·.1)) by rw [hK2.eq]; exact HE.out.map _)
      clear hK2
      go_wp2_with fail
      refine HSO.out.mono ?_
      rintro e w5 ⟨rfl, ps', hp, hs, hk, hl⟩
      have HR := hide (show KeysRet w E (.returned (.slice A ps.length c)) w5 from ⟨ps', A, c, by rw [hl], hk, (hp.map _).trans HPE.out, hs⟩)
      clear hp hs hk hl
      go_wp2_with fail
      go_ret
      exact HR.out
end Go.Proofs.Ytlpbkhdpfmknkaa
