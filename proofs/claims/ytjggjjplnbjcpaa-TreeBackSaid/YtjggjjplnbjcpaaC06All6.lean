/- Part of a proof: of what it says, and when, each theorem tells itself. -/
import Derived.Test.YtjggjjplnbjcpaaC06All5
import Derived.Test.YtjggjjplnbjcpaaVmAll2
import Derived.Test.YtjggjjplnbjcpaaVmHeap5

set_option linter.unusedSimpArgs false
set_option linter.unusedVariables false
namespace Go.V06
open Go Go.Vm

/-! ### a page: plain -/
abbrev KV := List UInt8 × List UInt8
def fitF : Nat → List KV → Nat
  | _, [] => 0
  | n, p :: r => if 30 < p.1.length ∨ 150 < p.2.length then 0 else if 250 < n + (1 + (rowB p).length) then 0 else 1 + fitF (n + (1 + (rowB p).length)) r
def sumR (l : List KV) : Nat := (l.map fun p => 1 + (rowB p).length).sum
theorem sumR_cons {p : KV} {l : List KV} : sumR (p :: l) = 1 + (rowB p).length + sumR l := by simp [sumR]
theorem fitF_le : ∀ (l : List KV) (n : Nat), fitF n l ≤ l.length
  | [], n => Nat.le_refl _
  | p :: l, n => by
    simp only [fitF]
    split
    · simp
    · split
      · simp
      · have := fitF_le l (n + (1 + (rowB p).length)); simp; omega
theorem fitF_all : ∀ (l : List KV) (n : Nat), fitF n l = l.length → n ≤ 250 → n + sumR l ≤ 250 ∧ Fits l
  | [], n, _, hn => ⟨by simp [sumR]; exact hn, fun p h => by cases h⟩
  | p :: l, n, h, hn => by
    simp only [fitF] at h
    split at h
    · simp at h
    · rename_i c1
      split at h
      · simp at h
      · have := fitF_all l (n + (1 + (rowB p).length)) (by simp at h; omega) (by omega)
        rw [sumR_cons]
        refine ⟨by omega, fun q hq => ?_⟩
        rcases List.mem_cons.1 hq with rfl | hq
        · omega
        · exact this.2 q hq
theorem fitF_of : ∀ (l : List KV) (n : Nat), n + sumR l ≤ 250 → Fits l → fitF n l = l.length
  | [], n, _, _ => rfl
  | p :: l, n, h, hf => by
    rw [sumR_cons] at h
    have hp := hf p (List.mem_cons_self ..)
    simp only [fitF]
    rw [if_neg (by omega), if_neg (by omega), fitF_of l _ (by omega) (fun q hq => hf q (List.mem_cons_of_mem _ hq))]
    simp; omega
/-- As many as fit do fit; one more does not. -/
theorem fitF_take : ∀ (l : List KV) (n : Nat), fitF n (l.take (fitF n l)) = fitF n l
  | [], n => rfl
  | p :: l, n => by
    simp only [fitF]
    split
    · rfl
    · rename_i c1
      split
      · rfl
      · rename_i c2
        rw [Nat.add_comm 1, List.take_succ_cons]
        simp only [fitF]
        rw [if_neg c1, if_neg c2, fitF_take l]
        omega
theorem fitF_more : ∀ (l : List KV) (n : Nat), fitF n l < l.length → fitF n (l.take (fitF n l + 1)) = fitF n l
  | [], n, h => by simp at h
  | p :: l, n, h => by
    simp only [fitF] at h ⊢
    split
    · rename_i c1
      rw [List.take_succ_cons]; simp only [fitF]; rw [if_pos c1]
    · rename_i c1
      split
      · rename_i c2
        rw [List.take_succ_cons]; simp only [fitF]; rw [if_neg c1, if_pos c2]
      · rename_i c2
        rw [if_neg c1, if_neg c2] at h
        rw [Nat.add_comm 1 (fitF _ l), List.take_succ_cons]
        simp only [fitF]
        rw [if_neg c1, if_neg c2, fitF_more l _ (by simp at h; omega)]
        omega

def putR : List UInt8 → Nat → Nat → List KV → List UInt8
  | pg, _, _, [] => pg
  | pg, i, a, p :: r => putR (splice (pg.set (2 + i) (UInt8.ofNat (a - (rowB p).length))) (a - (rowB p).length) (rowB p)) (i + 1) (a - (rowB p).length) r
def page0 (level n : Nat) : List UInt8 := UInt8.ofNat level :: UInt8.ofNat n :: List.replicate 250 0
theorem page0_len {a b : Nat} : (page0 a b).length = 252 := by unfold page0; rw [List.length_cons, List.length_cons, List.length_replicate]
def pageR (level : Nat) (l : List KV) : List UInt8 := putR (page0 level l.length) 0 252 l
def pageB (level : Nat) (l : List KV) : List UInt8 := sealB (pageR level l)
def encF (level : Int) (l : List KV) : Option (List UInt8) := if level < 0 ∨ 4 < level ∨ fitF 0 l < l.length then none else some (pageB level.toNat l)

theorem putR_len : ∀ (l : List KV) (pg : List UInt8) (i a : Nat), sumR l ≤ a → a ≤ pg.length → (putR pg i a l).length = pg.length
  | [], pg, i, a, _, _ => rfl
  | p :: l, pg, i, a, h, ha => by
    rw [sumR_cons] at h
    have hl : (splice (pg.set (2 + i) (UInt8.ofNat (a - (rowB p).length))) (a - (rowB p).length) (rowB p)).length = pg.length := by
      rw [splice_len (by rw [List.length_set]; omega), List.length_set]
    simp only [putR]
    rw [putR_len l _ _ _ (by omega) (by rw [hl]; omega), hl]
theorem pageR_len {level : Nat} {l : List KV} (h : sumR l ≤ 250) : (pageR level l).length = 252 := by
  unfold pageR
  rw [putR_len _ _ _ _ (by omega) (by rw [page0_len]; omega), page0_len]
theorem splice_out {α : Type} {l c : List α} {off j : Nat} (h : off + c.length ≤ l.length) (hj : j < off ∨ off + c.length ≤ j) : (splice l off c)[j]? = l[j]? := by
  unfold splice
  have ht : (l.take off).length = off := by simp; omega
  rcases hj with hj | hj
  · rw [List.append_assoc, List.getElem?_append_left (by omega), List.getElem?_take_of_lt hj]
  · rw [List.getElem?_append_right (by simp; omega), List.getElem?_drop]
    congr 1
    simp; omega
theorem splice_in {α : Type} {l c : List α} {off j : Nat} (h : off + c.length ≤ l.length) (hj : j < c.length) : (splice l off c)[off + j]? = c[j]? := by
  unfold splice
  have ht : (l.take off).length = off := by simp; omega
  rw [List.append_assoc, List.getElem?_append_right (by omega), ht, Nat.add_sub_cancel_left, List.getElem?_append_left hj]
/-- What is before the places, and what is behind, stays. -/
theorem putR_frame : ∀ (l : List KV) (pg : List UInt8) (i a : Nat), 2 + i + sumR l ≤ a → a ≤ pg.length → ∀ j, j < 2 + i ∨ a ≤ j → (putR pg i a l)[j]? = pg[j]?
  | [], pg, i, a, _, _, j, _ => rfl
  | p :: l, pg, i, a, h, ha, j, hj => by
    rw [sumR_cons] at h
    have hl : (splice (pg.set (2 + i) (UInt8.ofNat (a - (rowB p).length))) (a - (rowB p).length) (rowB p)).length = pg.length := by
      rw [splice_len (by rw [List.length_set]; omega), List.length_set]
    simp only [putR]
    rw [putR_frame l _ (i + 1) _ (by omega) (by rw [hl]; omega) j (by omega), splice_out (by rw [List.length_set]; omega) (by omega), List.getElem?_set_ne (by omega)]

/-! ### the way back -/
def lastF (b : List UInt8) (a to : Nat) : Option KV :=
  if to ≤ a then none else
  if (getText (b.take to) a 30).2.2 ≠ 0 then none else
  if (getText (b.take to) (getText (b.take to) a 30).2.1 150).2.2 = 0 ∧ (getText (b.take to) (getText (b.take to) a 30).2.1 150).2.1 = to then some ((getText (b.take to) a 30).1, (getText (b.take to) (getText (b.take to) a 30).2.1 150).1) else none
def decL (b : List UInt8) : Nat → Nat → Nat → Option (List KV)
  | 0, _, _ => some []
  | n + 1, i, to => if to ≤ 2 + i then none else match lastF b (b.getD (2 + i) 0).toNat to with
    | none => none
    | some p => (decL b n (i + 1) (b.getD (2 + i) 0).toNat).map (p :: ·)
def decF (b : List UInt8) : Nat × List KV × Nat :=
  if b.length ≠ 256 then (0, [], 11) else if rightB b = false then (0, [], 12) else
  match decL b (b.getD 1 0).toNat 0 252 with
  | none => (0, [], 11)
  | some l => if encF ((b.getD 0 0).toNat : Int) l = some b then ((b.getD 0 0).toNat, l, 0) else (0, [], 11)

theorem lastF_row {b : List UInt8} {a : Nat} {p : KV} (h1 : p.1.length ≤ 30) (h2 : p.2.length ≤ 150) (hb : b.take (a + (rowB p).length) = b.take a ++ rowB p) (ha : (b.take a).length = a) : lastF b a (a + (rowB p).length) = some p := by
  have hne : 0 < (rowB p).length := by
    unfold rowB
    have hn : text p.1 ≠ [] := fun e => text_ne p.1 (by rw [e]; rfl)
    have := List.length_pos_iff.2 hn
    simp; omega
  have e1 : getText (b.take a ++ rowB p) a 30 = (p.1, a + (text p.1).length, 0) := by
    have := getText_text (b.take a) (text p.2) p.1 30 (by omega)
    rw [ha, if_neg (by omega)] at this
    rw [← this]; unfold rowB; rw [List.append_assoc]
  have e2 : getText (b.take a ++ rowB p) ((a + (text p.1).length : Nat) : Int) 150 = (p.2, a + (rowB p).length, 0) := by
    have := getText_text (b.take a ++ text p.1) [] p.2 150 (by omega)
    rw [List.length_append, ha, if_neg (by omega)] at this
    unfold rowB
    rw [List.append_nil, List.append_assoc] at this
    rw [this, List.length_append]
    simp; omega
  unfold lastF
  rw [if_neg (by omega), hb, e1]
  simp only [ne_eq, not_true_eq_false, if_false, e2, and_self, if_true]

theorem decL_put : ∀ (l : List KV) (pg b : List UInt8) (i a : Nat), Fits l → 2 + i + sumR l ≤ a → a ≤ pg.length → a ≤ 252 → (∀ j, j < pg.length → b[j]? = (putR pg i a l)[j]?) → decL b l.length i a = some l
  | [], pg, b, i, a, _, _, _, _, _ => rfl
  | p :: l, pg, b, i, a, hf, h, ha, ha2, hb => by
    rw [sumR_cons] at h
    have hp := hf p (List.mem_cons_self ..)
    have hl : (splice (pg.set (2 + i) (UInt8.ofNat (a - (rowB p).length))) (a - (rowB p).length) (rowB p)).length = pg.length := by
      rw [splice_len (by rw [List.length_set]; omega), List.length_set]
    simp only [putR] at hb
    have hfr := putR_frame l (splice (pg.set (2 + i) (UInt8.ofNat (a - (rowB p).length))) (a - (rowB p).length) (rowB p)) (i + 1) (a - (rowB p).length) (by omega) (by rw [hl]; omega)
    have hslot : b.getD (2 + i) 0 = UInt8.ofNat (a - (rowB p).length) := by
      rw [List.getD_eq_getElem?_getD, hb _ (by omega), hfr _ (by omega), splice_out (by rw [List.length_set]; omega) (by omega), List.getElem?_set_self (by omega)]
      rfl
    have hslot' : (b.getD (2 + i) 0).toNat = a - (rowB p).length := by rw [hslot]; exact toNat_of (by omega)
    have hbl : a ≤ b.length := by
      apply Nat.le_of_not_lt
      intro hlt
      have h1 := hb b.length (by omega)
      rw [List.getElem?_eq_none (Nat.le_refl _)] at h1
      have h2 := putR_len l (splice (pg.set (2 + i) (UInt8.ofNat (a - (rowB p).length))) (a - (rowB p).length) (rowB p)) (i + 1) (a - (rowB p).length) (by omega) (by rw [hl]; omega)
      have := List.getElem?_eq_none_iff.1 h1.symm
      omega
    have htake : b.take (a - (rowB p).length + (rowB p).length) = b.take (a - (rowB p).length) ++ rowB p := by
      apply List.ext_getElem?
      intro j
      by_cases hj : j < a - (rowB p).length
      · rw [List.getElem?_take_of_lt (by omega), List.getElem?_append_left (by simp; omega), List.getElem?_take_of_lt hj]
      · by_cases hj2 : j < a
        · rw [List.getElem?_take_of_lt (by omega), List.getElem?_append_right (by simp; omega), List.length_take, Nat.min_eq_left (by omega)]
          rw [hb _ (by omega), hfr _ (by omega)]
          have := splice_in (l := pg.set (2 + i) (UInt8.ofNat (a - (rowB p).length))) (c := rowB p) (off := a - (rowB p).length) (j := j - (a - (rowB p).length)) (by rw [List.length_set]; omega) (by omega)
          rw [← this]; congr 1; omega
        · rw [List.getElem?_eq_none (by simp; omega), List.getElem?_eq_none (by simp; omega)]
    have hlast := lastF_row (b := b) (a := a - (rowB p).length) hp.1 hp.2 htake (by simp; omega)
    rw [Nat.sub_add_cancel (by omega)] at hlast
    simp only [List.length_cons, decL]
    rw [if_neg (by omega), hslot', hlast, decL_put l _ b (i + 1) (a - (rowB p).length) (fun q hq => hf q (List.mem_cons_of_mem _ hq)) (by omega) (by rw [hl]; omega) (by omega) (fun j hj => hb j (by rw [hl] at hj; exact hj))]
    rfl

theorem rightB_seal {b : List UInt8} : rightB (sealB b) = true := by
  unfold rightB
  have h1 : (sealB b).take ((sealB b).length - 4) = b := by
    rw [sealB_len, Nat.add_sub_cancel]; unfold sealB; exact List.take_left
  rw [h1]
  simp [sealB_len]
/-- A page is read as it was made. -/
theorem decF_page {level : Nat} {l : List KV} (hl : level ≤ 4) (hf : fitF 0 l = l.length) : decF (pageB level l) = (level, l, 0) := by
  obtain ⟨hs, hF⟩ := fitF_all l 0 hf (by omega)
  rw [Nat.zero_add] at hs
  have hcount : l.length ≤ 250 := by
    have : ∀ l : List KV, l.length ≤ sumR l := by
      intro l
      induction l with
      | nil => simp [sumR]
      | cons p l ih => rw [sumR_cons]; simp; omega
    have := this l; omega
  have hlen := pageR_len (level := level) hs
  have hplen : (pageB level l).length = 256 := by unfold pageB; rw [sealB_len, hlen]
  have hget : ∀ j, j < 252 → (pageB level l)[j]? = (pageR level l)[j]? := by
    intro j hj
    unfold pageB sealB
    rw [List.getElem?_append_left (by omega)]
  have hfr := putR_frame l (page0 level l.length) 0 252 (by omega) (by rw [page0_len]; omega)
  have h0 : (pageB level l).getD 0 0 = UInt8.ofNat level := by
    rw [List.getD_eq_getElem?_getD, hget 0 (by omega)]
    unfold pageR
    rw [hfr 0 (by omega)]; rfl
  have h1 : (pageB level l).getD 1 0 = UInt8.ofNat l.length := by
    rw [List.getD_eq_getElem?_getD, hget 1 (by omega)]
    unfold pageR
    rw [hfr 1 (by omega)]; rfl
  have hdec : decL (pageB level l) l.length 0 252 = some l := decL_put l (page0 level l.length) (pageB level l) 0 252 hF (by omega) (by rw [page0_len]; omega) (by omega) (fun j hj => hget j (by rw [page0_len] at hj; exact hj))
  have henc : encF (level : Int) l = some (pageB level l) := by
    unfold encF
    rw [if_neg (by omega), Int.toNat_natCast]
  unfold decF
  rw [if_neg (by rw [hplen]; simp), if_neg (by unfold pageB; rw [rightB_seal]; simp), h1, toNat_of (by omega), hdec]
  simp only [h0, toNat_of (show level < 256 by omega), henc, if_true]
/-- With another byte, it is none. -/
theorem rightB_other {b : List UInt8} {i : Nat} (hi : i < b.length + 4) {v : UInt8} (hv : (sealB b)[i]? ≠ some v) : rightB ((sealB b).set i v) = false := by
  have hlen : ((sealB b).set i v).length = b.length + 4 := by rw [List.length_set, sealB_len]
  unfold rightB
  rw [hlen, Nat.add_sub_cancel]
  have : ¬ sealB (((sealB b).set i v).take b.length) = (sealB b).set i v := by
    intro h
    by_cases hlt : i < b.length
    · have e1 : ((sealB b).set i v).take b.length = b.set i v := by
        unfold sealB
        rw [List.set_append_left _ _ hlt, List.take_left' (by rw [List.length_set])]
      rw [e1] at h
      unfold sealB at h
      rw [List.set_append_left _ _ hlt] at h
      have e2 := List.append_cancel_left h
      have e3 := le4_inj (crc_lt _) (crc_lt _) e2
      refine crc_other hlt ?_ e3
      intro e
      apply hv
      unfold sealB
      rw [List.getElem?_append_left hlt, List.getElem?_eq_getElem hlt, e]
    · have e1 : ((sealB b).set i v).take b.length = b := by
        unfold sealB
        rw [List.set_append_right _ _ (by omega), List.take_left]
      rw [e1] at h
      apply hv
      rw [h, List.getElem?_set_self (by rw [sealB_len]; exact hi)]
  rw [decide_eq_false this, Bool.and_false]
end Go.V06


set_option linter.unusedSimpArgs false
set_option linter.unusedVariables false
namespace Go.V06
open Go Go.Vm

theorem Buf.nb {h0 h : Heap} {z : Nat} {els : List (List CV)} {v : VV} (b : Buf h0 z els v h) : NB h0 h z els v := by
  rcases b with ⟨rfl, rfl, rfl⟩ | ⟨g, rfl, rfl⟩
  · exact NB.nil _ _
  · exact ⟨HExt.push _ _, .inr ⟨h0.length, g, Nat.le_refl _, rfl, at_last⟩⟩

/-! ### a row's bytes -/
theorem row_f44 (h : Heap) {k l : List UInt8} {c : CV} (hc : SlV 1 (eB l) (.cv c)) (hk : k.length ≤ 100000000) (hl : l.length ≤ 100000000) : Ret F 44 [.agg [txt k, .cv c]] h fun v h' => NB h h' 1 (eB (rowB (k, l))) v := by
  refine call_E (fn := f44) rfl ?_
  simp only [f44]
  generalize hs0 : ([.agg [txt k, .cv c]] ++ List.replicate _ VV.undef : List VV) = s
  have hs : s.length = 11 := by rw [← hs0]; rfl
  have h0 : s.getD 0 .undef = .agg [txt k, .cv c] := by rw [← hs0]; rfl
  clear hs0
  simp only [go_sem, Nat.reduceLT, Nat.reduceEqDiff, reduceCtorEq, Int.reduceLT, Int.reduceEq, hs, h0]
  rw [bx_agg (n := 2) rfl]
  simp only [go_sem, Nat.reduceLT, Nat.reduceEqDiff, reduceCtorEq, Int.reduceLT, Int.reduceEq, hs]
  have x1 := HExt.push h (VO.box [txt k, .cv c] false)
  have q1 : (h ++ [VO.box [txt k, .cv c] false])[h.length]? = some (.box [txt k, .cv c] false) := at_last
  generalize h ++ [VO.box [txt k, .cv c] false] = g1 at x1 q1
  obtain ⟨v5, g5, n5, b5⟩ := text_f50 k g1 (by omega)
  obtain ⟨v9, g9, n9, b9⟩ := text_f50 l g5 (by omega)
  have B5 := Buf.nb b5
  have B9 := Buf.nb b9
  have q5 := B5.ext.get q1
  have q9 := B9.ext.get q5
  refine X_drawA 7 (fun g => g[h.length]? = some (.box [txt k, .cv c] false)) q1 rfl rfl ?_
  simp only [List.take_succ_cons, List.take_zero]
  refine XDA_p (v := .ptr h.length 0) rfl (by rw [st_fad]; simp only [go_sem, Nat.reduceLT, Nat.reduceEqDiff, reduceCtorEq, Int.reduceLT, Int.reduceEq, hs]) ?_
  refine XDA_req (v := txt k) rfl (by rw [st_ldq]; simp only [go_sem, Nat.reduceLT, Nat.reduceEqDiff, reduceCtorEq, Int.reduceLT, Int.reduceEq, hs]; exact ld_ptr q1 rfl) ?_
  refine XDA_callR (by simp only [List.map, go_sem, Nat.reduceLT, Nat.reduceEqDiff, reduceCtorEq, Int.reduceLT, Int.reduceEq, hs]; exact n5) q5 ?_
  refine XDA_p (v := .ptr h.length 1) rfl (by rw [st_fad]; simp only [go_sem, Nat.reduceLT, Nat.reduceEqDiff, reduceCtorEq, Int.reduceLT, Int.reduceEq, hs]) ?_
  refine XDA_r (v := .cv c) rfl q5 (fun g hg => by rw [st_ldq]; simp only [go_sem, Nat.reduceLT, Nat.reduceEqDiff, reduceCtorEq, Int.reduceLT, Int.reduceEq, hs]; exact ld_ptr hg rfl) ?_
  refine XDA_r (v := txt l) rfl q5 (fun g hg => by rw [st_cvBS]; simp only [go_sem, Nat.reduceLT, Nat.reduceEqDiff, reduceCtorEq, Int.reduceLT, Int.reduceEq, hs, hc.bs]) ?_
  refine XDA_callR (by simp only [List.map, go_sem, Nat.reduceLT, Nat.reduceEqDiff, reduceCtorEq, Int.reduceLT, Int.reduceEq, hs]; exact n9) q9 ?_
  simp only [XDA, List.drop_succ_cons, List.drop_zero]
  have ht1 : (eB (text k)).length ≤ 200000000 := by
    rw [eB_len]; unfold text; rw [List.length_append]
    have := num_len (k.length : Int); omega
  have ht2 : (eB (text l)).length ≤ 200000000 := by
    rw [eB_len]; unfold text; rw [List.length_append]
    have := num_len (l.length : Int); omega
  have BB : NB h g9 1 (eB (text k)) v5 := by
    have := (B5.then B9.ext)
    exact ⟨x1.trans this.ext, this.v.imp id (fun ⟨id, g, a1, a2⟩ => ⟨id, g, Nat.le_trans x1.len a1, a2⟩)⟩
  refine XD_appNB BB (new := eB (text l)) (by simp only [go_sem, Nat.reduceLT, Nat.reduceEqDiff, reduceCtorEq, Int.reduceLT, Int.reduceEq, hs]) (by simp only [go_sem, Nat.reduceLT, Nat.reduceEqDiff, reduceCtorEq, Int.reduceLT, Int.reduceEq, hs]; exact B9.src) (by omega) (by omega) (fun v' h' B' _ _ _ => ?_)
  simp only [go_sem, Nat.reduceLT, Nat.reduceEqDiff, reduceCtorEq, Int.reduceLT, Int.reduceEq, hs]
  rw [← eB_append] at B'
  exact B'
theorem row_pure {k l : List UInt8} {c : CV} (hc : SlV 1 (eB l) (.cv c)) (hk : k.length ≤ 100000000) (hl : l.length ≤ 100000000) : RetP F 44 [.agg [txt k, .cv c]] (SlV 1 (eB (rowB (k, l)))) := by
  obtain ⟨v, h', n, B⟩ := row_f44 [] hc hk hl
  exact ⟨v, h', n, B.res⟩

theorem rjoin_f55 (h : Heap) {a b : List UInt8} {va vb_ : VV} (ha : SlV 1 (eB a) va) (hb : SlV 1 (eB b) vb_) (hl : a.length + b.length ≤ 1000000000) : Ret F 55 [va, vb_] h fun v h' => NB h h' 1 (eB (a ++ b)) v := by
  refine call_E (fn := f55) rfl ?_
  simp only [f55]
  generalize hs0 : ([va, vb_] ++ List.replicate _ VV.undef : List VV) = s
  have hs : s.length = 13 := by rw [← hs0]; rfl
  have h0 : s.getD 0 .undef = va := by rw [← hs0]; rfl
  have h1 : s.getD 1 .undef = vb_ := by rw [← hs0]; rfl
  clear hs0
  simp only [go_sem, Nat.reduceLT, Nat.reduceEqDiff, reduceCtorEq, Int.reduceLT, Int.reduceEq, hs, h0]
  refine XO_appNB (NB.nil h 1) (new := eB a) (by simp only [go_sem, Nat.reduceLT, Nat.reduceEqDiff, reduceCtorEq, Int.reduceLT, Int.reduceEq, hs]) (by simp only [go_sem, Nat.reduceLT, Nat.reduceEqDiff, reduceCtorEq, Int.reduceLT, Int.reduceEq, hs, h0]; exact ha.src) (by simp only [eB_len, List.length_nil]; omega) (by simp only [eB_len, List.length_nil]; omega) (fun v5 h5 B5 _ _ _ => ?_)
  rw [List.nil_append] at B5
  simp only [go_sem, Nat.reduceLT, Nat.reduceEqDiff, reduceCtorEq, Int.reduceLT, Int.reduceEq, hs, h1]
  refine XO_appNB B5 (new := eB b) (by simp only [go_sem, Nat.reduceLT, Nat.reduceEqDiff, reduceCtorEq, Int.reduceLT, Int.reduceEq, hs]) (by simp only [go_sem, Nat.reduceLT, Nat.reduceEqDiff, reduceCtorEq, Int.reduceLT, Int.reduceEq, hs, h1]; exact hb.src) (by simp only [eB_len]; omega) (by simp only [eB_len]; omega) (fun v6 h6 B6 _ _ _ => ?_)
  rw [← eB_append] at B6
  simp only [go_sem, Nat.reduceLT, Nat.reduceEqDiff, reduceCtorEq, Int.reduceLT, Int.reduceEq, hs]
  exact B6
theorem rtext_f52 (h : Heap) (l : List UInt8) (hl : l.length ≤ 900000000) : Ret F 52 [txt l] h fun v h' => NB h h' 1 (eB (text l)) v := by
  refine call_E (fn := f52) rfl ?_
  simp only [f52]
  generalize hs0 : ([txt l] ++ List.replicate _ VV.undef : List VV) = s
  have hs : s.length = 9 := by rw [← hs0]; rfl
  have h0 : s.getD 0 .undef = txt l := by rw [← hs0]; rfl
  clear hs0
  obtain ⟨v5, h5, n5, r5⟩ := rnum_pure (l.length : Int)
  have hn := num_len (l.length : Int)
  simp only [go_sem, Nat.reduceLT, Nat.reduceEqDiff, reduceCtorEq, Int.reduceLT, Int.reduceEq, hs, h0]
  refine XO_callP (h1 := h) (by simp only [List.map, go_sem, Nat.reduceLT, Nat.reduceEqDiff, reduceCtorEq, Int.reduceLT, Int.reduceEq, hs]; rfl) n5 r5 ?_
  simp only [go_sem, Nat.reduceLT, Nat.reduceEqDiff, reduceCtorEq, Int.reduceLT, Int.reduceEq, hs, h0]
  obtain ⟨v8, h8, n8, B8⟩ := rjoin_f55 h (a := num (clamp l.length)) (b := l) (va := .cv (.sl 1 (eB (num (clamp l.length))) false)) (vb_ := .cv (.sl 1 (eB l) false)) (.inr ⟨false, rfl⟩) (.inr ⟨false, rfl⟩) (by omega)
  refine XO_callR (by simp only [List.map, go_sem, Nat.reduceLT, Nat.reduceEqDiff, reduceCtorEq, Int.reduceLT, Int.reduceEq, hs]; exact n8) ?_
  simp only [go_sem, Nat.reduceLT, Nat.reduceEqDiff, reduceCtorEq, Int.reduceLT, Int.reduceEq, hs]
  exact B8
theorem rbytes_f48 (h : Heap) {k l : List UInt8} {c : CV} (hc : SlV 1 (eB l) (.cv c)) (hk : k.length ≤ 100000000) (hl : l.length ≤ 100000000) : Ret F 48 [.agg [txt k, .cv c]] h fun v h' => NB h h' 1 (eB (rowB (k, l))) v := by
  refine call_E (fn := f48) rfl ?_
  simp only [f48]
  generalize hs0 : ([.agg [txt k, .cv c]] ++ List.replicate _ VV.undef : List VV) = s
  have hs : s.length = 16 := by rw [← hs0]; rfl
  have h0 : s.getD 0 .undef = .agg [txt k, .cv c] := by rw [← hs0]; rfl
  clear hs0
  simp only [go_sem, Nat.reduceLT, Nat.reduceEqDiff, reduceCtorEq, Int.reduceLT, Int.reduceEq, hs, h0]
  rw [bx_agg (n := 2) rfl]
  simp only [go_sem, Nat.reduceLT, Nat.reduceEqDiff, reduceCtorEq, Int.reduceLT, Int.reduceEq, hs]
  have x1 := HExt.push h (VO.box [txt k, .cv c] false)
  have q1 : (h ++ [VO.box [txt k, .cv c] false])[h.length]? = some (.box [txt k, .cv c] false) := at_last
  generalize h ++ [VO.box [txt k, .cv c] false] = g1 at x1 q1
  obtain ⟨v5, g5, n5, B5⟩ := rtext_f52 g1 k (by omega)
  have q5 := B5.ext.get q1
  have l0 : ldO g1 false 1 (.ptr h.length 0) = some (txt k, g1) := ld_ptr q1 rfl
  have l1 : ldO g5 false 1 (.ptr h.length 1) = some (.cv c, g5) := ld_ptr q5 rfl
  simp only [go_sem, Nat.reduceLT, Nat.reduceEqDiff, reduceCtorEq, Int.reduceLT, Int.reduceEq, hs, l0]
  refine XO_callR (by simp only [List.map, go_sem, Nat.reduceLT, Nat.reduceEqDiff, reduceCtorEq, Int.reduceLT, Int.reduceEq, hs]; exact n5) ?_
  obtain ⟨v9, g9, n9, B9⟩ := rtext_f52 g5 l (by omega)
  simp only [go_sem, Nat.reduceLT, Nat.reduceEqDiff, reduceCtorEq, Int.reduceLT, Int.reduceEq, hs, l1, hc.bs]
  refine XO_callR (by simp only [List.map, go_sem, Nat.reduceLT, Nat.reduceEqDiff, reduceCtorEq, Int.reduceLT, Int.reduceEq, hs]; exact n9) ?_
  have ht1 : (eB (text k)).length ≤ 200000000 := by
    rw [eB_len]; unfold text; rw [List.length_append]
    have := num_len (k.length : Int); omega
  have ht2 : (eB (text l)).length ≤ 200000000 := by
    rw [eB_len]; unfold text; rw [List.length_append]
    have := num_len (l.length : Int); omega
  have BB : NB h g9 1 (eB (text k)) v5 := by
    have := (B5.then B9.ext)
    exact ⟨x1.trans this.ext, this.v.imp id (fun ⟨id, g, a1, a2⟩ => ⟨id, g, Nat.le_trans x1.len a1, a2⟩)⟩
  simp only [go_sem, Nat.reduceLT, Nat.reduceEqDiff, reduceCtorEq, Int.reduceLT, Int.reduceEq, hs]
  refine XO_appNB BB (new := eB (text l)) (by simp only [go_sem, Nat.reduceLT, Nat.reduceEqDiff, reduceCtorEq, Int.reduceLT, Int.reduceEq, hs]) (by simp only [go_sem, Nat.reduceLT, Nat.reduceEqDiff, reduceCtorEq, Int.reduceLT, Int.reduceEq, hs]; exact B9.src) (by omega) (by omega) (fun v' h' B' _ _ _ => ?_)
  simp only [go_sem, Nat.reduceLT, Nat.reduceEqDiff, reduceCtorEq, Int.reduceLT, Int.reduceEq, hs]
  rw [← eB_append] at B'
  exact B'
theorem rbytes_pure {k l : List UInt8} {c : CV} (hc : SlV 1 (eB l) (.cv c)) (hk : k.length ≤ 100000000) (hl : l.length ≤ 100000000) : RetP F 48 [.agg [txt k, .cv c]] (SlV 1 (eB (rowB (k, l)))) := by
  obtain ⟨v, h', n, B⟩ := rbytes_f48 [] hc hk hl
  exact ⟨v, h', n, B.res⟩
end Go.V06


set_option linter.unusedSimpArgs false
set_option linter.unusedVariables false
namespace Go.V06
open Go Go.Vm

/-! ### Fit -/
theorem fit_step {kv : List KV} {k n : Nat} {p : KV} (hp : kv[k]? = some p) : fitF n (kv.drop k) = if 30 < p.1.length ∨ 150 < p.2.length then 0 else if 250 < n + (1 + (rowB p).length) then 0 else 1 + fitF (n + (1 + (rowB p).length)) (kv.drop (k + 1)) := by
  obtain ⟨hlt, e⟩ := List.getElem?_eq_some_iff.1 hp
  rw [List.drop_eq_getElem_cons hlt, e]
  rfl
theorem rowB_le {p : KV} (h : p.1.length ≤ 30 ∧ p.2.length ≤ 150) : (rowB p).length ≤ 200 := rowB_len p h

theorem f43_loop {els : List (List CV)} {kv : List KV} {u : VV} (hS : SlV 2 els u) (hR : RowsE els kv) (hn : kv.length ≤ 9223372036854775807) :
    ∀ (r k n : Nat) (s : List VV) (h : Heap) (Q : Pst), k + r = kv.length → n ≤ 250 → s.length = 36 → s.getD 0 .undef = u → s.getD 3 .undef = vi .i64 n → s.getD 6 .undef = u → s.getD 7 .undef = vi .i64 kv.length → s.getD 8 .undef = vi .i64 k →
      (fitF n (kv.drop k) = r → ∀ s' h', s'.length = 36 → s'.getD 0 .undef = u → Q (.exit 0) ⟨s', h'⟩) → (∀ s' h', s'.length = 36 → s'.getD 2 .undef = vi .i64 ((k + fitF n (kv.drop k) : Nat) : Int) → Q .ret ⟨s', h'⟩) → X F (.loop f43_2) ⟨s, h⟩ Q := by
  intro r
  induction r with
  | zero =>
    intro k n s h Q hk hn2 hs h0 h3 h6 h7 h8 hE hQ
    rw [X_loop, X_eq f43_2.eq_1]
    have c : ¬ (k : Int) < (kv.length : Int) := by omega
    simp only [go_sem, Nat.reduceLT, Nat.reduceEqDiff, reduceCtorEq, Int.reduceLT, Int.reduceEq, hs, h7, h8, c]
    rw [X_eq f43_0.eq_1]
    simp only [go_sem, Nat.reduceLT, Nat.reduceEqDiff, reduceCtorEq, Int.reduceLT, Int.reduceEq, hs]
    refine hE ?_ _ _ (by simp only [slot_len, hs]) (by simp only [go_sem, Nat.reduceLT, Nat.reduceEqDiff, reduceCtorEq, Int.reduceLT, Int.reduceEq, h0])
    rw [List.drop_eq_nil_of_le (by omega)]; rfl
  | succ r ih =>
    intro k n s h Q hk hn2 hs h0 h3 h6 h7 h8 hE hQ
    obtain ⟨e, p, he, hp, c, rfl, hc⟩ := hR.get (i := k) (by omega)
    obtain ⟨key, val⟩ := p
    simp only at hc
    have hfit := fit_step (n := n) hp
    rw [X_loop, X_eq f43_2.eq_1]
    have c1 : (k : Int) < (kv.length : Int) := by omega
    have hw : IntKind.i64.wrap ((k : Int) + 1) = ((k + 1 : Nat) : Int) := by rw [IntWalk.i64_in _ (by omega)]; omega
    have hia := hS.ia (h := h) (k := .i64) (j := (k : Int)) (by omega) he
    simp only [go_sem, Nat.reduceLT, Nat.reduceEqDiff, reduceCtorEq, Int.reduceLT, Int.reduceEq, hs, h7, h8, c1]
    rw [X_eq f43_0.eq_1]
    simp only [go_sem, Nat.reduceLT, Nat.reduceEqDiff, reduceCtorEq, Int.reduceLT, Int.reduceEq, hs, h6, h8, hia, ld_rN (n := 2) (show [CV.sc (.string ⟨key.toArray⟩), c].length = 2 from rfl), List.map]
    rw [X_eq f43_1.eq_1]
    have q1 : (h ++ [VO.box [txt key, .cv c] false])[h.length]? = some (.box [txt key, .cv c] false) := at_last
    generalize h ++ [VO.box [txt key, .cv c] false] = g at q1
    have l0 : ldO g false 1 (.ptr h.length 0) = some (txt key, g) := ld_ptr q1 rfl
    have l1 : ldO g false 1 (.ptr h.length 1) = some (.cv c, g) := ld_ptr q1 rfl
    have l2 : ldO g true 2 (.ptr h.length 0) = some (.agg [txt key, .cv c], g) := ld_bxN q1 rfl
    by_cases d1 : (30 : Int) < (key.length : Int)
    · have d1' : 30 < key.length := by omega
      simp only [go_sem, Nat.reduceLT, Nat.reduceEqDiff, reduceCtorEq, Int.reduceLT, Int.reduceEq, hs, l0, gt_iff_lt, d1]
      rw [if_pos (.inl d1')] at hfit
      exact hQ _ _ (by simp only [slot_len, hs]) (by simp only [go_sem, Nat.reduceLT, Nat.reduceEqDiff, reduceCtorEq, Int.reduceLT, Int.reduceEq, hs, hfit]; rfl)
    · have d1' : ¬ 30 < key.length := by omega
      by_cases d2 : (150 : Int) < (val.length : Int)
      · have d2' : 150 < val.length := by omega
        simp only [go_sem, Nat.reduceLT, Nat.reduceEqDiff, reduceCtorEq, Int.reduceLT, Int.reduceEq, hs, l0, l1, hc.ln, eB_len, gt_iff_lt, d1, d2]
        rw [if_pos (.inr d2')] at hfit
        exact hQ _ _ (by simp only [slot_len, hs]) (by simp only [go_sem, Nat.reduceLT, Nat.reduceEqDiff, reduceCtorEq, Int.reduceLT, Int.reduceEq, hs, hfit]; rfl)
      · have d2' : ¬ 150 < val.length := by omega
        rw [if_neg (by simp only; omega)] at hfit
        obtain ⟨v, h', n22, w, hw2, hS2⟩ := row_pure (k := key) (l := val) hc (by omega) (by omega)
        have hrl := rowB_le (p := (key, val)) ⟨by simp only; omega, by simp only; omega⟩
        have ea : IntKind.i64.wrap (1 + ((rowB (key, val)).length : Int)) = ((1 + (rowB (key, val)).length : Nat) : Int) := by rw [IntWalk.i64_in _ (by omega)]; omega
        have eb : IntKind.i64.wrap ((n : Int) + ((1 + (rowB (key, val)).length : Nat) : Int)) = ((n + (1 + (rowB (key, val)).length) : Nat) : Int) := by rw [IntWalk.i64_in _ (by omega)]; omega
        simp only [go_sem, Nat.reduceLT, Nat.reduceEqDiff, reduceCtorEq, Int.reduceLT, Int.reduceEq, hs, l0, l1, l2, hc.ln, eB_len, gt_iff_lt, d1, d2]
        refine XO_callP (h1 := g) (by simp only [List.map, go_sem, Nat.reduceLT, Nat.reduceEqDiff, reduceCtorEq, Int.reduceLT, Int.reduceEq, hs]; rfl) n22 hw2 ?_
        by_cases d3 : (250 : Int) < ((n + (1 + (rowB (key, val)).length) : Nat) : Int)
        · simp only [go_sem, Nat.reduceLT, Nat.reduceEqDiff, reduceCtorEq, Int.reduceLT, Int.reduceEq, hs, h3, hS2.ln, eB_len, ea, eb, gt_iff_lt, d3]
          rw [if_pos (by omega)] at hfit
          exact hQ _ _ (by simp only [slot_len, hs]) (by simp only [go_sem, Nat.reduceLT, Nat.reduceEqDiff, reduceCtorEq, Int.reduceLT, Int.reduceEq, hs, hfit]; rfl)
        · simp only [go_sem, Nat.reduceLT, Nat.reduceEqDiff, reduceCtorEq, Int.reduceLT, Int.reduceEq, hs, h3, hS2.ln, eB_len, ea, eb, gt_iff_lt, d3, h8, hw]
          rw [if_neg (by omega)] at hfit
          refine ih (k + 1) (n + (1 + (rowB (key, val)).length)) _ _ Q (by omega) (by omega) (by simp only [slot_len, hs]) (by simp only [go_sem, Nat.reduceLT, Nat.reduceEqDiff, reduceCtorEq, Int.reduceLT, Int.reduceEq, h0]) (by simp only [go_sem, Nat.reduceLT, Nat.reduceEqDiff, reduceCtorEq, Int.reduceLT, Int.reduceEq, hs]) (by simp only [go_sem, Nat.reduceLT, Nat.reduceEqDiff, reduceCtorEq, Int.reduceLT, Int.reduceEq, h6]) (by simp only [go_sem, Nat.reduceLT, Nat.reduceEqDiff, reduceCtorEq, Int.reduceLT, Int.reduceEq, h7]) (by simp only [go_sem, Nat.reduceLT, Nat.reduceEqDiff, reduceCtorEq, Int.reduceLT, Int.reduceEq, hs]) (fun hh => hE (by rw [hfit, hh]; omega)) (fun s' h' a1 a2 => hQ s' h' a1 ?_)
          rw [a2, hfit, Nat.add_assoc]

theorem fit_f43 {els : List (List CV)} {kv : List KV} {u : VV} (hS : SlV 2 els u) (hR : RowsE els kv) (hn : kv.length ≤ 9223372036854775807) : ∃ h', call F 43 [u] [] = some (.ret (vi .i64 (fitF 0 kv : Nat)), h') := by
  have : Ret F 43 [u] [] fun v h' => v = vi .i64 (fitF 0 kv : Nat) := by
    refine call_E (fn := f43) rfl ?_
    simp only [f43]
    generalize hs0 : ([u] ++ List.replicate _ VV.undef : List VV) = s
    have hs : s.length = 36 := by rw [← hs0]; rfl
    have h0 : s.getD 0 .undef = u := by rw [← hs0]; rfl
    clear hs0
    have hl := hR.len
    simp only [go_sem, Nat.reduceLT, Nat.reduceEqDiff, reduceCtorEq, Int.reduceLT, Int.reduceEq, hs, h0, hS.ln]
    refine f43_loop hS hR hn kv.length 0 0 _ _ _ (by omega) (by omega) (by simp only [slot_len, hs]) (by simp only [go_sem, Nat.reduceLT, Nat.reduceEqDiff, reduceCtorEq, Int.reduceLT, Int.reduceEq, h0]) (by simp only [go_sem, Nat.reduceLT, Nat.reduceEqDiff, reduceCtorEq, Int.reduceLT, Int.reduceEq, hs]; rfl) (by simp only [go_sem, Nat.reduceLT, Nat.reduceEqDiff, reduceCtorEq, Int.reduceLT, Int.reduceEq, hs]) (by simp only [go_sem, Nat.reduceLT, Nat.reduceEqDiff, reduceCtorEq, Int.reduceLT, Int.reduceEq, hs, hl]) (by simp only [go_sem, Nat.reduceLT, Nat.reduceEqDiff, reduceCtorEq, Int.reduceLT, Int.reduceEq, hs]; rfl) (fun hh s' h' a1 a0 => ?_) (fun s' h' a1 a2 => ?_)
    · simp only [go_sem, Nat.reduceLT, Nat.reduceEqDiff, reduceCtorEq, Int.reduceLT, Int.reduceEq, a1, a0, hS.ln, hl]
      rw [List.drop_zero] at hh
      rw [hh]
    · rw [List.drop_zero, Nat.zero_add] at a2
      simp only [go_sem, Nat.reduceLT, Nat.reduceEqDiff, reduceCtorEq, Int.reduceLT, Int.reduceEq, a1, a2]
  obtain ⟨v, h', e1, rfl⟩ := this
  exact ⟨h', e1⟩

theorem f39_loop {els : List (List CV)} {kv : List KV} {u : VV} (hS : SlV 2 els u) (hR : RowsE els kv) (hn : kv.length ≤ 9223372036854775807) :
    ∀ (r k n : Nat) (s : List VV) (h : Heap) (Q : Pst), k + r = kv.length → n ≤ 250 → s.length = 42 → s.getD 0 .undef = u → s.getD 3 .undef = vi .i64 n → s.getD 4 .undef = vi .i64 k →
      (fitF n (kv.drop k) = r → ∀ s' h', s'.length = 42 → s'.getD 0 .undef = u → Q (.exit 0) ⟨s', h'⟩) → (∀ s' h', s'.length = 42 → s'.getD 2 .undef = vi .i64 ((k + fitF n (kv.drop k) : Nat) : Int) → Q .ret ⟨s', h'⟩) → X F (.loop f39_1) ⟨s, h⟩ Q := by
  have hl := hR.len
  intro r
  induction r with
  | zero =>
    intro k n s h Q hk hn2 hs h0 h3 h4 hE hQ
    rw [X_loop, X_eq f39_1.eq_1]
    have c : ¬ (k : Int) < (kv.length : Int) := by omega
    simp only [go_sem, Nat.reduceLT, Nat.reduceEqDiff, reduceCtorEq, Int.reduceLT, Int.reduceEq, hs, h0, h4, hS.ln, hl, c]
    refine hE ?_ _ _ (by simp only [slot_len, hs]) (by simp only [go_sem, Nat.reduceLT, Nat.reduceEqDiff, reduceCtorEq, Int.reduceLT, Int.reduceEq, h0])
    rw [List.drop_eq_nil_of_le (by omega)]; rfl
  | succ r ih =>
    intro k n s h Q hk hn2 hs h0 h3 h4 hE hQ
    obtain ⟨e, p, he, hp, c, rfl, hc⟩ := hR.get (i := k) (by omega)
    obtain ⟨key, val⟩ := p
    simp only at hc
    have hfit := fit_step (n := n) hp
    rw [X_loop, X_eq f39_1.eq_1]
    have c1 : (k : Int) < (kv.length : Int) := by omega
    have hw : IntKind.i64.wrap ((k : Int) + 1) = ((k + 1 : Nat) : Int) := by rw [IntWalk.i64_in _ (by omega)]; omega
    have hia := hS.ia (h := h) (k := .i64) (j := (k : Int)) (by omega) he
    simp only [go_sem, Nat.reduceLT, Nat.reduceEqDiff, reduceCtorEq, Int.reduceLT, Int.reduceEq, hs, h0, h4, hS.ln, hl, c1]
    rw [X_eq f39_0.eq_1]
    by_cases d1 : (30 : Int) < (key.length : Int)
    · have d1' : 30 < key.length := by omega
      simp only [go_sem, Nat.reduceLT, Nat.reduceEqDiff, reduceCtorEq, Int.reduceLT, Int.reduceEq, hs, h0, h4, hia, gt_iff_lt, d1]
      rw [if_pos (.inl d1')] at hfit
      exact hQ _ _ (by simp only [slot_len, hs]) (by simp only [go_sem, Nat.reduceLT, Nat.reduceEqDiff, reduceCtorEq, Int.reduceLT, Int.reduceEq, hs, hfit]; rfl)
    · have d1' : ¬ 30 < key.length := by omega
      by_cases d2 : (150 : Int) < (val.length : Int)
      · have d2' : 150 < val.length := by omega
        simp only [go_sem, Nat.reduceLT, Nat.reduceEqDiff, reduceCtorEq, Int.reduceLT, Int.reduceEq, hs, h0, h4, hia, hc.ln, eB_len, gt_iff_lt, d1, d2]
        rw [if_pos (.inr d2')] at hfit
        exact hQ _ _ (by simp only [slot_len, hs]) (by simp only [go_sem, Nat.reduceLT, Nat.reduceEqDiff, reduceCtorEq, Int.reduceLT, Int.reduceEq, hs, hfit]; rfl)
      · have d2' : ¬ 150 < val.length := by omega
        rw [if_neg (by simp only; omega)] at hfit
        obtain ⟨v, h', n22, w, hw2, hS2⟩ := rbytes_pure (k := key) (l := val) hc (by omega) (by omega)
        have hrl := rowB_le (p := (key, val)) ⟨by simp only; omega, by simp only; omega⟩
        have ea : IntKind.i64.wrap (1 + ((rowB (key, val)).length : Int)) = ((1 + (rowB (key, val)).length : Nat) : Int) := by rw [IntWalk.i64_in _ (by omega)]; omega
        have eb : IntKind.i64.wrap ((n : Int) + ((1 + (rowB (key, val)).length : Nat) : Int)) = ((n + (1 + (rowB (key, val)).length) : Nat) : Int) := by rw [IntWalk.i64_in _ (by omega)]; omega
        have l2 : ldO h true 2 (.rptr [CV.sc (.string ⟨key.toArray⟩), c]) = some (.agg [txt key, .cv c], h) := ld_rN rfl
        simp only [go_sem, Nat.reduceLT, Nat.reduceEqDiff, reduceCtorEq, Int.reduceLT, Int.reduceEq, hs, h0, h4, hia, l2, hc.ln, eB_len, gt_iff_lt, d1, d2]
        refine XO_callP (h1 := h) (by simp only [List.map, go_sem, Nat.reduceLT, Nat.reduceEqDiff, reduceCtorEq, Int.reduceLT, Int.reduceEq, hs]; rfl) n22 hw2 ?_
        by_cases d3 : (250 : Int) < ((n + (1 + (rowB (key, val)).length) : Nat) : Int)
        · simp only [go_sem, Nat.reduceLT, Nat.reduceEqDiff, reduceCtorEq, Int.reduceLT, Int.reduceEq, hs, h3, hS2.ln, eB_len, ea, eb, gt_iff_lt, d3]
          rw [if_pos (by omega)] at hfit
          exact hQ _ _ (by simp only [slot_len, hs]) (by simp only [go_sem, Nat.reduceLT, Nat.reduceEqDiff, reduceCtorEq, Int.reduceLT, Int.reduceEq, hs, h4, hfit]; rfl)
        · simp only [go_sem, Nat.reduceLT, Nat.reduceEqDiff, reduceCtorEq, Int.reduceLT, Int.reduceEq, hs, h3, hS2.ln, eB_len, ea, eb, gt_iff_lt, d3, h4, hw]
          rw [if_neg (by omega)] at hfit
          refine ih (k + 1) (n + (1 + (rowB (key, val)).length)) _ _ Q (by omega) (by omega) (by simp only [slot_len, hs]) (by simp only [go_sem, Nat.reduceLT, Nat.reduceEqDiff, reduceCtorEq, Int.reduceLT, Int.reduceEq, h0]) (by simp only [go_sem, Nat.reduceLT, Nat.reduceEqDiff, reduceCtorEq, Int.reduceLT, Int.reduceEq, hs]) (by simp only [go_sem, Nat.reduceLT, Nat.reduceEqDiff, reduceCtorEq, Int.reduceLT, Int.reduceEq, hs]) (fun hh => hE (by rw [hfit, hh]; omega)) (fun s' h' a1 a2 => hQ s' h' a1 ?_)
          rw [a2, hfit, Nat.add_assoc]

theorem rfit_f39 {els : List (List CV)} {kv : List KV} {u : VV} (hS : SlV 2 els u) (hR : RowsE els kv) (hn : kv.length ≤ 9223372036854775807) : ∃ h', call F 39 [u] [] = some (.ret (vi .i64 (fitF 0 kv : Nat)), h') := by
  have : Ret F 39 [u] [] fun v h' => v = vi .i64 (fitF 0 kv : Nat) := by
    refine call_E (fn := f39) rfl ?_
    simp only [f39]
    generalize hs0 : ([u] ++ List.replicate _ VV.undef : List VV) = s
    have hs : s.length = 42 := by rw [← hs0]; rfl
    have h0 : s.getD 0 .undef = u := by rw [← hs0]; rfl
    clear hs0
    have hl := hR.len
    simp only [go_sem, Nat.reduceLT, Nat.reduceEqDiff, reduceCtorEq, Int.reduceLT, Int.reduceEq, hs]
    refine f39_loop hS hR hn kv.length 0 0 _ _ _ (by omega) (by omega) (by simp only [slot_len, hs]) (by simp only [go_sem, Nat.reduceLT, Nat.reduceEqDiff, reduceCtorEq, Int.reduceLT, Int.reduceEq, h0]) (by simp only [go_sem, Nat.reduceLT, Nat.reduceEqDiff, reduceCtorEq, Int.reduceLT, Int.reduceEq, hs]; rfl) (by simp only [go_sem, Nat.reduceLT, Nat.reduceEqDiff, reduceCtorEq, Int.reduceLT, Int.reduceEq, hs]; rfl) (fun hh s' h' a1 a0 => ?_) (fun s' h' a1 a2 => ?_)
    · simp only [go_sem, Nat.reduceLT, Nat.reduceEqDiff, reduceCtorEq, Int.reduceLT, Int.reduceEq, a1, a0, hS.ln, hl]
      rw [List.drop_zero] at hh
      rw [hh]
    · rw [List.drop_zero, Nat.zero_add] at a2
      simp only [go_sem, Nat.reduceLT, Nat.reduceEqDiff, reduceCtorEq, Int.reduceLT, Int.reduceEq, a1, a2]
  obtain ⟨v, h', e1, rfl⟩ := this
  exact ⟨h', e1⟩
end Go.V06


set_option linter.unusedSimpArgs false
set_option linter.unusedVariables false
namespace Go.V06
open Go Go.Vm

/-! ### Encode -/
theorem drop_cons {kv : List KV} {k : Nat} {p : KV} (hp : kv[k]? = some p) : kv.drop k = p :: kv.drop (k + 1) := by
  obtain ⟨hlt, e⟩ := List.getElem?_eq_some_iff.1 hp
  rw [List.drop_eq_getElem_cons hlt, e]

theorem f32_loop {els : List (List CV)} {kv : List KV} {u : VV} (hS : SlV 2 els u) (hR : RowsE els kv) (hn : kv.length ≤ 250) {g0 : Heap} {p : Nat} (hp0 : g0.length ≤ p) :
    ∀ (r k a : Nat) (pg : List UInt8) (s : List VV) (h : Heap) (Q : Pst), k + r = kv.length → Fits (kv.drop k) → 2 + k + sumR (kv.drop k) ≤ a → a ≤ 252 → pg.length = 252 → HExt g0 h → h[p]? = some (bBox pg) →
      s.length = 56 → s.getD 6 .undef = .ptr p 0 → s.getD 7 .undef = vi .i64 a → s.getD 31 .undef = u → s.getD 32 .undef = vi .i64 kv.length → s.getD 33 .undef = vi .i64 k →
      (∀ s' h', s'.length = 56 → s'.getD 6 .undef = .ptr p 0 → HExt g0 h' → h'[p]? = some (bBox (putR pg k a (kv.drop k))) → Q (.exit 0) ⟨s', h'⟩) → X F (.loop f32_2) ⟨s, h⟩ Q := by
  intro r
  induction r with
  | zero =>
    intro k a pg s h Q hk hf hsum ha hpl x hp hs h6 h7 h31 h32 h33 hE
    rw [X_loop, X_eq f32_2.eq_1]
    have c : ¬ (k : Int) < (kv.length : Int) := by omega
    simp only [go_sem, Nat.reduceLT, Nat.reduceEqDiff, reduceCtorEq, Int.reduceLT, Int.reduceEq, hs, h32, h33, c]
    rw [X_eq f32_1.eq_1]
    simp only [go_sem, Nat.reduceLT, Nat.reduceEqDiff, reduceCtorEq, Int.reduceLT, Int.reduceEq, hs]
    refine hE _ _ (by simp only [slot_len, hs]) (by simp only [go_sem, Nat.reduceLT, Nat.reduceEqDiff, reduceCtorEq, Int.reduceLT, Int.reduceEq, h6]) x ?_
    rw [List.drop_eq_nil_of_le (by omega)]; exact hp
  | succ r ih =>
    intro k a pg s h Q hk hf hsum ha hpl x hp hs h6 h7 h31 h32 h33 hE
    obtain ⟨e, q, he, hq, c, rfl, hc⟩ := hR.get (i := k) (by omega)
    obtain ⟨key, val⟩ := q
    simp only at hc
    have hd := drop_cons hq
    rw [hd] at hf hsum
    rw [sumR_cons] at hsum
    have hfp : key.length ≤ 30 ∧ val.length ≤ 150 := hf (key, val) (List.mem_cons_self ..)
    have hf' : Fits (kv.drop (k + 1)) := fun q hq => hf q (List.mem_cons_of_mem _ hq)
    rw [X_loop, X_eq f32_2.eq_1]
    have c1 : (k : Int) < (kv.length : Int) := by omega
    have hw : IntKind.i64.wrap ((k : Int) + 1) = ((k + 1 : Nat) : Int) := by rw [IntWalk.i64_in _ (by omega)]; omega
    have hia := hS.ia (h := h) (k := .i64) (j := (k : Int)) (by omega) he
    simp only [go_sem, Nat.reduceLT, Nat.reduceEqDiff, reduceCtorEq, Int.reduceLT, Int.reduceEq, hs, h32, h33, c1]
    rw [X_eq f32_1.eq_1]
    simp only [go_sem, Nat.reduceLT, Nat.reduceEqDiff, reduceCtorEq, Int.reduceLT, Int.reduceEq, hs, h31, h33, hia, ld_rN (n := 2) (show [CV.sc (.string ⟨key.toArray⟩), c].length = 2 from rfl), List.map]
    have q1 : (h ++ [VO.box [txt key, .cv c] false])[h.length]? = some (.box [txt key, .cv c] false) := at_last
    have x1 := x.then (VO.box [txt key, .cv c] false)
    have hpp := (HExt.push h (VO.box [txt key, .cv c] false)).get hp
    generalize h ++ [VO.box [txt key, .cv c] false] = g at q1 x1 hpp
    have l2 : ldO g true 2 (.ptr h.length 0) = some (.agg [txt key, .cv c], g) := ld_bxN q1 rfl
    obtain ⟨v, h', n22, w, hw2, hS2⟩ := row_pure (k := key) (l := val) hc (by omega) (by omega)
    generalize hrb : rowB (key, val) = rb at *
    have e1 : IntKind.i64.wrap ((a : Int) - (rb.length : Int)) = ((a - rb.length : Nat) : Int) := by rw [IntWalk.i64_in _ (by omega)]; omega
    have e2 : IntKind.i64.wrap (2 + (k : Int)) = ((2 + k : Nat) : Int) := by rw [IntWalk.i64_in _ (by omega)]; omega
    have e3 : IntKind.u8.wrap ((a - rb.length : Nat) : Int) = ((UInt8.ofNat (a - rb.length)).toNat : Int) := by
      rw [toNat_of (by omega)]; exact IntWalk.u8_in _ (by omega)
    have s1 := st_bB (x := UInt8.ofNat (a - rb.length)) hpp (show 2 + k < pg.length by omega)
    have hp2 : (g.set p (bBox (pg.set (2 + k) (UInt8.ofNat (a - rb.length)))))[p]? = some (bBox (pg.set (2 + k) (UInt8.ofNat (a - rb.length)))) := by rw [List.getElem?_set_self (lt_at hpp)]
    have x2 := x1.set hp0 (bBox (pg.set (2 + k) (UInt8.ofNat (a - rb.length))))
    refine XO_callP (h1 := g) (by simp only [List.map, go_sem, Nat.reduceLT, Nat.reduceEqDiff, reduceCtorEq, Int.reduceLT, Int.reduceEq, hs]; rfl) n22 hw2 ?_
    simp only [go_sem, Nat.reduceLT, Nat.reduceEqDiff, reduceCtorEq, Int.reduceLT, Int.reduceEq, hs, h6, h7, h33, hS2.ln, eB_len, e1, e2, e3, iaA_p (show 2 + k < 252 by omega), Nat.mul_one, s1]
    generalize g.set p (bBox (pg.set (2 + k) (UInt8.ofNat (a - rb.length)))) = g2 at hp2 x2
    have hl2 : (pg.set (2 + k) (UInt8.ofNat (a - rb.length))).length = 252 := by rw [List.length_set, hpl]
    have s2 := sa_from (n := 252) (a := a - rb.length) (k := .i64) hp2 (by rw [List.length_map, bC_len, hl2]; omega) (by omega)
    have s3 := cp_bB (ex := true) (off := a - rb.length) (len := 252 - (a - rb.length)) hp2 (by omega) hS2.src (by omega)
    simp only [go_sem, Nat.reduceLT, Nat.reduceEqDiff, reduceCtorEq, Int.reduceLT, Int.reduceEq, hs, h6, s2, s3, h33, hw]
    refine ih (k + 1) (a - rb.length) (splice (pg.set (2 + k) (UInt8.ofNat (a - rb.length))) (a - rb.length) rb) _ _ Q (by omega) hf' (by omega) (by omega) (by rw [splice_len (by omega), hl2]) (x2.set hp0 _) (by rw [List.getElem?_set_self (lt_at hp2)]) (by simp only [slot_len, hs]) (by simp only [go_sem, Nat.reduceLT, Nat.reduceEqDiff, reduceCtorEq, Int.reduceLT, Int.reduceEq, h6]) (by simp only [go_sem, Nat.reduceLT, Nat.reduceEqDiff, reduceCtorEq, Int.reduceLT, Int.reduceEq, hs]) (by simp only [go_sem, Nat.reduceLT, Nat.reduceEqDiff, reduceCtorEq, Int.reduceLT, Int.reduceEq, h31]) (by simp only [go_sem, Nat.reduceLT, Nat.reduceEqDiff, reduceCtorEq, Int.reduceLT, Int.reduceEq, h32]) (by simp only [go_sem, Nat.reduceLT, Nat.reduceEqDiff, reduceCtorEq, Int.reduceLT, Int.reduceEq, hs])
      (fun s' h' b1 b2 b3 b4 => hE s' h' b1 b2 b3 ?_)
    rw [hd]
    simp only [putR, hrb]
    exact b4

/-- What Encode tells. -/
def EncP (h : Heap) (x : Option (List UInt8)) (v : VV) (h' : Heap) : Prop := match x with
  | none => v = .tup [nilS, vb false]
  | some b => ∃ w, v = .tup [w, vb true] ∧ NB h h' 1 (eB b) w

theorem sum_len : ∀ l : List KV, 3 * l.length ≤ sumR l
  | [] => by simp [sumR]
  | p :: l => by
    have := sum_len l
    rw [sumR_cons]
    have h1 : text p.1 ≠ [] := fun e => text_ne p.1 (by rw [e]; rfl)
    have h2 : text p.2 ≠ [] := fun e => text_ne p.2 (by rw [e]; rfl)
    have h3 := List.length_pos_iff.2 h1
    have h4 := List.length_pos_iff.2 h2
    have : (rowB p).length = (text p.1).length + (text p.2).length := by unfold rowB; simp
    simp; omega

theorem encode_f32 (h : Heap) (level : Int) {els : List (List CV)} {kv : List KV} {u : VV} (hS : SlV 2 els u) (hR : RowsE els kv) (hn : kv.length ≤ 9223372036854775807) : Ret F 32 [vi .i64 level, u] h fun v h' => EncP h (encF level kv) v h' := by
  refine call_E (fn := f32) rfl ?_
  simp only [f32]
  generalize hs0 : ([vi .i64 level, u] ++ List.replicate _ VV.undef : List VV) = s
  have hs : s.length = 56 := by rw [← hs0]; rfl
  have h0 : s.getD 0 .undef = vi .i64 level := by rw [← hs0]; rfl
  have h1 : s.getD 1 .undef = u := by rw [← hs0]; rfl
  clear hs0
  generalize hZ : (List.replicate 252 (VV.cv (.sc (.int .u8 0)))) = Z
  have hZb : Z = (bC (List.replicate 252 0)).map .cv := by rw [← hZ]; exact bC_replicate 252
  have hl := hR.len
  simp only [go_sem, Nat.reduceLT, Nat.reduceEqDiff, reduceCtorEq, Int.reduceLT, Int.reduceEq, hs]
  rw [X_eq f32_0.eq_1]
  unfold encF
  by_cases c1 : level < 0
  · simp only [go_sem, Nat.reduceLT, Nat.reduceEqDiff, reduceCtorEq, Int.reduceLT, Int.reduceEq, hs, h0, c1, true_or]
    rfl
  · by_cases c2 : 4 < level
    · simp only [go_sem, Nat.reduceLT, Nat.reduceEqDiff, reduceCtorEq, Int.reduceLT, Int.reduceEq, hs, h0, c1, gt_iff_lt, c2, true_or, or_true]
      rfl
    · obtain ⟨h11, n11⟩ := fit_f43 hS hR hn
      have hle := fitF_le kv 0
      simp only [go_sem, Nat.reduceLT, Nat.reduceEqDiff, reduceCtorEq, Int.reduceLT, Int.reduceEq, hs, h0, h1, c1, gt_iff_lt, c2]
      refine XO_callP (h1 := h) (by simp only [List.map, go_sem, Nat.reduceLT, Nat.reduceEqDiff, reduceCtorEq, Int.reduceLT, Int.reduceEq, hs]; exact hS.clos rfl) n11 rfl ?_
      by_cases c3 : ((fitF 0 kv : Nat) : Int) < (kv.length : Int)
      · have c3' : fitF 0 kv < kv.length := by omega
        simp only [go_sem, Nat.reduceLT, Nat.reduceEqDiff, reduceCtorEq, Int.reduceLT, Int.reduceEq, hs, h1, hS.ln, hl, c3, c3', or_true]
        rfl
      · have c3' : ¬ fitF 0 kv < kv.length := by omega
        obtain ⟨hsum, hF⟩ := fitF_all kv 0 (by omega) (by omega)
        have hcount := sum_len kv
        have elv : IntKind.u8.wrap level = ((UInt8.ofNat level.toNat).toNat : Int) := by
          rw [toNat_of (by omega), IntWalk.u8_in _ (by omega)]; omega
        have eln : IntKind.u8.wrap (kv.length : Int) = ((UInt8.ofNat kv.length).toNat : Int) := by
          rw [toNat_of (by omega), IntWalk.u8_in _ (by omega)]
        simp only [go_sem, Nat.reduceLT, Nat.reduceEqDiff, reduceCtorEq, Int.reduceLT, Int.reduceEq, hs, h0, h1, hS.ln, hl, c3, elv, eln]
        have q1 : (h ++ [VO.box Z false])[h.length]? = some (bBox (List.replicate 252 0)) := by rw [hZb]; exact at_last
        have x1 := HExt.push h (VO.box Z false)
        generalize h ++ [VO.box Z false] = g1 at q1 x1
        have s1 := st_bB (x := UInt8.ofNat level.toNat) (j := 0) q1 (by rw [List.length_replicate]; omega)
        have q2 : (g1.set h.length (bBox ((List.replicate 252 0).set 0 (UInt8.ofNat level.toNat))))[h.length]? = some (bBox ((List.replicate 252 0).set 0 (UInt8.ofNat level.toNat))) := by rw [List.getElem?_set_self (lt_at q1)]
        have x2 := x1.set (Nat.le_refl _) (bBox ((List.replicate 252 0).set 0 (UInt8.ofNat level.toNat)))
        generalize g1.set h.length (bBox ((List.replicate 252 0).set 0 (UInt8.ofNat level.toNat))) = g2 at s1 q2 x2
        have s2 := st_bB (x := UInt8.ofNat kv.length) (j := 1) q2 (by rw [List.length_set, List.length_replicate]; omega)
        have epg : ((List.replicate 252 (0 : UInt8)).set 0 (UInt8.ofNat level.toNat)).set 1 (UInt8.ofNat kv.length) = page0 level.toNat kv.length := rfl
        rw [epg] at s2
        have q3 : (g2.set h.length (bBox (page0 level.toNat kv.length)))[h.length]? = some (bBox (page0 level.toNat kv.length)) := by rw [List.getElem?_set_self (lt_at q2)]
        have x3 := x2.set (Nat.le_refl _) (bBox (page0 level.toNat kv.length))
        generalize g2.set h.length (bBox (page0 level.toNat kv.length)) = g3 at s2 q3 x3
        have i0 : iaAO 252 1 (.ptr h.length 0) (vi .i64 0) = some (.ptr h.length 0) := iaA_p (j := 0) (by decide)
        have i1 : iaAO 252 1 (.ptr h.length 0) (vi .i64 1) = some (.ptr h.length 1) := iaA_p (j := 1) (by decide)
        simp only [go_sem, Nat.reduceLT, Nat.reduceEqDiff, reduceCtorEq, Int.reduceLT, Int.reduceEq, hs, h1, hS.ln, hl, i0, i1, s1, s2]
        refine f32_loop hS hR (by omega) (Nat.le_refl h.length) kv.length 0 252 _ _ _ _ (by omega) hF (by rw [List.drop_zero]; omega) (by omega) page0_len x3 q3 (by simp only [slot_len, hs]) (by simp only [go_sem, Nat.reduceLT, Nat.reduceEqDiff, reduceCtorEq, Int.reduceLT, Int.reduceEq, hs]) (by simp only [go_sem, Nat.reduceLT, Nat.reduceEqDiff, reduceCtorEq, Int.reduceLT, Int.reduceEq, hs]; rfl) (by simp only [go_sem, Nat.reduceLT, Nat.reduceEqDiff, reduceCtorEq, Int.reduceLT, Int.reduceEq, hs]) (by simp only [go_sem, Nat.reduceLT, Nat.reduceEqDiff, reduceCtorEq, Int.reduceLT, Int.reduceEq, hs]) (by simp only [go_sem, Nat.reduceLT, Nat.reduceEqDiff, reduceCtorEq, Int.reduceLT, Int.reduceEq, hs]; rfl) (fun s' h' a1 a6 x4 q4 => ?_)
        rw [List.drop_zero] at q4
        have hpl : (putR (page0 level.toNat kv.length) 0 252 kv).length = 252 := pageR_len (by omega)
        have ss := sa_box (n := 252) (z := 1) (off := 0) q4 (by rw [List.length_map, bC_len, hpl]; omega)
        have Bs := bsrc_ob (ex := true) x4 q4 (Nat.le_refl _)
        rw [hpl] at Bs
        obtain ⟨v5, h5, n5, B5⟩ := seal_f45 Bs (by rw [hpl]; omega)
        simp only [go_sem, Nat.reduceLT, Nat.reduceEqDiff, reduceCtorEq, Int.reduceLT, Int.reduceEq, a1, a6, ss]
        refine XO_callR (by simp only [List.map, go_sem, Nat.reduceLT, Nat.reduceEqDiff, reduceCtorEq, Int.reduceLT, Int.reduceEq, a1]; exact n5) ?_
        have hneg : ¬ (level < 0 ∨ 4 < level ∨ fitF 0 kv < kv.length) := by omega
        simp only [go_sem, Nat.reduceLT, Nat.reduceEqDiff, reduceCtorEq, Int.reduceLT, Int.reduceEq, a1, c3', or_self]
        exact ⟨v5, rfl, B5⟩
end Go.V06


set_option linter.unusedSimpArgs false
set_option linter.unusedVariables false
namespace Go.V06
open Go Go.Vm

/-! ### the document's Encode -/
theorem f40_copy {rb : List UInt8} {w : VV} (hw : SlV 1 (eB rb) w) {pg : List UInt8} {a id : Nat} (ha : a + rb.length ≤ pg.length) (hpl : pg.length = 252) {ex : Bool} :
    ∀ (r k : Nat) (s : List VV) (h : Heap) (Q : Pst), k + r = rb.length → h[id]? = some (.arr 1 (eB (splice pg a (rb.take k))) 0 false) → s.length = 72 → s.getD 6 .undef = .own id 0 0 252 ex → s.getD 7 .undef = vi .i64 a → s.getD 9 .undef = w → s.getD 10 .undef = vi .i64 k →
      (∀ s' h', s'.length = 72 → (∀ i, i < 9 → s'.getD i .undef = s.getD i .undef) → h' = h.set id (.arr 1 (eB (splice pg a rb)) 0 false) → Q (.exit 2) ⟨s', h'⟩) → X F (.loop f40_1) ⟨s, h⟩ Q := by
  intro r
  induction r with
  | zero =>
    intro k s h Q hk hA hs h6 h7 h9 h10 hE
    rw [X_loop, X_eq f40_1.eq_1]
    have c : ¬ (k : Int) < (rb.length : Int) := by omega
    simp only [go_sem, Nat.reduceLT, Nat.reduceEqDiff, reduceCtorEq, Int.reduceLT, Int.reduceEq, hs, h9, h10, hw.ln, eB_len, c]
    refine hE _ _ (by simp only [slot_len, hs]) (fun i hi => ?_) ?_
    · have : ∀ j, 9 ≤ j → j ≠ i := by omega
      rw [slot_ne (this _ (by decide)), slot_ne (this _ (by decide)), slot_ne (this _ (by decide)), slot_ne (this _ (by decide))]
    · rw [List.take_of_length_le (by omega)] at hA
      apply List.ext_getElem?
      intro i
      by_cases hi : id = i
      · subst hi; rw [List.getElem?_set_self (lt_at hA), hA]
      · rw [List.getElem?_set_ne hi]
  | succ r ih =>
    intro k s h Q hk hA hs h6 h7 h9 h10 hE
    rw [X_loop, X_eq f40_1.eq_1]
    have hkl : k < rb.length := by omega
    have c : (k : Int) < (rb.length : Int) := by omega
    have hw1 : IntKind.i64.wrap ((k : Int) + 1) = ((k + 1 : Nat) : Int) := by rw [IntWalk.i64_in _ (by omega)]; omega
    have ea : IntKind.i64.wrap ((a : Int) + (k : Int)) = ((a + k : Nat) : Int) := by rw [IntWalk.i64_in _ (by omega)]; omega
    have hia := hw.ia (h := h) (k := .i64) (j := (k : Int)) (by omega) (eB_get (List.getElem?_eq_getElem hkl))
    have hlk : (rb.take k).length = k := by simp; omega
    have hsl : (splice pg a (rb.take k)).length = 252 := by rw [splice_len (by omega), hpl]
    have i2 := ia_bA (n := 252) (ex := ex) (k := .i64) (j := a + k) hA (by omega)
    have st2 := st_bA (x := rb[k]) (j := a + k) hA (by omega)
    rw [splice_step (by rw [hlk]; omega) hlk] at st2
    have etake : rb.take k ++ [rb[k]] = rb.take (k + 1) := by rw [List.take_succ_eq_append_getElem hkl]
    rw [etake] at st2
    have hA' : (h.set id (.arr 1 (eB (splice pg a (rb.take (k + 1)))) 0 false))[id]? = some (.arr 1 (eB (splice pg a (rb.take (k + 1)))) 0 false) := by rw [List.getElem?_set_self (lt_at hA)]
    simp only [go_sem, Nat.reduceLT, Nat.reduceEqDiff, reduceCtorEq, Int.reduceLT, Int.reduceEq, hs, h6, h7, h9, h10, hw.ln, eB_len, c, hia, byteCell, ea, i2, st2, hw1]
    refine ih (k + 1) _ _ Q (by omega) hA' (by simp only [slot_len, hs]) (by simp only [go_sem, Nat.reduceLT, Nat.reduceEqDiff, reduceCtorEq, Int.reduceLT, Int.reduceEq, h6]) (by simp only [go_sem, Nat.reduceLT, Nat.reduceEqDiff, reduceCtorEq, Int.reduceLT, Int.reduceEq, h7]) (by simp only [go_sem, Nat.reduceLT, Nat.reduceEqDiff, reduceCtorEq, Int.reduceLT, Int.reduceEq, h9]) (by simp only [go_sem, Nat.reduceLT, Nat.reduceEqDiff, reduceCtorEq, Int.reduceLT, Int.reduceEq, hs]) (fun s' h' b1 b2 b3 => hE s' h' b1 (fun i hi => ?_) (by rw [b3, List.set_set]))
    rw [b2 i hi]
    have : ∀ j, 9 ≤ j → j ≠ i := by omega
    simp (disch := first | omega | exact this _ (by decide)) only [slot_ne]

theorem f40_loop {els : List (List CV)} {kv : List KV} {u : VV} (hS : SlV 2 els u) (hR : RowsE els kv) (hn : kv.length ≤ 250) {g0 : Heap} {id : Nat} (hp0 : g0.length ≤ id) {ex : Bool} :
    ∀ (r k a : Nat) (pg : List UInt8) (s : List VV) (h : Heap) (Q : Pst), k + r = kv.length → Fits (kv.drop k) → 2 + k + sumR (kv.drop k) ≤ a → a ≤ 252 → pg.length = 252 → HExt g0 h → h[id]? = some (.arr 1 (eB pg) 0 false) →
      s.length = 72 → s.getD 1 .undef = u → s.getD 6 .undef = .own id 0 0 252 ex → s.getD 7 .undef = vi .i64 a → s.getD 8 .undef = vi .i64 k →
      (∀ s' h', s'.length = 72 → s'.getD 6 .undef = .own id 0 0 252 ex → HExt g0 h' → h'[id]? = some (.arr 1 (eB (putR pg k a (kv.drop k))) 0 false) → Q (.exit 0) ⟨s', h'⟩) → X F (.loop f40_2) ⟨s, h⟩ Q := by
  have hl := hR.len
  intro r
  induction r with
  | zero =>
    intro k a pg s h Q hk hf hsum ha hpl x hp hs h1 h6 h7 h8 hE
    rw [X_loop, X_eq f40_2.eq_1]
    have c : ¬ (k : Int) < (kv.length : Int) := by omega
    simp only [go_sem, Nat.reduceLT, Nat.reduceEqDiff, reduceCtorEq, Int.reduceLT, Int.reduceEq, hs, h1, h8, hS.ln, hl, c]
    refine hE _ _ (by simp only [slot_len, hs]) (by simp only [go_sem, Nat.reduceLT, Nat.reduceEqDiff, reduceCtorEq, Int.reduceLT, Int.reduceEq, h6]) x ?_
    rw [List.drop_eq_nil_of_le (by omega)]; exact hp
  | succ r ih =>
    intro k a pg s h Q hk hf hsum ha hpl x hp hs h1 h6 h7 h8 hE
    obtain ⟨e, q, he, hq, c, rfl, hc⟩ := hR.get (i := k) (by omega)
    obtain ⟨key, val⟩ := q
    simp only at hc
    have hd := drop_cons hq
    rw [hd] at hf hsum
    rw [sumR_cons] at hsum
    have hfp : key.length ≤ 30 ∧ val.length ≤ 150 := hf (key, val) (List.mem_cons_self ..)
    have hf' : Fits (kv.drop (k + 1)) := fun q hq => hf q (List.mem_cons_of_mem _ hq)
    rw [X_loop, X_eq f40_2.eq_1]
    have c1 : (k : Int) < (kv.length : Int) := by omega
    have hw : IntKind.i64.wrap ((k : Int) + 1) = ((k + 1 : Nat) : Int) := by rw [IntWalk.i64_in _ (by omega)]; omega
    have hia := hS.ia (h := h) (k := .i64) (j := (k : Int)) (by omega) he
    have l2 : ldO h true 2 (.rptr [CV.sc (.string ⟨key.toArray⟩), c]) = some (.agg [txt key, .cv c], h) := ld_rN rfl
    obtain ⟨v, h', n22, w, hw2, hS2⟩ := rbytes_pure (k := key) (l := val) hc (by omega) (by omega)
    generalize hrb : rowB (key, val) = rb at *
    have e1 : IntKind.i64.wrap ((a : Int) - (rb.length : Int)) = ((a - rb.length : Nat) : Int) := by rw [IntWalk.i64_in _ (by omega)]; omega
    have e2 : IntKind.i64.wrap (2 + (k : Int)) = ((2 + k : Nat) : Int) := by rw [IntWalk.i64_in _ (by omega)]; omega
    have e3 : IntKind.u8.wrap ((a - rb.length : Nat) : Int) = ((UInt8.ofNat (a - rb.length)).toNat : Int) := by
      rw [toNat_of (by omega)]; exact IntWalk.u8_in _ (by omega)
    have i1 := ia_bA (n := 252) (ex := ex) (k := .i64) (j := 2 + k) hp (by omega)
    have s1 := st_bA (x := UInt8.ofNat (a - rb.length)) hp (show 2 + k < pg.length by omega)
    have hp2 : (h.set id (.arr 1 (eB (pg.set (2 + k) (UInt8.ofNat (a - rb.length)))) 0 false))[id]? = some (.arr 1 (eB (pg.set (2 + k) (UInt8.ofNat (a - rb.length)))) 0 false) := by rw [List.getElem?_set_self (lt_at hp)]
    have x2 := x.set hp0 (.arr 1 (eB (pg.set (2 + k) (UInt8.ofNat (a - rb.length)))) 0 false)
    have hl2 : (pg.set (2 + k) (UInt8.ofNat (a - rb.length))).length = 252 := by rw [List.length_set, hpl]
    simp only [go_sem, Nat.reduceLT, Nat.reduceEqDiff, reduceCtorEq, Int.reduceLT, Int.reduceEq, hs, h1, h8, hS.ln, hl, c1, hia, l2]
    refine XO_callP (h1 := h) (by simp only [List.map, go_sem, Nat.reduceLT, Nat.reduceEqDiff, reduceCtorEq, Int.reduceLT, Int.reduceEq, hs]; rfl) n22 hw2 ?_
    simp only [go_sem, Nat.reduceLT, Nat.reduceEqDiff, reduceCtorEq, Int.reduceLT, Int.reduceEq, hs, h6, h7, h8, hS2.ln, eB_len, e1, e2, e3, i1, s1]
    generalize h.set id (.arr 1 (eB (pg.set (2 + k) (UInt8.ofNat (a - rb.length)))) 0 false) = g2 at hp2 x2
    refine f40_copy (ex := ex) hS2 (a := a - rb.length) (pg := pg.set (2 + k) (UInt8.ofNat (a - rb.length))) (by omega) hl2 rb.length 0 _ _ _ (by omega) (by rw [List.take_zero, splice_none]; exact hp2) (by simp only [slot_len, hs]) (by simp only [go_sem, Nat.reduceLT, Nat.reduceEqDiff, reduceCtorEq, Int.reduceLT, Int.reduceEq, h6]) (by simp only [go_sem, Nat.reduceLT, Nat.reduceEqDiff, reduceCtorEq, Int.reduceLT, Int.reduceEq, hs]) (by simp only [go_sem, Nat.reduceLT, Nat.reduceEqDiff, reduceCtorEq, Int.reduceLT, Int.reduceEq, hs]) (by simp only [go_sem, Nat.reduceLT, Nat.reduceEqDiff, reduceCtorEq, Int.reduceLT, Int.reduceEq, hs]; rfl) (fun s' h' a1 ao hh => ?_)
    have b1 : s'.getD 1 .undef = u := by rw [ao 1 (by decide)]; simp only [go_sem, Nat.reduceLT, Nat.reduceEqDiff, reduceCtorEq, Int.reduceLT, Int.reduceEq, h1]
    have b6 : s'.getD 6 .undef = .own id 0 0 252 ex := by rw [ao 6 (by decide)]; simp only [go_sem, Nat.reduceLT, Nat.reduceEqDiff, reduceCtorEq, Int.reduceLT, Int.reduceEq, h6]
    have b7 : s'.getD 7 .undef = vi .i64 ((a - rb.length : Nat) : Int) := by rw [ao 7 (by decide)]; simp only [go_sem, Nat.reduceLT, Nat.reduceEqDiff, reduceCtorEq, Int.reduceLT, Int.reduceEq, hs]
    have b8 : s'.getD 8 .undef = vi .i64 k := by rw [ao 8 (by decide)]; simp only [go_sem, Nat.reduceLT, Nat.reduceEqDiff, reduceCtorEq, Int.reduceLT, Int.reduceEq, h8]
    simp only [go_sem, Nat.reduceLT, Nat.reduceEqDiff, reduceCtorEq, Int.reduceLT, Int.reduceEq, a1, b8, hw]
    refine ih (k + 1) (a - rb.length) (splice (pg.set (2 + k) (UInt8.ofNat (a - rb.length))) (a - rb.length) rb) _ _ Q (by omega) hf' (by omega) (by omega) (by rw [splice_len (by omega), hl2]) (by rw [hh]; exact x2.set hp0 _) (by rw [hh, List.getElem?_set_self (lt_at hp2)]) (by simp only [slot_len, a1]) (by simp only [go_sem, Nat.reduceLT, Nat.reduceEqDiff, reduceCtorEq, Int.reduceLT, Int.reduceEq, b1]) (by simp only [go_sem, Nat.reduceLT, Nat.reduceEqDiff, reduceCtorEq, Int.reduceLT, Int.reduceEq, b6]) (by simp only [go_sem, Nat.reduceLT, Nat.reduceEqDiff, reduceCtorEq, Int.reduceLT, Int.reduceEq, b7]) (by simp only [go_sem, Nat.reduceLT, Nat.reduceEqDiff, reduceCtorEq, Int.reduceLT, Int.reduceEq, a1])
      (fun s' h' b1 b2 b3 b4 => hE s' h' b1 b2 b3 ?_)
    rw [hd]
    simp only [putR, hrb]
    exact b4

theorem rencode_f40 (h : Heap) (level : Int) {els : List (List CV)} {kv : List KV} {u : VV} (hS : SlV 2 els u) (hR : RowsE els kv) (hn : kv.length ≤ 9223372036854775807) : Ret F 40 [vi .i64 level, u] h fun v h' => EncP h (encF level kv) v h' := by
  refine call_E (fn := f40) rfl ?_
  simp only [f40]
  generalize hs0 : ([vi .i64 level, u] ++ List.replicate _ VV.undef : List VV) = s
  have hs : s.length = 72 := by rw [← hs0]; rfl
  have h0 : s.getD 0 .undef = vi .i64 level := by rw [← hs0]; rfl
  have h1 : s.getD 1 .undef = u := by rw [← hs0]; rfl
  clear hs0
  have hl := hR.len
  simp only [go_sem, Nat.reduceLT, Nat.reduceEqDiff, reduceCtorEq, Int.reduceLT, Int.reduceEq, hs]
  rw [X_eq f40_0.eq_1]
  unfold encF
  by_cases c1 : level < 0
  · simp only [go_sem, Nat.reduceLT, Nat.reduceEqDiff, reduceCtorEq, Int.reduceLT, Int.reduceEq, hs, h0, c1, true_or]
    rfl
  · by_cases c2 : 4 < level
    · simp only [go_sem, Nat.reduceLT, Nat.reduceEqDiff, reduceCtorEq, Int.reduceLT, Int.reduceEq, hs, h0, c1, gt_iff_lt, c2, true_or, or_true]
      rfl
    · obtain ⟨h11, n11⟩ := rfit_f39 hS hR hn
      have hle := fitF_le kv 0
      simp only [go_sem, Nat.reduceLT, Nat.reduceEqDiff, reduceCtorEq, Int.reduceLT, Int.reduceEq, hs, h0, h1, c1, gt_iff_lt, c2]
      refine XO_callP (h1 := h) (by simp only [List.map, go_sem, Nat.reduceLT, Nat.reduceEqDiff, reduceCtorEq, Int.reduceLT, Int.reduceEq, hs]; exact hS.clos rfl) n11 rfl ?_
      by_cases c3 : ((fitF 0 kv : Nat) : Int) < (kv.length : Int)
      · have c3' : fitF 0 kv < kv.length := by omega
        simp only [go_sem, Nat.reduceLT, Nat.reduceEqDiff, reduceCtorEq, Int.reduceLT, Int.reduceEq, hs, h1, hS.ln, hl, c3, c3', or_true]
        rfl
      · have c3' : ¬ fitF 0 kv < kv.length := by omega
        obtain ⟨hsum, hF⟩ := fitF_all kv 0 (by omega) (by omega)
        have hcount := sum_len kv
        have elv : IntKind.u8.wrap level = ((UInt8.ofNat level.toNat).toNat : Int) := by
          rw [toNat_of (by omega), IntWalk.u8_in _ (by omega)]; omega
        have eln : IntKind.u8.wrap (kv.length : Int) = ((UInt8.ofNat kv.length).toNat : Int) := by
          rw [toNat_of (by omega), IntWalk.u8_in _ (by omega)]
        simp only [go_sem, Nat.reduceLT, Nat.reduceEqDiff, reduceCtorEq, Int.reduceLT, Int.reduceEq, hs, h1, hS.ln, hl, c3]
        refine XO_mks (k := .i64) (k' := .i64) (a := 252) (by simp only [go_sem, Nat.reduceLT, Nat.reduceEqDiff, reduceCtorEq, Int.reduceLT, Int.reduceEq]; rfl) (by simp only [go_sem, Nat.reduceLT, Nat.reduceEqDiff, reduceCtorEq, Int.reduceLT, Int.reduceEq]; rfl) (by decide) (by decide) ?_
        have eZ : List.replicate 252 [CV.sc (.int .u8 0)] = eB (List.replicate 252 0) := by simp only [eB, List.map_replicate]; rfl
        rw [eZ]
        have q1 : (h ++ [VO.arr 1 (eB (List.replicate 252 0)) 0 false])[h.length]? = some (.arr 1 (eB (List.replicate 252 0)) 0 false) := at_last
        have x1 := HExt.push h (VO.arr 1 (eB (List.replicate 252 0)) 0 false)
        generalize h ++ [VO.arr 1 (eB (List.replicate 252 0)) 0 false] = g1 at q1 x1
        have i0 := ia_bA (n := 252) (ex := true) (k := .i64) (j := 0) q1 (by decide)
        have s1 := st_bA (x := UInt8.ofNat level.toNat) (j := 0) q1 (by rw [List.length_replicate]; omega)
        have q2 : (g1.set h.length (.arr 1 (eB ((List.replicate 252 0).set 0 (UInt8.ofNat level.toNat))) 0 false))[h.length]? = some (.arr 1 (eB ((List.replicate 252 0).set 0 (UInt8.ofNat level.toNat))) 0 false) := by rw [List.getElem?_set_self (lt_at q1)]
        have x2 := x1.set (Nat.le_refl _) (.arr 1 (eB ((List.replicate 252 0).set 0 (UInt8.ofNat level.toNat))) 0 false)
        generalize g1.set h.length (.arr 1 (eB ((List.replicate 252 0).set 0 (UInt8.ofNat level.toNat))) 0 false) = g2 at s1 q2 x2
        have i1 := ia_bA (n := 252) (ex := true) (k := .i64) (j := 1) q2 (by decide)
        have s2 := st_bA (x := UInt8.ofNat kv.length) (j := 1) q2 (by rw [List.length_set, List.length_replicate]; omega)
        have epg : ((List.replicate 252 (0 : UInt8)).set 0 (UInt8.ofNat level.toNat)).set 1 (UInt8.ofNat kv.length) = page0 level.toNat kv.length := rfl
        rw [epg] at s2
        have q3 : (g2.set h.length (.arr 1 (eB (page0 level.toNat kv.length)) 0 false))[h.length]? = some (.arr 1 (eB (page0 level.toNat kv.length)) 0 false) := by rw [List.getElem?_set_self (lt_at q2)]
        have x3 := x2.set (Nat.le_refl _) (.arr 1 (eB (page0 level.toNat kv.length)) 0 false)
        generalize g2.set h.length (.arr 1 (eB (page0 level.toNat kv.length)) 0 false) = g3 at s2 q3 x3
        have i0' : iaO g1 1 (.own h.length 0 0 252 true) (vi .i64 0) = some (.eptr h.length 0 0 0, g1) := i0
        have i1' : iaO g2 1 (.own h.length 0 0 252 true) (vi .i64 1) = some (.eptr h.length 0 1 0, g2) := i1
        simp only [go_sem, Nat.reduceLT, Nat.reduceEqDiff, reduceCtorEq, Int.reduceLT, Int.reduceEq, hs, h0, h1, hS.ln, hl, elv, eln, i0', i1', s1, s2]
        refine f40_loop (ex := true) hS hR (by omega) (Nat.le_refl h.length) kv.length 0 252 _ _ _ _ (by omega) hF (by rw [List.drop_zero]; omega) (by omega) page0_len x3 q3 (by simp only [slot_len, hs]) (by simp only [go_sem, Nat.reduceLT, Nat.reduceEqDiff, reduceCtorEq, Int.reduceLT, Int.reduceEq, h1]) (by simp only [go_sem, Nat.reduceLT, Nat.reduceEqDiff, reduceCtorEq, Int.reduceLT, Int.reduceEq, hs]) (by simp only [go_sem, Nat.reduceLT, Nat.reduceEqDiff, reduceCtorEq, Int.reduceLT, Int.reduceEq, hs]; rfl) (by simp only [go_sem, Nat.reduceLT, Nat.reduceEqDiff, reduceCtorEq, Int.reduceLT, Int.reduceEq, hs]; rfl) (fun s' h' a1 a6 x4 q4 => ?_)
        rw [List.drop_zero] at q4
        have hpl : (putR (page0 level.toNat kv.length) 0 252 kv).length = 252 := pageR_len (by omega)
        have Bs := bsrc_own (ex := true) x4 q4 (Nat.le_refl _)
        rw [hpl] at Bs
        obtain ⟨v5, h5, n5, B5⟩ := rseal_f49 Bs (by rw [hpl]; omega)
        simp only [go_sem, Nat.reduceLT, Nat.reduceEqDiff, reduceCtorEq, Int.reduceLT, Int.reduceEq, a1, a6]
        refine XO_callR (by simp only [List.map, go_sem, Nat.reduceLT, Nat.reduceEqDiff, reduceCtorEq, Int.reduceLT, Int.reduceEq, a1]; exact n5) ?_
        simp only [go_sem, Nat.reduceLT, Nat.reduceEqDiff, reduceCtorEq, Int.reduceLT, Int.reduceEq, a1, c3', or_self]
        exact ⟨v5, rfl, B5⟩
end Go.V06


set_option linter.unusedSimpArgs false
set_option linter.unusedVariables false
namespace Go.V06
open Go Go.Vm

/-! ### a row that ends at a place -/
def LastP (b : List UInt8) (a to : Nat) (e : List CV) : Prop := (∃ c1 c2, e = [c1, c2]) ∧ ∀ p, lastF b a to = some p → e = rowC p.1 p.2

theorem last_f35 {b : List UInt8} {u : VV} (hu : SlV 1 (eB b) u) (hb : b.length ≤ 1000000) {a to : Nat} (hto : to ≤ b.length) (ha : a ≤ 1000000) : Ret F 35 [u, vi .i64 a, vi .i64 to] [] fun v h' => ∃ e, closRes h' v = some (.tup [.agg (e.map .cv), vb (lastF b a to).isSome]) ∧ LastP b a to e := by
  refine call_E (fn := f35) rfl ?_
  simp only [f35]
  generalize hs0 : ([u, vi .i64 a, vi .i64 to] ++ List.replicate _ VV.undef : List VV) = s
  have hs : s.length = 48 := by rw [← hs0]; rfl
  have h0 : s.getD 0 .undef = u := by rw [← hs0]; rfl
  have h1 : s.getD 1 .undef = vi .i64 a := by rw [← hs0]; rfl
  have h2 : s.getD 2 .undef = vi .i64 to := by rw [← hs0]; rfl
  clear hs0
  have q0 : ([] ++ [VO.box [.cv (.sc (.string ⟨#[]⟩)), nilS] false] : Heap)[0]? = some (.box [.cv (.sc (.string ⟨#[]⟩)), nilS] false) := rfl
  have l0 : ldO ([] ++ [VO.box [.cv (.sc (.string ⟨#[]⟩)), nilS] false] : Heap) true 2 (.ptr 0 0) = some (.agg [.cv (.sc (.string ⟨#[]⟩)), nilS], ([] ++ [VO.box [.cv (.sc (.string ⟨#[]⟩)), nilS] false] : Heap)) := ld_bxN q0 rfl
  have s0 : ∀ x y : VV, stO ([] ++ [VO.box [.cv (.sc (.string ⟨#[]⟩)), nilS] false] : Heap) 2 (.ptr 0 0) (.agg [x, y]) = some (.undef, [VO.box [x, y] false]) := fun x y => st_agg rfl q0 rfl
  have s0' : ∀ x y : VV, ([VO.box [x, y] false] : Heap)[0]? = some (.box [x, y] false) := fun _ _ => rfl
  simp only [go_sem, Nat.reduceLT, Nat.reduceEqDiff, reduceCtorEq, Int.reduceLT, Int.reduceEq, hs, List.length_nil]
  rw [X_eq f35_0.eq_1]
  have fin : ∀ {s' : List VV} {c1 c2 : CV} {ok : Bool}, s'.length = 48 → s'.getD 6 .undef = .ptr 0 0 → s'.getD 7 .undef = vb ok → ok = (lastF b a to).isSome → (∀ p, lastF b a to = some p → [c1, c2] = rowC p.1 p.2) →
      RQ [.cell 6 true 2, .t 7] (fun v h' => ∃ e, closRes h' v = some (.tup [.agg (e.map .cv), vb (lastF b a to).isSome]) ∧ LastP b a to e) .ret ⟨s', [VO.box [.cv c1, .cv c2] false]⟩ := by
    intro s' c1 c2 ok a1 a6 a7 hok hp
    refine RQ_cell1 (id := 0) a6 rfl rfl (by omega) ?_
    rw [a7, hok]
    exact ⟨[c1, c2], rfl, ⟨c1, c2, rfl⟩, hp⟩
  by_cases c1 : (to : Int) ≤ (a : Int)
  · have e : lastF b a to = none := by unfold lastF; rw [if_pos (by omega)]
    simp only [go_sem, Nat.reduceLT, Nat.reduceEqDiff, reduceCtorEq, Int.reduceLT, Int.reduceEq, hs, h1, h2, ge_iff_le, c1, l0, s0]
    exact fin (by simp only [slot_len, hs]) (by simp only [go_sem, Nat.reduceLT, Nat.reduceEqDiff, reduceCtorEq, Int.reduceLT, Int.reduceEq, hs]) (by simp only [go_sem, Nat.reduceLT, Nat.reduceEqDiff, reduceCtorEq, Int.reduceLT, Int.reduceEq, hs]; rfl) (by simp [e]) (fun p hp => by rw [e] at hp; cases hp)
  · have c1' : ¬ to ≤ a := by omega
    obtain ⟨w, hw, hsl⟩ := hu.upto (h := ([] ++ [VO.box [.cv (.sc (.string ⟨#[]⟩)), nilS] false])) (k := .i64) (b := (to : Int)) (by omega) (by rw [eB_len]; omega)
    rw [Int.toNat_natCast, eB_take] at hw
    have hwl : (b.take to).length ≤ 1000000000 := by rw [List.length_take]; omega
    have n1 := text_f46 (b.take to) w hw (a : Int) 30 [] hwl
    generalize hx : getText (b.take to) (a : Int) 30 = x at *
    have r1 : closRes [] (.tup [txt x.1, vi .i64 x.2.1, vi .u16 x.2.2]) = some (.tup [txt x.1, vi .i64 x.2.1, vi .u16 x.2.2]) := rfl
    simp only [go_sem, Nat.reduceLT, Nat.reduceEqDiff, reduceCtorEq, Int.reduceLT, Int.reduceEq, hs, h0, h1, h2, ge_iff_le, c1, hsl]
    refine XO_callP (h1 := ([] ++ [VO.box [.cv (.sc (.string ⟨#[]⟩)), nilS] false])) (by simp only [List.map, go_sem, Nat.reduceLT, Nat.reduceEqDiff, reduceCtorEq, Int.reduceLT, Int.reduceEq, hs]; exact hw.clos rfl) n1 r1 ?_
    simp only [go_sem, Nat.reduceLT, Nat.reduceEqDiff, reduceCtorEq, Int.reduceLT, Int.reduceEq, hs]
    rw [X_eq f35_1.eq_1]
    by_cases c2 : (x.2.2 : Int) = 0
    · have c2' : x.2.2 = 0 := by omega
      have n2 := text_f46 (b.take to) w hw (x.2.1 : Int) 150 [] hwl
      generalize hy : getText (b.take to) (x.2.1 : Int) 150 = y at *
      have r2 : closRes [] (.tup [txt y.1, vi .i64 y.2.1, vi .u16 y.2.2]) = some (.tup [txt y.1, vi .i64 y.2.1, vi .u16 y.2.2]) := rfl
      simp only [go_sem, Nat.reduceLT, Nat.reduceEqDiff, reduceCtorEq, Int.reduceLT, Int.reduceEq, hs, h0, h2, eq_true c2, hsl]
      refine XO_callP (h1 := ([] ++ [VO.box [.cv (.sc (.string ⟨#[]⟩)), nilS] false])) (by simp only [List.map, go_sem, Nat.reduceLT, Nat.reduceEqDiff, reduceCtorEq, Int.reduceLT, Int.reduceEq, hs]; exact hw.clos rfl) n2 r2 ?_
      have eL : lastF b a to = if y.2.2 = 0 ∧ y.2.1 = to then some (x.1, y.1) else none := by
        unfold lastF
        rw [if_neg c1', hx, if_neg (by rw [c2']; simp), hy]
      by_cases c3 : (y.2.2 : Int) = 0
      · by_cases c4 : (y.2.1 : Int) = (to : Int)
        · rw [if_pos ⟨by omega, by omega⟩] at eL
          simp only [go_sem, Nat.reduceLT, Nat.reduceEqDiff, reduceCtorEq, Int.reduceLT, Int.reduceEq, hs, h2, eq_true c3, eq_true c4, s0]
          exact fin (by simp only [slot_len, hs]) (by simp only [go_sem, Nat.reduceLT, Nat.reduceEqDiff, reduceCtorEq, Int.reduceLT, Int.reduceEq, hs]) (by simp only [go_sem, Nat.reduceLT, Nat.reduceEqDiff, reduceCtorEq, Int.reduceLT, Int.reduceEq, hs]; rfl) (by simp [eL]) (fun p hp => by rw [eL] at hp; cases hp; rfl)
        · rw [if_neg (by omega)] at eL
          simp only [go_sem, Nat.reduceLT, Nat.reduceEqDiff, reduceCtorEq, Int.reduceLT, Int.reduceEq, hs, h2, eq_true c3, c4, s0]
          exact fin (by simp only [slot_len, hs]) (by simp only [go_sem, Nat.reduceLT, Nat.reduceEqDiff, reduceCtorEq, Int.reduceLT, Int.reduceEq, hs]) (by simp only [go_sem, Nat.reduceLT, Nat.reduceEqDiff, reduceCtorEq, Int.reduceLT, Int.reduceEq, hs]; rfl) (by simp [eL]) (fun p hp => by rw [eL] at hp; cases hp)
      · rw [if_neg (by omega)] at eL
        simp only [go_sem, Nat.reduceLT, Nat.reduceEqDiff, reduceCtorEq, Int.reduceLT, Int.reduceEq, hs, h2, c3, s0]
        exact fin (by simp only [slot_len, hs]) (by simp only [go_sem, Nat.reduceLT, Nat.reduceEqDiff, reduceCtorEq, Int.reduceLT, Int.reduceEq, hs]) (by simp only [go_sem, Nat.reduceLT, Nat.reduceEqDiff, reduceCtorEq, Int.reduceLT, Int.reduceEq, hs]; rfl) (by simp [eL]) (fun p hp => by rw [eL] at hp; cases hp)
    · have e : lastF b a to = none := by
        unfold lastF
        rw [if_neg c1', hx, if_pos (by omega)]
      simp only [go_sem, Nat.reduceLT, Nat.reduceEqDiff, reduceCtorEq, Int.reduceLT, Int.reduceEq, hs, c2, l0, s0]
      exact fin (by simp only [slot_len, hs]) (by simp only [go_sem, Nat.reduceLT, Nat.reduceEqDiff, reduceCtorEq, Int.reduceLT, Int.reduceEq, hs]) (by simp only [go_sem, Nat.reduceLT, Nat.reduceEqDiff, reduceCtorEq, Int.reduceLT, Int.reduceEq, hs]; rfl) (by simp [e]) (fun p hp => by rw [e] at hp; cases hp)

/-- The document's: the place is read, too. -/
def rowF (b : List UInt8) (i to : Nat) : Option (KV × Nat) := if to ≤ 2 + i then none else (lastF b (b.getD (2 + i) 0).toNat to).map fun p => (p, (b.getD (2 + i) 0).toNat)
def RowP (b : List UInt8) (i to : Nat) (e : List CV) (n : Int) : Prop := (∃ c1 c2, e = [c1, c2]) ∧ ∀ p m, rowF b i to = some (p, m) → e = rowC p.1 p.2 ∧ n = (m : Nat)

end Go.V06


set_option linter.unusedSimpArgs false
set_option linter.unusedVariables false
namespace Go.V06
open Go Go.Vm

/-! ### Decode -/
theorem NB.snoc {h0 h : Heap} {els : List (List CV)} {kv : List KV} {v : VV} (hR : RowsE els kv) (p : KV) : RowsE (els ++ [rowC p.1 p.2]) (kv ++ [p]) :=
  hR.snoc ⟨.sl 1 (eB p.2) false, rfl, .inr ⟨false, rfl⟩⟩

theorem decL_succ {b : List UInt8} {n i to : Nat} (h1 : ¬ to ≤ 2 + i) : decL b (n + 1) i to = match lastF b (b.getD (2 + i) 0).toNat to with | none => none | some p => (decL b n (i + 1) (b.getD (2 + i) 0).toNat).map (p :: ·) := by
  simp only [decL]; rw [if_neg h1]
  all_goals (cases lastF b (b.getD (2 + i) 0).toNat to <;> rfl)

theorem f24_loop {b : List UInt8} {u : VV} (hu : SlV 1 (eB b) u) (hb : b.length = 256) {n : Nat} (hn : n ≤ 255) {g0 : Heap} :
    ∀ (r i to : Nat) (els : List (List CV)) (kv : List KV) (v : VV) (s : List VV) (h : Heap) (Q : Pst), i + r = n → to ≤ 252 → kv.length = i → NB g0 h 2 els v → RowsE els kv → s.length = 75 → s.getD 0 .undef = u → s.getD 5 .undef = v → s.getD 6 .undef = vi .i64 to → s.getD 24 .undef = vi .i64 n → s.getD 25 .undef = vi .i64 i →
      (∀ rest, decL b r i to = some rest → ∀ s' h' els' v', s'.length = 75 → s'.getD 0 .undef = u → s'.getD 5 .undef = v' → NB g0 h' 2 els' v' → RowsE els' (kv ++ rest) → Q (.exit 1) ⟨s', h'⟩) →
      (decL b r i to = none → ∀ s' h', s'.length = 75 → s'.getD 2 .undef = vi .i64 0 → s'.getD 3 .undef = nilS → s'.getD 4 .undef = vi .u16 11 → HExt g0 h' → Q .ret ⟨s', h'⟩) → X F (.loop f24_3) ⟨s, h⟩ Q := by
  intro r
  induction r with
  | zero =>
    intro i to els kv v s h Q hi hto hkv hB hR hs h0 h5 h6 h24 h25 hE hN
    rw [X_loop, X_eq f24_3.eq_1]
    have c : ¬ (i : Int) < (n : Int) := by omega
    simp only [go_sem, Nat.reduceLT, Nat.reduceEqDiff, reduceCtorEq, Int.reduceLT, Int.reduceEq, hs, h24, h25, c]
    rw [X_eq f24_0.eq_1]
    simp only [go_sem, Nat.reduceLT, Nat.reduceEqDiff, reduceCtorEq, Int.reduceLT, Int.reduceEq, hs]
    exact hE [] rfl _ _ els v (by simp only [slot_len, hs]) (by simp only [go_sem, Nat.reduceLT, Nat.reduceEqDiff, reduceCtorEq, Int.reduceLT, Int.reduceEq, h0]) (by simp only [go_sem, Nat.reduceLT, Nat.reduceEqDiff, reduceCtorEq, Int.reduceLT, Int.reduceEq, h5]) hB (by rw [List.append_nil]; exact hR)
  | succ r ih =>
    intro i to els kv v s h Q hi hto hkv hB hR hs h0 h5 h6 h24 h25 hE hN
    rw [X_loop, X_eq f24_3.eq_1]
    have c : (i : Int) < (n : Int) := by omega
    have hw : IntKind.i64.wrap ((i : Int) + 1) = ((i + 1 : Nat) : Int) := by rw [IntWalk.i64_in _ (by omega)]; omega
    have e2 : IntKind.i64.wrap (2 + (i : Int)) = ((2 + i : Nat) : Int) := by rw [IntWalk.i64_in _ (by omega)]; omega
    simp only [go_sem, Nat.reduceLT, Nat.reduceEqDiff, reduceCtorEq, Int.reduceLT, Int.reduceEq, hs, h24, h25, c]
    rw [X_eq f24_0.eq_1]
    simp only [go_sem, Nat.reduceLT, Nat.reduceEqDiff, reduceCtorEq, Int.reduceLT, Int.reduceEq, hs, h25]
    rw [X_eq f24_1.eq_1]
    by_cases c1 : (to : Int) ≤ ((2 + i : Nat) : Int)
    · simp only [go_sem, Nat.reduceLT, Nat.reduceEqDiff, reduceCtorEq, Int.reduceLT, Int.reduceEq, hs, h6, e2, ge_iff_le, c1]
      refine hN (by simp only [decL]; rw [if_pos (by omega)]) _ _ (by simp only [slot_len, hs]) (by simp only [go_sem, Nat.reduceLT, Nat.reduceEqDiff, reduceCtorEq, Int.reduceLT, Int.reduceEq, hs]) (by simp only [go_sem, Nat.reduceLT, Nat.reduceEqDiff, reduceCtorEq, Int.reduceLT, Int.reduceEq, hs]) (by simp only [go_sem, Nat.reduceLT, Nat.reduceEqDiff, reduceCtorEq, Int.reduceLT, Int.reduceEq, hs]) hB.ext
    · have c1' : ¬ to ≤ 2 + i := by omega
      have hlt : 2 + i < b.length := by omega
      have hia := hu.ia (h := h) (k := .i64) (j := ((2 + i : Nat) : Int)) (by omega) (eB_get (List.getElem?_eq_getElem hlt))
      have hbd : b.getD (2 + i) 0 = b[2 + i] := by rw [List.getD_eq_getElem?_getD, List.getElem?_eq_getElem hlt]; rfl
      have hdec := decL_succ (b := b) (n := r) c1'
      have hx8 := (b[2 + i]).toNat_lt
      have ew : IntKind.i64.wrap ((b[2 + i].toNat : Nat) : Int) = ((b[2 + i].toNat : Nat) : Int) := IntWalk.i64_in _ (by omega)
      rw [hbd] at hdec
      obtain ⟨v25, g25, n25, e, r25, ⟨x1, x2, rfl⟩, hp⟩ := last_f35 hu (by omega) (a := b[2 + i].toNat) (to := to) (by omega) (by omega)
      generalize ha : b[2 + i].toNat = a at *
      simp only [go_sem, Nat.reduceLT, Nat.reduceEqDiff, reduceCtorEq, Int.reduceLT, Int.reduceEq, hs, h0, h6, e2, ge_iff_le, c1, hia, byteCell, ha, ew]
      refine XO_callP (h1 := h) (by simp only [List.map, go_sem, Nat.reduceLT, Nat.reduceEqDiff, reduceCtorEq, Int.reduceLT, Int.reduceEq, hs]; exact hu.clos rfl) n25 r25 ?_
      simp only [go_sem, Nat.reduceLT, Nat.reduceEqDiff, reduceCtorEq, Int.reduceLT, Int.reduceEq, hs, List.map]
      rw [X_eq f24_2.eq_1]
      cases hL : lastF b a to with
      | none =>
        rw [hL] at hdec
        simp only [go_sem, Nat.reduceLT, Nat.reduceEqDiff, reduceCtorEq, Int.reduceLT, Int.reduceEq, hs, Option.isSome_none]
        exact hN hdec _ _ (by simp only [slot_len, hs]) (by simp only [go_sem, Nat.reduceLT, Nat.reduceEqDiff, reduceCtorEq, Int.reduceLT, Int.reduceEq, hs]) (by simp only [go_sem, Nat.reduceLT, Nat.reduceEqDiff, reduceCtorEq, Int.reduceLT, Int.reduceEq, hs]) (by simp only [go_sem, Nat.reduceLT, Nat.reduceEqDiff, reduceCtorEq, Int.reduceLT, Int.reduceEq, hs]) (hB.ext.then _)
      | some p =>
        rw [hL] at hdec
        have he := hp p hL
        have hto' : a ≤ 252 := by
          unfold lastF at hL
          split at hL
          · cases hL
          · omega
        have q1 : (h ++ [VO.box [.cv x1, .cv x2] false])[h.length]? = some (.box [.cv x1, .cv x2] false) := at_last
        have B1 := hB.then (HExt.push h (VO.box [.cv x1, .cv x2] false))
        simp only [go_sem, Nat.reduceLT, Nat.reduceEqDiff, reduceCtorEq, Int.reduceLT, Int.reduceEq, hs, h5, Option.isSome_some]
        have hlen := hR.len
        refine XO_appNB B1 (new := [[x1, x2]]) (by simp only [go_sem, Nat.reduceLT, Nat.reduceEqDiff, reduceCtorEq, Int.reduceLT, Int.reduceEq, hs]) (by simp only [go_sem, Nat.reduceLT, Nat.reduceEqDiff, reduceCtorEq, Int.reduceLT, Int.reduceEq, hs]) (by simp only [List.length_singleton]; omega) (by simp only [List.length_singleton]; omega) (fun v' h' B' _ _ _ => ?_)
        simp only [go_sem, Nat.reduceLT, Nat.reduceEqDiff, reduceCtorEq, Int.reduceLT, Int.reduceEq, hs, h25, hw]
        rw [he] at B'
        refine ih (i + 1) a _ (kv ++ [p]) v' _ h' Q (by omega) hto' (by simp; omega) B' (NB.snoc (h0 := []) (h := []) (v := .undef) hR p) (by simp only [slot_len, hs]) (by simp only [go_sem, Nat.reduceLT, Nat.reduceEqDiff, reduceCtorEq, Int.reduceLT, Int.reduceEq, h0]) (by simp only [go_sem, Nat.reduceLT, Nat.reduceEqDiff, reduceCtorEq, Int.reduceLT, Int.reduceEq, hs]) (by simp only [go_sem, Nat.reduceLT, Nat.reduceEqDiff, reduceCtorEq, Int.reduceLT, Int.reduceEq, hs]) (by simp only [go_sem, Nat.reduceLT, Nat.reduceEqDiff, reduceCtorEq, Int.reduceLT, Int.reduceEq, h24]) (by simp only [go_sem, Nat.reduceLT, Nat.reduceEqDiff, reduceCtorEq, Int.reduceLT, Int.reduceEq, hs])
          (fun rest hr s' h' els' v' a1 a0 a5 B2 R2 => hE (p :: rest) (by rw [hdec, hr]; rfl) s' h' els' v' a1 a0 a5 B2 (by rw [List.append_assoc] at R2; exact R2)) (fun hr s' h' a1 a2 a3 a4 a5 => hN (by rw [hdec, hr]; rfl) s' h' a1 a2 a3 a4 a5)

/-- What Decode tells. -/
def DecP (b : List UInt8) (w : VV) (k : IntKind) : Prop := ∃ els x, w = .tup [vi .i64 (decF b).1, x, vi k (decF b).2.2] ∧ SlV 2 els x ∧ RowsE els (decF b).2.1

theorem EncP.pure {b : Option (List UInt8)} {v : VV} {h' : Heap} (h : EncP [] b v h') : ∃ w, closRes h' v = some (.tup [w, vb b.isSome]) ∧ ∀ c, b = some c → SlV 1 (eB c) w := by
  cases b with
  | none =>
    have : v = .tup [nilS, vb false] := h
    subst this
    exact ⟨nilS, rfl, fun c hc => by cases hc⟩
  | some c =>
    obtain ⟨w, rfl, B⟩ := h
    obtain ⟨x, h1, e1, e2⟩ := B.clos
    refine ⟨x, ?_, fun c' hc => by cases hc; exact e2⟩
    have : closAs h' [w, vb true] = some ([x, vb true], h1) := closAs_cons e1 rfl
    simp only [closRes, this, Option.map_some, Option.isSome_some]
theorem decode_f24 {b : List UInt8} {u : VV} (hu : SlV 1 (eB b) u) (hb : b.length ≤ 1000000) : RetP F 24 [u] fun w => DecP b w .u16 := by
  have : Ret F 24 [u] [] fun v h' => ∃ w, closRes h' v = some w ∧ DecP b w .u16 := by
    refine call_E (fn := f24) rfl ?_
    simp only [f24]
    generalize hs0 : ([u] ++ List.replicate _ VV.undef : List VV) = s
    have hs : s.length = 75 := by rw [← hs0]; rfl
    have h0 : s.getD 0 .undef = u := by rw [← hs0]; rfl
    clear hs0
    have no : ∀ (e : Nat), decF b = (0, [], e) → DecP b (.tup [vi .i64 0, nilS, vi .u16 e]) .u16 := fun e he => ⟨[], nilS, by rw [he]; rfl, .inl ⟨rfl, rfl⟩, by rw [he]; exact RowsE.nil⟩
    have fin : ∀ (s' : List VV) (h' : Heap) (e : Nat), s'.length = 75 → s'.getD 2 .undef = vi .i64 0 → s'.getD 3 .undef = nilS → s'.getD 4 .undef = vi .u16 e → decF b = (0, [], e) → RQ [.t 2, .t 3, .t 4] (fun v h' => ∃ w, closRes h' v = some w ∧ DecP b w .u16) .ret ⟨s', h'⟩ := by
      intro s' h' e a1 a2 a3 a4 he
      simp only [go_sem, Nat.reduceLT, Nat.reduceEqDiff, reduceCtorEq, Int.reduceLT, Int.reduceEq, a1, a2, a3, a4]
      exact ⟨_, rfl, no e he⟩
    by_cases c1 : (b.length : Int) = 256
    · have c1' : b.length = 256 := by omega
      obtain ⟨v24, h24, n24, rfl⟩ := right_f34 hu (by omega)
      simp only [go_sem, Nat.reduceLT, Nat.reduceEqDiff, reduceCtorEq, Int.reduceLT, Int.reduceEq, hs, h0, hu.ln, eB_len, eq_true c1, ne_eq, not_true_eq_false]
      refine XO_callP (h1 := []) (by simp only [List.map, go_sem, Nat.reduceLT, Nat.reduceEqDiff, reduceCtorEq, Int.reduceLT, Int.reduceEq, hs]; exact hu.clos rfl) n24 rfl ?_
      cases hr : rightB b with
      | false =>
        simp only [go_sem, Nat.reduceLT, Nat.reduceEqDiff, reduceCtorEq, Int.reduceLT, Int.reduceEq, hs]
        exact ⟨_, rfl, no 12 (by unfold decF; rw [if_neg (by rw [c1']; simp), hr, if_pos rfl])⟩
      | true =>
        have g1 : (1 : Nat) < b.length := by omega
        have g0 : (0 : Nat) < b.length := by omega
        have hia1 : iaO [] 1 u (vi .i64 1) = some (.rptr (byteCell b[1]), []) := hu.ia (h := []) (k := .i64) (j := ((1 : Nat) : Int)) (by omega) (eB_get (List.getElem?_eq_getElem g1))
        have hia0 : ∀ h : Heap, iaO h 1 u (vi .i64 0) = some (.rptr (byteCell b[0]), h) := fun h => hu.ia (h := h) (k := .i64) (j := ((0 : Nat) : Int)) (by omega) (eB_get (List.getElem?_eq_getElem g0))
        have b1 : b.getD 1 0 = b[1] := by rw [List.getD_eq_getElem?_getD, List.getElem?_eq_getElem g1]; rfl
        have b0 : b.getD 0 0 = b[0] := by rw [List.getD_eq_getElem?_getD, List.getElem?_eq_getElem g0]; rfl
        have x1 := (b[1]).toNat_lt
        have x0 := (b[0]).toNat_lt
        have w1 : IntKind.i64.wrap (b[1].toNat : Int) = (b[1].toNat : Int) := IntWalk.i64_in _ (by omega)
        have w0 : IntKind.i64.wrap (b[0].toNat : Int) = (b[0].toNat : Int) := IntWalk.i64_in _ (by omega)
        have hdF : decF b = match decL b b[1].toNat 0 252 with | none => (0, [], 11) | some l => if encF (b[0].toNat : Int) l = some b then (b[0].toNat, l, 0) else (0, [], 11) := by
          unfold decF
          rw [if_neg (by rw [c1']; simp), hr, if_neg (by simp), b1, b0]
          all_goals (cases decL b b[1].toNat 0 252 <;> rfl)
        simp only [go_sem, Nat.reduceLT, Nat.reduceEqDiff, reduceCtorEq, Int.reduceLT, Int.reduceEq, hs, h0, hia1, byteCell, w1]
        refine f24_loop hu c1' (n := b[1].toNat) (by omega) (g0 := []) b[1].toNat 0 252 [] [] nilS _ _ _ (by omega) (by omega) rfl (NB.nil _ _) RowsE.nil (by simp only [slot_len, hs]) (by simp only [go_sem, Nat.reduceLT, Nat.reduceEqDiff, reduceCtorEq, Int.reduceLT, Int.reduceEq, h0]) (by simp only [go_sem, Nat.reduceLT, Nat.reduceEqDiff, reduceCtorEq, Int.reduceLT, Int.reduceEq, hs]) (by simp only [go_sem, Nat.reduceLT, Nat.reduceEqDiff, reduceCtorEq, Int.reduceLT, Int.reduceEq, hs]; rfl) (by simp only [go_sem, Nat.reduceLT, Nat.reduceEqDiff, reduceCtorEq, Int.reduceLT, Int.reduceEq, hs]) (by simp only [go_sem, Nat.reduceLT, Nat.reduceEqDiff, reduceCtorEq, Int.reduceLT, Int.reduceEq, hs]; rfl)
          (fun rest hr2 s' h' els' v' a1 a0 a5 B R => ?_) (fun hr2 s' h' a1 a2 a3 a4 _ => ?_)
        · replace hdF : decF b = if encF (b[0].toNat : Int) rest = some b then (b[0].toNat, rest, 0) else (0, [], 11) := by rw [hdF, hr2]
          rw [List.nil_append] at R
          have hlen : rest.length ≤ 9223372036854775807 := by
            have : ∀ (n i to : Nat) (l : List KV), decL b n i to = some l → l.length = n := by
              intro n
              induction n with
              | zero => intro i to l h; simp only [decL] at h; cases h; rfl
              | succ n ih =>
                intro i to l h
                simp only [decL] at h
                split at h
                · cases h
                · split at h
                  · cases h
                  · cases hd : decL b n (i + 1) (b.getD (2 + i) 0).toNat with
                    | none => rw [hd] at h; cases h
                    | some l' => rw [hd] at h; cases h; simp [ih _ _ _ hd]
            have := this _ _ _ _ hr2; omega
          obtain ⟨x, h1, e1, e2⟩ := B.clos
          obtain ⟨v10, h10, n10, P10⟩ := encode_f32 [] (b[0].toNat : Int) e2 R hlen
          obtain ⟨y, r10, hy⟩ := P10.pure
          simp only [go_sem, Nat.reduceLT, Nat.reduceEqDiff, reduceCtorEq, Int.reduceLT, Int.reduceEq, a1, a0, a5, hia0, byteCell, w0]
          have ec : closAs h' [vi .i64 (b[0].toNat : Int), v'] = some ([vi .i64 (b[0].toNat : Int), x], h1) := closAs_cons rfl (by simp only [closAs, e1])
          refine XO_callP (h1 := h1) (by simp only [List.map, go_sem, Nat.reduceLT, Nat.reduceEqDiff, reduceCtorEq, Int.reduceLT, Int.reduceEq, a1]; exact ec) n10 r10 ?_
          have B1 : elsOf h1 2 v' = some els' ∧ ∃ z, closA h1 v' = some (z, h1) ∧ SlV 2 els' z := by
            rcases B.v with ⟨rfl, rfl⟩ | ⟨id, g, _, rfl, a4⟩
            · simp [closA, Go.Vm.clos] at e1
              exact ⟨rfl, nilS, rfl, .inl ⟨rfl, rfl⟩⟩
            · simp [closA, Go.Vm.clos, a4] at e1
              obtain ⟨_, rfl⟩ := e1
              have hg : (h'.set id (VO.arr 2 els' g true))[id]? = some (.arr 2 els' g true) := by rw [List.getElem?_set_self (lt_at a4)]
              refine ⟨by simp [elsOf, hg], .cv (.sl 2 els' false), ?_, .inr ⟨false, rfl⟩⟩
              simp [closA, Go.Vm.clos, hg]
          obtain ⟨z, ez, hz⟩ := B1.2
          have e12 : closRes h1 (.tup [vi .i64 (b[0].toNat : Int), v', vi .u16 0]) = some (.tup [vi .i64 (b[0].toNat : Int), z, vi .u16 0]) := by
            have : closAs h1 [vi .i64 (b[0].toNat : Int), v', vi .u16 0] = some ([vi .i64 (b[0].toNat : Int), z, vi .u16 0], h1) := closAs_cons rfl (closAs_cons ez rfl)
            simp only [closRes, this, Option.map_some]
          cases hE : encF (b[0].toNat : Int) rest with
          | none =>
            rw [hE] at hdF
            simp only [go_sem, Nat.reduceLT, Nat.reduceEqDiff, reduceCtorEq, Int.reduceLT, Int.reduceEq, a1, Option.isSome_none]
            exact ⟨_, rfl, no 11 (by rw [hdF]; simp)⟩
          | some c =>
            have hS := hy c hE
            have n26 := equal_f26 hS hu
            rw [hE] at hdF
            simp only [go_sem, Nat.reduceLT, Nat.reduceEqDiff, reduceCtorEq, Int.reduceLT, Int.reduceEq, a1, a0, Option.isSome_some]
            refine XO_callP (h1 := h1) (by simp only [List.map, go_sem, Nat.reduceLT, Nat.reduceEqDiff, reduceCtorEq, Int.reduceLT, Int.reduceEq, a1]; exact hS.clos (hu.clos rfl)) n26 rfl ?_
            by_cases hc : c = b
            · rw [hc] at hdF
              rw [if_pos rfl] at hdF
              simp only [go_sem, Nat.reduceLT, Nat.reduceEqDiff, reduceCtorEq, Int.reduceLT, Int.reduceEq, a1, a0, a5, hc, hia0, byteCell, w0]
              exact ⟨_, e12, els', z, by rw [hdF]; rfl, hz, by rw [hdF]; exact R⟩
            · have hc' : ¬ some c = some b := fun e => hc (by cases e; rfl)
              rw [if_neg hc'] at hdF
              simp only [go_sem, Nat.reduceLT, Nat.reduceEqDiff, reduceCtorEq, Int.reduceLT, Int.reduceEq, a1, hc]
              exact ⟨_, rfl, no 11 hdF⟩
        · rw [hr2] at hdF
          simp only [go_sem, Nat.reduceLT, Nat.reduceEqDiff, reduceCtorEq, Int.reduceLT, Int.reduceEq, a1, a2, a3, a4]
          exact ⟨_, rfl, no 11 hdF⟩
    · simp only [go_sem, Nat.reduceLT, Nat.reduceEqDiff, reduceCtorEq, Int.reduceLT, Int.reduceEq, hs, h0, hu.ln, eB_len, c1]
      exact ⟨_, rfl, no 11 (by unfold decF; rw [if_pos (by omega)])⟩
  exact this
end Go.V06


set_option linter.unusedSimpArgs false
set_option linter.unusedVariables false
namespace Go.V06
open Go Go.Vm

/-! ### the document's Decode -/
theorem decL_row {b : List UInt8} {n i to : Nat} : decL b (n + 1) i to = match rowF b i to with | none => none | some (p, m) => (decL b n (i + 1) m).map (p :: ·) := by
  simp only [decL, rowF]
  by_cases h : to ≤ 2 + i
  · rw [if_pos h, if_pos h]
  · rw [if_neg h, if_neg h]
    all_goals (cases lastF b (b.getD (2 + i) 0).toNat to <;> rfl)
theorem rowF_le {b : List UInt8} {i to m : Nat} {p : KV} (h : rowF b i to = some (p, m)) : m ≤ to := by
  unfold rowF at h
  split at h
  · cases h
  · cases hl : lastF b (b.getD (2 + i) 0).toNat to with
    | none => rw [hl] at h; cases h
    | some q =>
      rw [hl] at h
      simp only [Option.map_some, Option.some.injEq, Prod.mk.injEq] at h
      unfold lastF at hl
      split at hl
      · cases hl
      · omega

theorem decL_len : ∀ {b : List UInt8} (n i to : Nat) (l : List KV), decL b n i to = some l → l.length = n := by
  intro b n
  induction n with
  | zero => intro i to l h; simp only [decL] at h; cases h; rfl
  | succ n ih =>
    intro i to l h
    simp only [decL] at h
    split at h
    · cases h
    · split at h
      · cases h
      · cases hd : decL b n (i + 1) (b.getD (2 + i) 0).toNat with
        | none => rw [hd] at h; cases h
        | some l' => rw [hd] at h; cases h; simp [ih _ _ _ hd]

/-! ### Find -/
def above (p : KV) (key : List UInt8) : Bool := !(Op.bytesLess p.1 key || p.1 == key)
/-- The place of the first that is above, less one. -/
def findF (key : List UInt8) : Nat → List KV → Int
  | i, [] => (i : Int) - 1
  | i, p :: l => if above p key = true then (i : Int) - 1 else findF key (i + 1) l
theorem bl_gtr {a b : List UInt8} : binO .gtr (txt a) (txt b) = some (vb (!(Op.bytesLess a b || a == b))) := rfl
theorem bl_leq {a b : List UInt8} : binO .leq (txt a) (txt b) = some (vb (Op.bytesLess a b || a == b)) := rfl

theorem f37_loop {els : List (List CV)} {kv : List KV} {u : VV} (hS : SlV 2 els u) (hR : RowsE els kv) (hn : kv.length ≤ 9223372036854775807) (key : List UInt8) :
    ∀ (r k : Nat) (s : List VV) (h : Heap) (Q : Pst), k + r = kv.length → s.length = 24 → s.getD 0 .undef = u → s.getD 1 .undef = txt key → s.getD 7 .undef = u → s.getD 8 .undef = vi .i64 kv.length → s.getD 9 .undef = vi .i64 k →
      (findF key k (kv.drop k) = (kv.length : Int) - 1 → ∀ s' h', s'.length = 24 → s'.getD 0 .undef = u → Q (.exit 0) ⟨s', h'⟩) → (∀ s' h', s'.length = 24 → s'.getD 4 .undef = vi .i64 (findF key k (kv.drop k)) → Q .ret ⟨s', h'⟩) → X F (.loop f37_1) ⟨s, h⟩ Q := by
  intro r
  induction r with
  | zero =>
    intro k s h Q hk hs h0 h1 h7 h8 h9 hE hQ
    rw [X_loop, X_eq f37_1.eq_1]
    have c : ¬ (k : Int) < (kv.length : Int) := by omega
    simp only [go_sem, Nat.reduceLT, Nat.reduceEqDiff, reduceCtorEq, Int.reduceLT, Int.reduceEq, hs, h8, h9, c]
    rw [X_eq f37_0.eq_1]
    simp only [go_sem, Nat.reduceLT, Nat.reduceEqDiff, reduceCtorEq, Int.reduceLT, Int.reduceEq, hs]
    refine hE ?_ _ _ (by simp only [slot_len, hs]) (by simp only [go_sem, Nat.reduceLT, Nat.reduceEqDiff, reduceCtorEq, Int.reduceLT, Int.reduceEq, h0])
    rw [List.drop_eq_nil_of_le (by omega)]; simp only [findF]; omega
  | succ r ih =>
    intro k s h Q hk hs h0 h1 h7 h8 h9 hE hQ
    obtain ⟨e, p, he, hp, c, rfl, hc⟩ := hR.get (i := k) (by omega)
    obtain ⟨ky, val⟩ := p
    have hd := drop_cons hp
    rw [X_loop, X_eq f37_1.eq_1]
    have c1 : (k : Int) < (kv.length : Int) := by omega
    have hw : IntKind.i64.wrap ((k : Int) + 1) = ((k + 1 : Nat) : Int) := by rw [IntWalk.i64_in _ (by omega)]; omega
    have hw2 : IntKind.i64.wrap ((k : Int) - 1) = (k : Int) - 1 := IntWalk.i64_in _ (by omega)
    have hia := hS.ia (h := h) (k := .i64) (j := (k : Int)) (by omega) he
    simp only [go_sem, Nat.reduceLT, Nat.reduceEqDiff, reduceCtorEq, Int.reduceLT, Int.reduceEq, hs, h8, h9, c1]
    rw [X_eq f37_0.eq_1]
    simp only [go_sem, Nat.reduceLT, Nat.reduceEqDiff, reduceCtorEq, Int.reduceLT, Int.reduceEq, hs, h7, h9, hia, ld_rN (n := 2) (show [CV.sc (.string ⟨ky.toArray⟩), c].length = 2 from rfl), List.map]
    have q1 : (h ++ [VO.box [txt ky, .cv c] false])[h.length]? = some (.box [txt ky, .cv c] false) := at_last
    generalize h ++ [VO.box [txt ky, .cv c] false] = g at q1
    have l0 : ldO g false 1 (.ptr h.length 0) = some (txt ky, g) := ld_ptr q1 rfl
    have hf : findF key k (kv.drop k) = if above (ky, val) key = true then (k : Int) - 1 else findF key (k + 1) (kv.drop (k + 1)) := by rw [hd]; rfl
    have ha : above (ky, val) key = !(Op.bytesLess ky key || ky == key) := rfl
    cases hab : above (ky, val) key with
    | true =>
      rw [hab, if_pos rfl] at hf
      rw [ha] at hab
      simp only [go_sem, Nat.reduceLT, Nat.reduceEqDiff, reduceCtorEq, Int.reduceLT, Int.reduceEq, hs, l0, h1, bl_gtr, hab, hw2]
      exact hQ _ _ (by simp only [slot_len, hs]) (by simp only [go_sem, Nat.reduceLT, Nat.reduceEqDiff, reduceCtorEq, Int.reduceLT, Int.reduceEq, hs, hf])
    | false =>
      rw [hab, if_neg (by simp)] at hf
      rw [ha] at hab
      simp only [go_sem, Nat.reduceLT, Nat.reduceEqDiff, reduceCtorEq, Int.reduceLT, Int.reduceEq, hs, l0, h1, bl_gtr, hab, h9, hw]
      exact ih (k + 1) _ _ Q (by omega) (by simp only [slot_len, hs]) (by simp only [go_sem, Nat.reduceLT, Nat.reduceEqDiff, reduceCtorEq, Int.reduceLT, Int.reduceEq, h0]) (by simp only [go_sem, Nat.reduceLT, Nat.reduceEqDiff, reduceCtorEq, Int.reduceLT, Int.reduceEq, h1]) (by simp only [go_sem, Nat.reduceLT, Nat.reduceEqDiff, reduceCtorEq, Int.reduceLT, Int.reduceEq, h7]) (by simp only [go_sem, Nat.reduceLT, Nat.reduceEqDiff, reduceCtorEq, Int.reduceLT, Int.reduceEq, h8]) (by simp only [go_sem, Nat.reduceLT, Nat.reduceEqDiff, reduceCtorEq, Int.reduceLT, Int.reduceEq, hs]) (fun hh => hE (by rw [hf, hh])) (fun s' h' a1 a2 => hQ s' h' a1 (by rw [a2, hf]))
theorem find_f37 {els : List (List CV)} {kv : List KV} {u : VV} (hS : SlV 2 els u) (hR : RowsE els kv) (hn : kv.length ≤ 9223372036854775807) (key : List UInt8) : ∃ h', call F 37 [u, txt key] [] = some (.ret (vi .i64 (findF key 0 kv)), h') := by
  have : Ret F 37 [u, txt key] [] fun v h' => v = vi .i64 (findF key 0 kv) := by
    refine call_E (fn := f37) rfl ?_
    simp only [f37]
    generalize hs0 : ([u, txt key] ++ List.replicate _ VV.undef : List VV) = s
    have hs : s.length = 24 := by rw [← hs0]; rfl
    have h0 : s.getD 0 .undef = u := by rw [← hs0]; rfl
    have h1 : s.getD 1 .undef = txt key := by rw [← hs0]; rfl
    clear hs0
    have hl := hR.len
    have hw2 : IntKind.i64.wrap ((kv.length : Int) - 1) = (kv.length : Int) - 1 := IntWalk.i64_in _ (by omega)
    simp only [go_sem, Nat.reduceLT, Nat.reduceEqDiff, reduceCtorEq, Int.reduceLT, Int.reduceEq, hs, h0, hS.ln]
    refine f37_loop hS hR hn key kv.length 0 _ _ _ (by omega) (by simp only [slot_len, hs]) (by simp only [go_sem, Nat.reduceLT, Nat.reduceEqDiff, reduceCtorEq, Int.reduceLT, Int.reduceEq, h0]) (by simp only [go_sem, Nat.reduceLT, Nat.reduceEqDiff, reduceCtorEq, Int.reduceLT, Int.reduceEq, h1]) (by simp only [go_sem, Nat.reduceLT, Nat.reduceEqDiff, reduceCtorEq, Int.reduceLT, Int.reduceEq, hs]) (by simp only [go_sem, Nat.reduceLT, Nat.reduceEqDiff, reduceCtorEq, Int.reduceLT, Int.reduceEq, hs, hl]) (by simp only [go_sem, Nat.reduceLT, Nat.reduceEqDiff, reduceCtorEq, Int.reduceLT, Int.reduceEq, hs]; rfl) (fun hh s' h' a1 a0 => ?_) (fun s' h' a1 a2 => ?_)
    · rw [List.drop_zero] at hh
      simp only [go_sem, Nat.reduceLT, Nat.reduceEqDiff, reduceCtorEq, Int.reduceLT, Int.reduceEq, a1, a0, hS.ln, hl, hw2, hh]
    · rw [List.drop_zero] at a2
      simp only [go_sem, Nat.reduceLT, Nat.reduceEqDiff, reduceCtorEq, Int.reduceLT, Int.reduceEq, a1, a2]
  obtain ⟨v, h', e1, rfl⟩ := this
  exact ⟨h', e1⟩

end Go.V06

set_option linter.unusedSimpArgs false
set_option linter.unusedVariables false
namespace Go.V06
open Go Go.Vm

/-! ### Rising -/
def risingF : List KV → Bool
  | a :: b :: r => !(bl_le b.1 a.1) && risingF (b :: r)
  | _ => true

theorem ris_step {kv : List KV} {k : Nat} {p q : KV} (hk : 1 ≤ k) (hp : kv[k - 1]? = some p) (hq : kv[k]? = some q) : risingF (kv.drop (k - 1)) = (!(bl_le q.1 p.1) && risingF (kv.drop k)) := by
  have e1 := drop_cons hp
  have e2 := drop_cons hq
  have e : k - 1 + 1 = k := by omega
  rw [e] at e1
  rw [e1, e2, risingF]
theorem ris_end {kv : List KV} {k : Nat} (hk : kv.length ≤ k + 1) : risingF (kv.drop k) = true := by
  have : (kv.drop k).length ≤ 1 := by rw [List.length_drop]; omega
  match kv.drop k, this with
  | [], _ => rfl
  | [_], _ => rfl

theorem f15_loop {els : List (List CV)} {kv : List KV} {u : VV} {h : Heap} (hS : SlV 2 els u) (hR : RowsE els kv) (hn : kv.length ≤ 9223372036854775807) :
    ∀ (r k : Nat) (s : List VV) (Q : Pst), 1 ≤ k → k + r = kv.length → s.length = 26 → s.getD 0 .undef = u → s.getD 5 .undef = vi .i64 kv.length → s.getD 6 .undef = vi .i64 k →
      (risingF (kv.drop (k - 1)) = true → ∀ s', s'.length = 26 → Q (.exit 0) ⟨s', h⟩) → (risingF (kv.drop (k - 1)) = false → ∀ s', s'.length = 26 → s'.getD 2 .undef = vb false → Q .ret ⟨s', h⟩) → X F (.loop f15_1) ⟨s, h⟩ Q := by
  intro r
  induction r with
  | zero =>
    intro k s Q hk1 hk hs h0 h5 h6 hE hQ
    rw [X_loop, X_eq f15_1.eq_1]
    have c : ¬ (k : Int) < (kv.length : Int) := by omega
    simp only [go_sem, Nat.reduceLT, Nat.reduceEqDiff, reduceCtorEq, Int.reduceLT, Int.reduceEq, hs, h5, h6, c]
    rw [X_eq f15_0.eq_1]
    simp only [go_sem, Nat.reduceLT, Nat.reduceEqDiff, reduceCtorEq, Int.reduceLT, Int.reduceEq, hs]
    exact hE (ris_end (by omega)) _ (by simp only [slot_len, hs])
  | succ r ih =>
    intro k s Q hk1 hk hs h0 h5 h6 hE hQ
    obtain ⟨e, p, he, hp, c, rfl, hc⟩ := hR.get (i := k) (by omega)
    obtain ⟨e', p', he', hp', c', rfl, hc'⟩ := hR.get (i := k - 1) (by omega)
    have hst := ris_step hk1 hp' hp
    rw [X_loop, X_eq f15_1.eq_1]
    have c1 : (k : Int) < (kv.length : Int) := by omega
    have c2 : (0 : Int) < (k : Int) := by omega
    have hw : IntKind.i64.wrap ((k : Int) + 1) = ((k + 1 : Nat) : Int) := by rw [IntWalk.i64_in _ (by omega)]; omega
    have hw2 : IntKind.i64.wrap ((k : Int) - 1) = ((k - 1 : Nat) : Int) := by rw [IntWalk.i64_in _ (by omega)]; omega
    have hia := hS.ia (h := h) (k := .i64) (j := (k : Int)) (by omega) he
    have hia2 := hS.ia (h := h) (k := .i64) (j := ((k - 1 : Nat) : Int)) (by omega) he'
    simp only [go_sem, Nat.reduceLT, Nat.reduceEqDiff, reduceCtorEq, Int.reduceLT, Int.reduceEq, hs, h5, h6, c1]
    rw [X_eq f15_0.eq_1]
    simp only [go_sem, Nat.reduceLT, Nat.reduceEqDiff, reduceCtorEq, Int.reduceLT, Int.reduceEq, hs, h6]
    refine X_draw rfl ?_
    simp only [go_sem, Nat.reduceLT, Nat.reduceEqDiff, reduceCtorEq, Int.reduceLT, Int.reduceEq, hs, h0, gt_iff_lt, c2, hw2, hia, hia2, bl_leq]
    cases hb : (Op.bytesLess p.1 p'.1 || p.1 == p'.1) with
    | true =>
      simp only [go_sem, Nat.reduceLT, Nat.reduceEqDiff, reduceCtorEq, Int.reduceLT, Int.reduceEq, hs]
      have : bl_le p.1 p'.1 = true := hb
      rw [this] at hst
      exact hQ hst _ (by simp only [slot_len, hs]) (by simp only [go_sem, Nat.reduceLT, Nat.reduceEqDiff, reduceCtorEq, Int.reduceLT, Int.reduceEq, hs])
    | false =>
      simp only [go_sem, Nat.reduceLT, Nat.reduceEqDiff, reduceCtorEq, Int.reduceLT, Int.reduceEq, hs, h6, hw]
      have : bl_le p.1 p'.1 = false := hb
      rw [this] at hst
      simp only [Bool.not_false, Bool.true_and] at hst
      refine ih (k + 1) _ Q (by omega) (by omega) (by simp only [slot_len, hs]) (by simp only [go_sem, Nat.reduceLT, Nat.reduceEqDiff, reduceCtorEq, Int.reduceLT, Int.reduceEq, h0]) (by simp only [go_sem, Nat.reduceLT, Nat.reduceEqDiff, reduceCtorEq, Int.reduceLT, Int.reduceEq, h5]) (by simp only [go_sem, Nat.reduceLT, Nat.reduceEqDiff, reduceCtorEq, Int.reduceLT, Int.reduceEq, hs]) (fun hh => hE (by rw [hst]; exact hh)) (fun hh => hQ (by rw [hst]; exact hh))

theorem rising_f15 {els : List (List CV)} {kv : List KV} {u : VV} (hS : SlV 2 els u) (hR : RowsE els kv) (hn : kv.length ≤ 9223372036854775807) : ∃ h', call F 15 [u] [] = some (.ret (vb (risingF kv)), h') := by
  have : Ret F 15 [u] [] fun v h' => v = vb (risingF kv) := by
    refine call_E (fn := f15) rfl ?_
    simp only [f15]
    generalize hs0 : ([u] ++ List.replicate _ VV.undef : List VV) = s
    have hs : s.length = 26 := by rw [← hs0]; rfl
    have h0 : s.getD 0 .undef = u := by rw [← hs0]; rfl
    clear hs0
    have hl := hR.len
    simp only [go_sem, Nat.reduceLT, Nat.reduceEqDiff, reduceCtorEq, Int.reduceLT, Int.reduceEq, hs, h0, hS.ln, hl]
    cases kv with
    | nil =>
      rw [X_loop, X_eq f15_1.eq_1]
      have c : ¬ (0 : Int) < ((([] : List KV).length : Nat) : Int) := by simp
      simp only [go_sem, Nat.reduceLT, Nat.reduceEqDiff, reduceCtorEq, Int.reduceLT, Int.reduceEq, hs, c]
      rw [X_eq f15_0.eq_1]
      simp only [go_sem, Nat.reduceLT, Nat.reduceEqDiff, reduceCtorEq, Int.reduceLT, Int.reduceEq, hs]
      rfl
    | cons p kv =>
      rw [X_loop, X_eq f15_1.eq_1]
      have c : (0 : Int) < (((p :: kv).length : Nat) : Int) := by rw [List.length_cons]; omega
      have c0 : ¬ (0 : Int) < 0 := by decide
      have hw : IntKind.i64.wrap ((0 : Int) + 1) = ((1 : Nat) : Int) := by decide
      simp only [go_sem, Nat.reduceLT, Nat.reduceEqDiff, reduceCtorEq, Int.reduceLT, Int.reduceEq, hs, c]
      rw [X_eq f15_0.eq_1]
      simp only [go_sem, Nat.reduceLT, Nat.reduceEqDiff, reduceCtorEq, Int.reduceLT, Int.reduceEq, hs]
      refine X_draw rfl ?_
      simp only [go_sem, Nat.reduceLT, Nat.reduceEqDiff, reduceCtorEq, Int.reduceLT, Int.reduceEq, hs, gt_iff_lt, c0, hw]
      refine f15_loop hS hR hn kv.length 1 _ _ (by omega) (by simp; omega) (by simp only [slot_len, hs]) (by simp only [go_sem, Nat.reduceLT, Nat.reduceEqDiff, reduceCtorEq, Int.reduceLT, Int.reduceEq, h0]) (by simp only [go_sem, Nat.reduceLT, Nat.reduceEqDiff, reduceCtorEq, Int.reduceLT, Int.reduceEq, hs]) (by simp only [go_sem, Nat.reduceLT, Nat.reduceEqDiff, reduceCtorEq, Int.reduceLT, Int.reduceEq, hs]) (fun hh s' a1 => ?_) (fun hh s' a1 a2 => ?_)
      · simp only [go_sem, Nat.reduceLT, Nat.reduceEqDiff, reduceCtorEq, Int.reduceLT, Int.reduceEq, a1]
        exact congrArg vb hh.symm
      · simp only [go_sem, Nat.reduceLT, Nat.reduceEqDiff, reduceCtorEq, Int.reduceLT, Int.reduceEq, a1, a2]
        exact congrArg vb hh.symm
  obtain ⟨v, h', e1, rfl⟩ := this
  exact ⟨h', e1⟩

theorem f21_loop {els : List (List CV)} {kv : List KV} {u : VV} {h : Heap} (hS : SlV 2 els u) (hR : RowsE els kv) (hn : kv.length ≤ 9223372036854775807) :
    ∀ (r k : Nat) (s : List VV) (Q : Pst), 1 ≤ k → kv.length ≤ k + r → (0 < r → k + r = kv.length) → s.length = 22 → s.getD 0 .undef = u → s.getD 3 .undef = vi .i64 k →
      (risingF (kv.drop (k - 1)) = true → ∀ s', s'.length = 22 → Q (.exit 0) ⟨s', h⟩) → (risingF (kv.drop (k - 1)) = false → ∀ s', s'.length = 22 → s'.getD 2 .undef = vb false → Q .ret ⟨s', h⟩) → X F (.loop f21_0) ⟨s, h⟩ Q := by
  have hl := hR.len
  intro r
  induction r with
  | zero =>
    intro k s Q hk1 hk _ hs h0 h6 hE hQ
    rw [X_loop, X_eq f21_0.eq_1]
    have c : ¬ (k : Int) < (kv.length : Int) := by omega
    simp only [go_sem, Nat.reduceLT, Nat.reduceEqDiff, reduceCtorEq, Int.reduceLT, Int.reduceEq, hs, h0, h6, hS.ln, hl, c]
    exact hE (ris_end (by omega)) _ (by simp only [slot_len, hs])
  | succ r ih =>
    intro k s Q hk1 _ hk hs h0 h6 hE hQ
    have hk := hk (by omega)
    obtain ⟨e, p, he, hp, c, rfl, hc⟩ := hR.get (i := k) (by omega)
    obtain ⟨e', p', he', hp', c', rfl, hc'⟩ := hR.get (i := k - 1) (by omega)
    have hst := ris_step hk1 hp' hp
    rw [X_loop, X_eq f21_0.eq_1]
    have c1 : (k : Int) < (kv.length : Int) := by omega
    have hw : IntKind.i64.wrap ((k : Int) + 1) = ((k + 1 : Nat) : Int) := by rw [IntWalk.i64_in _ (by omega)]; omega
    have hw2 : IntKind.i64.wrap ((k : Int) - 1) = ((k - 1 : Nat) : Int) := by rw [IntWalk.i64_in _ (by omega)]; omega
    have hia := hS.ia (h := h) (k := .i64) (j := (k : Int)) (by omega) he
    have hia2 := hS.ia (h := h) (k := .i64) (j := ((k - 1 : Nat) : Int)) (by omega) he'
    simp only [go_sem, Nat.reduceLT, Nat.reduceEqDiff, reduceCtorEq, Int.reduceLT, Int.reduceEq, hs, h0, h6, hS.ln, hl, c1]
    refine X_draw rfl ?_
    simp only [go_sem, Nat.reduceLT, Nat.reduceEqDiff, reduceCtorEq, Int.reduceLT, Int.reduceEq, hs, h0, h6, hw2, hia, hia2, bl_leq]
    cases hb : (Op.bytesLess p.1 p'.1 || p.1 == p'.1) with
    | true =>
      simp only [go_sem, Nat.reduceLT, Nat.reduceEqDiff, reduceCtorEq, Int.reduceLT, Int.reduceEq, hs]
      have : bl_le p.1 p'.1 = true := hb
      rw [this] at hst
      exact hQ hst _ (by simp only [slot_len, hs]) (by simp only [go_sem, Nat.reduceLT, Nat.reduceEqDiff, reduceCtorEq, Int.reduceLT, Int.reduceEq, hs])
    | false =>
      simp only [go_sem, Nat.reduceLT, Nat.reduceEqDiff, reduceCtorEq, Int.reduceLT, Int.reduceEq, hs, h6, hw]
      have : bl_le p.1 p'.1 = false := hb
      rw [this] at hst
      simp only [Bool.not_false, Bool.true_and] at hst
      refine ih (k + 1) _ Q (by omega) (by omega) (by omega) (by simp only [slot_len, hs]) (by simp only [go_sem, Nat.reduceLT, Nat.reduceEqDiff, reduceCtorEq, Int.reduceLT, Int.reduceEq, h0]) (by simp only [go_sem, Nat.reduceLT, Nat.reduceEqDiff, reduceCtorEq, Int.reduceLT, Int.reduceEq, hs]) (fun hh => hE (by rw [hst]; exact hh)) (fun hh => hQ (by rw [hst]; exact hh))

theorem rrising_f21 {els : List (List CV)} {kv : List KV} {u : VV} (hS : SlV 2 els u) (hR : RowsE els kv) (hn : kv.length ≤ 9223372036854775807) : ∃ h', call F 21 [u] [] = some (.ret (vb (risingF kv)), h') := by
  have : Ret F 21 [u] [] fun v h' => v = vb (risingF kv) := by
    refine call_E (fn := f21) rfl ?_
    simp only [f21]
    generalize hs0 : ([u] ++ List.replicate _ VV.undef : List VV) = s
    have hs : s.length = 22 := by rw [← hs0]; rfl
    have h0 : s.getD 0 .undef = u := by rw [← hs0]; rfl
    clear hs0
    simp only [go_sem, Nat.reduceLT, Nat.reduceEqDiff, reduceCtorEq, Int.reduceLT, Int.reduceEq, hs]
    refine f21_loop hS hR hn (kv.length - 1) 1 _ _ (by omega) (by omega) (by omega) (by simp only [slot_len, hs]) (by simp only [go_sem, Nat.reduceLT, Nat.reduceEqDiff, reduceCtorEq, Int.reduceLT, Int.reduceEq, h0]) (by simp only [go_sem, Nat.reduceLT, Nat.reduceEqDiff, reduceCtorEq, Int.reduceLT, Int.reduceEq, hs]; rfl) (fun hh s' a1 => ?_) (fun hh s' a1 a2 => ?_)
    · simp only [go_sem, Nat.reduceLT, Nat.reduceEqDiff, reduceCtorEq, Int.reduceLT, Int.reduceEq, a1]
      exact congrArg vb hh.symm
    · simp only [go_sem, Nat.reduceLT, Nat.reduceEqDiff, reduceCtorEq, Int.reduceLT, Int.reduceEq, a1, a2]
      exact congrArg vb hh.symm
  obtain ⟨v, h', e1, rfl⟩ := this
  exact ⟨h', e1⟩
end Go.V06


set_option linter.unusedSimpArgs false
set_option linter.unusedVariables false
namespace Go.V06
open Go Go.Vm

/-! ### the chapter's example -/
/-! ### both tell the same -/
theorem decF_e (b : List UInt8) : (decF b).2.2 ≤ 12 ∧ (decF b).1 ≤ 255 := by
  unfold decF
  split
  · simp
  · split
    · simp
    · split
      · simp
      · split
        · have := (b.getD 0 0).toNat_lt
          refine ⟨by simp, ?_⟩
          show (b.getD 0 0).toNat ≤ 255
          omega
        · simp
theorem decF_len (b : List UInt8) : (decF b).2.1.length ≤ 255 := by
  unfold decF
  split
  · simp
  · split
    · simp
    · split
      · simp
      · rename_i l hl
        have := decL_len _ _ _ _ hl
        have h2 := (b.getD 1 0).toNat_lt
        split
        · simp only; omega
        · simp

/-! ### rows, as they are read -/
end Go.V06


set_option linter.unusedSimpArgs false
set_option linter.unusedVariables false
namespace Go.V06
open Go Go.Vm

/-! ### PagePuts -/
theorem take_rows {els : List (List CV)} {kv : List KV} (hR : RowsE els kv) (n : Nat) : RowsE (els.take n) (kv.take n) := by
  induction hR generalizing n with
  | nil => simp; exact .nil
  | cons h _ ih =>
    cases n with
    | zero => exact .nil
    | succ n => exact .cons h (ih n)

end Go.V06

set_option linter.unusedSimpArgs false
set_option linter.unusedVariables false
namespace Go.V06
open Go Go.Vm

/-! ### a level -/
theorem yb_none (id : Nat) : F (YB + id) = none := by
  cases h : F (YB + id) with
  | none => rfl
  | some fn => have := (tbl.2 _ fn h).1; omega

def keyOf : List KV → List UInt8
  | [] => []
  | p :: _ => p.1
def aboveL : Nat → List (List KV) → List KV
  | _, [] => []
  | n, g :: r => (keyOf g, num (clamp (n : Int))) :: aboveL (n + 1) r
theorem aboveL_len : ∀ (n : Nat) (gs : List (List KV)), (aboveL n gs).length = gs.length
  | _, [] => rfl
  | n, g :: r => by simp [aboveL, aboveL_len (n + 1) r]
theorem aboveL_snoc : ∀ (n : Nat) (gs : List (List KV)) (g : List KV), aboveL n (gs ++ [g]) = aboveL n gs ++ [(keyOf g, num (clamp ((n + gs.length : Nat) : Int)))]
  | n, [], g => by simp [aboveL]
  | n, x :: gs, g => by
    simp only [List.cons_append, aboveL, aboveL_snoc (n + 1) gs g, List.length_cons]
    have : n + 1 + gs.length = n + (gs.length + 1) := by omega
    rw [this]
def sumL (gs : List (List KV)) : Nat := (gs.map List.length).sum
theorem sumL_snoc (gs : List (List KV)) (g : List KV) : sumL (gs ++ [g]) = sumL gs + g.length := by simp [sumL]

/-- Pages, as they lie. -/
inductive PgE : List (List CV) → List (List UInt8) → Prop
  | nil : PgE [] []
  | cons {c : CV} {b : List UInt8} {l : List (List CV)} {k : List (List UInt8)} (h : SlV 1 (eB b) (.cv c)) (t : PgE l k) : PgE ([c] :: l) (b :: k)
theorem PgE.len {l : List (List CV)} {k : List (List UInt8)} (h : PgE l k) : l.length = k.length := by
  induction h with
  | nil => rfl
  | cons _ _ ih => simp [ih]
theorem PgE.app {l m : List (List CV)} {k j : List (List UInt8)} (h : PgE l k) (h2 : PgE m j) : PgE (l ++ m) (k ++ j) := by
  induction h with
  | nil => exact h2
  | cons h _ ih => exact .cons h ih
theorem PgE.snoc {l : List (List CV)} {k : List (List UInt8)} (h : PgE l k) {c : CV} {b : List UInt8} (hc : SlV 1 (eB b) (.cv c)) : PgE (l ++ [[c]]) (k ++ [b]) := h.app (.cons hc .nil)
theorem PgE.get {l : List (List CV)} {k : List (List UInt8)} (h : PgE l k) {i : Nat} (hi : i < k.length) : ∃ c b, l[i]? = some [c] ∧ k[i]? = some b ∧ SlV 1 (eB b) (.cv c) := by
  induction h generalizing i with
  | nil => simp at hi
  | cons h t ih =>
    cases i with
    | zero => exact ⟨_, _, rfl, rfl, h⟩
    | succ i => obtain ⟨c, b, h1, h2, h3⟩ := ih (i := i) (by simpa using hi); exact ⟨c, b, by simpa using h1, by simpa using h2, h3⟩
theorem PgE.take {l : List (List CV)} {k : List (List UInt8)} (h : PgE l k) (n : Nat) : PgE (l.take n) (k.take n) := by
  induction h generalizing n with
  | nil => simp; exact .nil
  | cons h _ ih =>
    cases n with
    | zero => exact .nil
    | succ n => exact .cons h (ih n)

/-- What a level has done. -/
structure LvB (tb N n : Nat) (pg0 : List (List UInt8)) (g : Heap) (gs : List (List KV)) : Prop where
  i3 : g[N]? = some (.box [.ptr tb 0] false)
  i4 : g[N + 1]? = some (.box [vi .i64 n] false)
  i6 : g[N + 2]? = some (.box [nilS] false)
  i7 : g[N + 3]? = some (.box [vb false] false)
  i8 : ∃ va elsA, g[N + 4]? = some (.box [va] false) ∧ BufG g 2 elsA va ∧ RowsE elsA (aboveL pg0.length gs)
  i9 : g[N + 5]? = some (.box [vi .i64 (sumL gs : Nat)] false)
  it : ∃ vp elsP, g[tb]? = some (.box [vp] false) ∧ BufG g 1 elsP vp ∧ PgE elsP (pg0 ++ gs.map (pageB n))

theorem LvB.loop {tb N n : Nat} {pg0 : List (List UInt8)} {g : Heap} {gs : List (List KV)} (L : LvB tb N n pg0 g gs) (htb : tb < N) {ps : List Nat} {a b : IR} {s : List VV} {t : LoopState} {p : Option Jmp} (ho : g[N + 7]? = some (.loop ps a b s t p)) (o : VO) : LvB tb N n pg0 (g.set (N + 7) o) gs := by
  obtain ⟨va, elsA, a1, a2, a3⟩ := L.i8
  obtain ⟨vp, elsP, b1, b2, b3⟩ := L.it
  have ne : ∀ {j : Nat}, j ≠ N + 7 → (g.set (N + 7) o)[j]? = g[j]? := fun hj => List.getElem?_set_ne (fun e => hj e.symm)
  exact ⟨by rw [ne (by omega)]; exact L.i3, by rw [ne (by omega)]; exact L.i4, by rw [ne (by omega)]; exact L.i6, by rw [ne (by omega)]; exact L.i7, ⟨va, elsA, by rw [ne (by omega)]; exact a1, a2.setLoop ho o, a3⟩, by rw [ne (by omega)]; exact L.i9, ⟨vp, elsP, by rw [ne (by omega)]; exact b1, b2.setLoop ho o, b3⟩⟩

theorem encF_fit {n : Nat} {gk : List KV} (hn : n ≤ 4) (hf : fitF 0 gk = gk.length) : encF (n : Int) gk = some (pageB n gk) := by
  unfold encF
  rw [if_neg (by omega), Int.toNat_natCast]

theorem round_level {tb N n : Nat} (htb : tb < N) (hn : n ≤ 4) {s0 : List VV} (hs0 : s0.length = 63) (k3 : s0.getD 3 .undef = .ptr N 0) (k4 : s0.getD 4 .undef = .ptr (N + 1) 0) (k6 : s0.getD 6 .undef = .ptr (N + 2) 0) (k7 : s0.getD 7 .undef = .ptr (N + 3) 0)
    (k8 : s0.getD 8 .undef = .ptr (N + 4) 0) (k9 : s0.getD 9 .undef = .ptr (N + 5) 0) {pg0 : List (List UInt8)} {g : Heap} {gs : List (List KV)} (L : LvB tb N n pg0 g gs) {p0 : Option Jmp} (hp : g[N + 7]? = some (.loop [16] f23_0 f23_3 s0 .ready p0))
    {gv vl : VV} {elsg : List (List CV)} {gk : List KV} (hv : VZ g 2 elsg gv) (hR : RowsE elsg gk) (hfit : fitF 0 gk = gk.length) (hcnt : pg0.length + gs.length ≤ 1000000) (hsum : sumL gs + gk.length ≤ 1000000) (hlb : g[N + 6]? = some (.box [vl] false)) :
    ∃ h', call F (YB + (N + 7)) [gv] g = some (.ret (vb true), h') ∧ LvB tb N n pg0 h' (gs ++ [gk]) ∧ h'[N + 7]? = some (.loop [16] f23_0 f23_3 s0 .ready none) ∧ KZ g h' ∧ h'[N + 6]? = some (.box [vl] false) := by
  have key := round_X (F := F) (id := N + 7) (yb_none _) (ps := [16]) (asg := f23_0) (body := f23_3) (s0 := s0) (a := [gv]) (h := g) (P := fun v h' => v = vb true ∧ LvB tb N n pg0 h' (gs ++ [gk]) ∧ h'[N + 7]? = some (.loop [16] f23_0 f23_3 s0 .ready none) ∧ KZ g h' ∧ h'[N + 6]? = some (.box [vl] false)) hp rfl ?_
  · obtain ⟨v, h', e1, rfl, e2⟩ := key
    exact ⟨h', e1, e2⟩
  have hset : setAll s0 [16] [gv] = s0.set 16 gv := rfl
  rw [hset, X_eq f23_0.eq_1]
  simp only [go_sem, Nat.reduceLT, Nat.reduceEqDiff, reduceCtorEq, Int.reduceLT, Int.reduceEq, hs0]
  refine ⟨rfl, p0, hp, ?_⟩
  dsimp only
  have Lb := L.loop htb hp (.loop [16] f23_0 f23_3 s0 .busy p0)
  have hp1 : (g.set (N + 7) (.loop [16] f23_0 f23_3 s0 .busy p0))[N + 7]? = some (.loop [16] f23_0 f23_3 s0 .busy p0) := List.getElem?_set_self (lt_at hp)
  have kz1 := KZ.setLoop g hp (.loop [16] f23_0 f23_3 s0 .busy p0)
  have hv1 := hv.kz kz1
  have hlb1 : (g.set (N + 7) (.loop [16] f23_0 f23_3 s0 .busy p0))[N + 6]? = some (.box [vl] false) := by rw [List.getElem?_set_ne (by omega)]; exact hlb
  generalize g.set (N + 7) (.loop [16] f23_0 f23_3 s0 .busy p0) = g1 at Lb hp1 kz1 hv1 hlb1
  obtain ⟨va, elsA, a1, a2, a3⟩ := Lb.i8
  obtain ⟨vp, elsP, b1, b2, b3⟩ := Lb.it
  have hl := hR.len
  obtain ⟨w, w1, w2⟩ := hv1.clos
  obtain ⟨v32, h32, n32, P32⟩ := encode_f32 [] (n : Int) w2 hR (by omega)
  obtain ⟨y, r32, hy⟩ := P32.pure
  rw [encF_fit hn hfit] at r32 hy
  have hy' := hy _ rfl
  obtain ⟨cy, rfl⟩ : ∃ cy, y = .cv cy := by rcases hy' with ⟨rfl, _⟩ | ⟨ex, rfl⟩ <;> exact ⟨_, rfl⟩
  have hpl := b3.len
  rw [List.length_append, List.length_map] at hpl
  obtain ⟨v33, h33, n33, r33⟩ := num_pure ((pg0.length + gs.length : Nat) : Int)
  rw [X_eq f23_3.eq_1]
  simp only [go_sem, Nat.reduceLT, Nat.reduceEqDiff, reduceCtorEq, Int.reduceLT, Int.reduceEq, hs0, k4, ld_p0 Lb.i4]
  refine XO_callP (h1 := g1) (by simp only [List.map, go_sem, Nat.reduceLT, Nat.reduceEqDiff, reduceCtorEq, Int.reduceLT, Int.reduceEq, hs0]; exact clos_cv (closAs_cons w1 rfl)) n32 r32 ?_
  simp only [go_sem, Nat.reduceLT, Nat.reduceEqDiff, reduceCtorEq, Int.reduceLT, Int.reduceEq, hs0]
  rw [X_eq f23_1.eq_1]
  simp only [go_sem, Nat.reduceLT, Nat.reduceEqDiff, reduceCtorEq, Int.reduceLT, Int.reduceEq, hs0, Option.isSome_some, k3, ld_p0 Lb.i3, ld_p0 b1, b2.vf.ln, hpl]
  refine XO_callP (h1 := g1) (by simp only [List.map, go_sem, Nat.reduceLT, Nat.reduceEqDiff, reduceCtorEq, Int.reduceLT, Int.reduceEq, hs0]; exact clos_cv rfl) n33 r33 ?_
  have bd : ∀ c : CV, bdO [.cv (.sc (.string ⟨#[]⟩)), .cv (.sc (.slice none 0 0))] [(1, 1, .cv c)] = some (.agg [.cv (.sc (.string ⟨#[]⟩)), .cv c]) := fun c => rfl
  simp only [go_sem, Nat.reduceLT, Nat.reduceEqDiff, reduceCtorEq, Int.reduceLT, Int.reduceEq, hs0, bd]
  -- the row's box
  have q0 : (g1 ++ [VO.box [.cv (.sc (.string ⟨#[]⟩)), .cv (.sl 1 (eB (num (clamp ((pg0.length + gs.length : Nat) : Int)))) false)] false])[g1.length]? = some (.box [txt [], .cv (.sl 1 (eB (num (clamp ((pg0.length + gs.length : Nat) : Int)))) false)] false) := at_last
  have x0 := HExt.push g1 (VO.box [.cv (.sc (.string ⟨#[]⟩)), .cv (.sl 1 (eB (num (clamp ((pg0.length + gs.length : Nat) : Int)))) false)] false)
  have hB7 : N + 7 < g1.length := lt_at hp1
  generalize hcn : (CV.sl 1 (eB (num (clamp ((pg0.length + gs.length : Nat) : Int)))) false) = cn at *
  have hcnS : SlV 1 (eB (num (clamp ((pg0.length + gs.length : Nat) : Int)))) (.cv cn) := by rw [← hcn]; exact .inr ⟨false, rfl⟩
  generalize g1 ++ [VO.box [.cv (.sc (.string ⟨#[]⟩)), .cv cn] false] = g2 at q0 x0
  generalize hB : g1.length = nB at *
  have hv2 := hv1.kz x0.kz
  -- behind the key
  have fin : ∀ (s : List VV) (g3 : Heap), s.length = 63 → s.getD 3 .undef = .ptr N 0 → s.getD 8 .undef = .ptr (N + 4) 0 → s.getD 9 .undef = .ptr (N + 5) 0 → s.getD 10 .undef = gv → s.getD 11 .undef = .cv cy → s.getD 13 .undef = .ptr nB 0 →
      g3[nB]? = some (.box [txt (keyOf gk), .cv cn] false) → (∀ j, j < nB → g3[j]? = g1[j]?) → KZ g1 g3 → BufG g3 2 elsA va → BufG g3 1 elsP vp → X F (.draw [(
  ⟨none, (some 40), (.ld false 1 (.t 3))⟩, (.r 0 3)), (
  ⟨none, (some 41), (.ld false 1 (.t 8))⟩, (.r 0 0)), (
  ⟨none, (some 42), (.ld true 2 (.t 13))⟩, (.r 0 0)), (
  ⟨none, (some 43), (.mksl 2 1 [(.cv (.sc (.string ⟨#[]⟩))), (.cv (.sc (.slice none 0 0)))] [(0, (2, (.t 42)))] false)⟩, (.r 0 0)), (
  ⟨none, (some 44), (.app 2 40 [(.sc (.string ⟨#[]⟩)), (.sc (.slice none 0 0))] (.t 41) (.t 43))⟩, .k), (
  ⟨none, (some 45), (.ld false 1 (.t 3))⟩, (.r 0 1)), (
  ⟨none, (some 46), (.nilck (.t 45))⟩, .p), (
  ⟨none, (some 47), (.fad 0 (.t 46))⟩, .p), (
  ⟨none, (some 48), (.ld false 1 (.t 47))⟩, (.r 0 1)), (
  ⟨none, (some 49), (.mv (.t 11))⟩, .p), (
  ⟨none, (some 50), (.mksl 1 1 [(.cv (.sc (.slice none 0 0)))] [(0, (1, (.t 49)))] false)⟩, (.r 0 1)), (
  ⟨none, (some 51), (.app 1 24 [(.sc (.slice none 0 0))] (.t 48) (.t 50))⟩, .k), (
  ⟨none, none, (.st 1 (.t 8) (.t 44))⟩, .k), (
  ⟨none, (some 52), (.nilck (.t 40))⟩, .p), (
  ⟨none, (some 53), (.fad 0 (.t 52))⟩, .p), (
  ⟨none, none, (.st 1 (.t 53) (.t 51))⟩, .k)]) ⟨s, g3⟩ (K F (.reg [
  ⟨none, (some 54), (.ld false 1 (.t 9))⟩,
  ⟨none, (some 55), (.mv (.t 10))⟩,
  ⟨none, (some 56), (.len false (.t 55))⟩,
  ⟨none, (some 57), (.bin .add (.t 54) (.t 56))⟩,
  ⟨none, none, (.st 1 (.t 9) (.t 57))⟩]) (B 1 (RB (N + 7) [16] f23_0 f23_3 s0 fun v h' => v = vb true ∧ LvB tb N n pg0 h' (gs ++ [gk]) ∧ h'[N + 7]? = some (.loop [16] f23_0 f23_3 s0 .ready none) ∧ KZ g h' ∧ h'[N + 6]? = some (.box [vl] false)))) := by
    intro s g3 hs h3 h8 h9 h10 h11 h13 qB same kz3 A3 P3
    have j3 : g3[N]? = some (.box [.ptr tb 0] false) := by rw [same N (by omega)]; exact Lb.i3
    have jt : g3[tb]? = some (.box [vp] false) := by rw [same tb (by omega)]; exact b1
    have j8 : g3[N + 4]? = some (.box [va] false) := by rw [same (N + 4) (by omega)]; exact a1
    have hAl := a3.len
    rw [aboveL_len] at hAl
    have hmk2 : ∀ h : Heap, mkO h 2 1 [.cv (.sc (.string ⟨#[]⟩)), .cv (.sc (.slice none 0 0))] [(0, 2, .agg [txt (keyOf gk), .cv cn])] = some (.cv (.sl 2 [[.sc (.string ⟨(keyOf gk).toArray⟩), cn]] true), h) := fun h => mk_agg2
    have hmk1 : ∀ h : Heap, mkO h 1 1 [.cv (.sc (.slice none 0 0))] [(0, 1, .cv cy)] = some (.cv (.sl 1 [[cy]] true), h) := fun h => rfl
    refine X_drawA 13 (fun g => g[N]? = some (.box [.ptr tb 0] false) ∧ g[tb]? = some (.box [vp] false)) ⟨j3, jt⟩ rfl rfl ?_
    simp only [List.take_succ_cons, List.take_zero]
    refine XDA_r (v := .ptr tb 0) rfl ⟨j3, jt⟩ (fun g hg => by rw [st_ldq]; simp only [go_sem, Nat.reduceLT, Nat.reduceEqDiff, reduceCtorEq, Int.reduceLT, Int.reduceEq, hs, h3]; exact ld_ptr hg.1 rfl) ?_
    refine XDA_req (v := va) rfl (by rw [st_ldq]; simp only [go_sem, Nat.reduceLT, Nat.reduceEqDiff, reduceCtorEq, Int.reduceLT, Int.reduceEq, hs, h8]; exact ld_ptr j8 rfl) ?_
    refine XDA_req (v := .agg [txt (keyOf gk), .cv cn]) rfl (by rw [st_ldq]; simp only [go_sem, Nat.reduceLT, Nat.reduceEqDiff, reduceCtorEq, Int.reduceLT, Int.reduceEq, hs, h13]; exact ld_bxN qB rfl) ?_
    refine XDA_req (v := .cv (.sl 2 [[.sc (.string ⟨(keyOf gk).toArray⟩), cn]] true)) rfl (by rw [st_mksl]; simp only [go_sem, Nat.reduceLT, Nat.reduceEqDiff, reduceCtorEq, Int.reduceLT, Int.reduceEq, hs, hmk2]) ?_
    simp only [putD_some]
    have hx44 : ∀ s' : List VV, s'.getD 41 .undef = va → s'.getD 43 .undef = .cv (.sl 2 [[.sc (.string ⟨(keyOf gk).toArray⟩), cn]] true) → ∃ v' h', stepI g3 (evalO s') (.app 2 40 [(.sc (.string ⟨#[]⟩)), (.sc (.slice none 0 0))] (.t 41) (.t 43)) = some (v', h') ∧ BufG h' 2 (elsA ++ [[.sc (.string ⟨(keyOf gk).toArray⟩), cn]]) v' ∧ KG 2 g3 h' := by
      intro s' e1 e2
      exact app_BG A3 (by simp only [evalO_t, e1]) (by simp only [evalO_t, e2, src_sl]) (by simp only [List.length_singleton]; omega) (by simp only [List.length_singleton]; omega)
    obtain ⟨va', g4, e44, A4, kg4⟩ := hx44 ((((s.set 40 (.ptr tb 0)).set 41 va).set 42 (.agg [txt (keyOf gk), .cv cn])).set 43 (.cv (.sl 2 [[.sc (.string ⟨(keyOf gk).toArray⟩), cn]] true))) (by simp only [go_sem, Nat.reduceLT, Nat.reduceEqDiff, reduceCtorEq, Int.reduceLT, Int.reduceEq, hs]) (by simp only [go_sem, Nat.reduceLT, Nat.reduceEqDiff, reduceCtorEq, Int.reduceLT, Int.reduceEq, hs])
    have l3 := kg4.box j3
    have lt := kg4.box jt
    refine XDA_k (v := va') (h' := g4) rfl e44 ⟨l3, lt⟩ ?_
    have P4 := P3.kg kg4 (by decide)
    refine XDA_r (v := .ptr tb 0) rfl ⟨l3, lt⟩ (fun g hg => by rw [st_ldq]; simp only [go_sem, Nat.reduceLT, Nat.reduceEqDiff, reduceCtorEq, Int.reduceLT, Int.reduceEq, hs, h3]; exact ld_ptr hg.1 rfl) ?_
    refine XDA_p (v := .ptr tb 0) rfl (by rw [st_nilck]; simp only [go_sem, Nat.reduceLT, Nat.reduceEqDiff, reduceCtorEq, Int.reduceLT, Int.reduceEq, hs]) ?_
    refine XDA_p (v := .ptr tb 0) rfl (by rw [st_fad]; simp only [go_sem, Nat.reduceLT, Nat.reduceEqDiff, reduceCtorEq, Int.reduceLT, Int.reduceEq, hs]) ?_
    refine XDA_r (v := vp) rfl ⟨l3, lt⟩ (fun g hg => by rw [st_ldq]; simp only [go_sem, Nat.reduceLT, Nat.reduceEqDiff, reduceCtorEq, Int.reduceLT, Int.reduceEq, hs]; exact ld_ptr hg.2 rfl) ?_
    refine XDA_p (v := .cv cy) rfl (by simp only [stepI]; simp only [go_sem, Nat.reduceLT, Nat.reduceEqDiff, reduceCtorEq, Int.reduceLT, Int.reduceEq, hs, h11]) ?_
    refine XDA_r (v := .cv (.sl 1 [[cy]] true)) rfl ⟨l3, lt⟩ (fun g hg => by rw [st_mksl]; simp only [go_sem, Nat.reduceLT, Nat.reduceEqDiff, reduceCtorEq, Int.reduceLT, Int.reduceEq, hs, hmk1]) ?_
    simp only [putD_some]
    obtain ⟨vp', g5, e51, P5, kg5⟩ := app_BG (by_ := 24) (zero := [(.sc (.slice none 0 0))]) (x := .t 48) (y := .t 50) (new := [[cy]]) (s := (((((((((((s.set 40 (.ptr tb 0)).set 41 va).set 42 (.agg [txt (keyOf gk), .cv cn])).set 43 (.cv (.sl 2 [[.sc (.string ⟨(keyOf gk).toArray⟩), cn]] true))).set 44 va').set 45 (.ptr tb 0)).set 46 (.ptr tb 0)).set 47 (.ptr tb 0)).set 48 vp).set 49 (.cv cy)).set 50 (.cv (.sl 1 [[cy]] true)))) P4 (by simp only [go_sem, Nat.reduceLT, Nat.reduceEqDiff, reduceCtorEq, Int.reduceLT, Int.reduceEq, hs]) (by simp only [go_sem, Nat.reduceLT, Nat.reduceEqDiff, reduceCtorEq, Int.reduceLT, Int.reduceEq, hs]) (by simp only [List.length_singleton]; omega) (by simp only [List.length_singleton]; omega)
    have m3 := kg5.box l3
    have mt := kg5.box lt
    have m8 := kg5.box (kg4.box j8)
    have A5 := A4.kg kg5 (by decide)
    refine XDA_k (v := vp') (h' := g5) rfl e51 ⟨m3, mt⟩ ?_
    simp only [putD_some]
    have st8 := st_1 (v := va') A5.vf_cell m8 (show 0 < 1 by decide)
    have o8 : (g5.set (N + 4) (.box [va'] false))[N + 4]? = some (.box [va'] false) := List.getElem?_set_self (lt_at m8)
    have o3 : (g5.set (N + 4) (.box [va'] false))[N]? = some (.box [.ptr tb 0] false) := by rw [List.getElem?_set_ne (by omega)]; exact m3
    have ot : (g5.set (N + 4) (.box [va'] false))[tb]? = some (.box [vp] false) := by rw [List.getElem?_set_ne (by omega)]; exact mt
    refine XDA_k (v := .undef) (h' := g5.set (N + 4) (.box [va'] false)) rfl (by show stO _ 1 _ _ = _; simp only [go_sem, Nat.reduceLT, Nat.reduceEqDiff, reduceCtorEq, Int.reduceLT, Int.reduceEq, hs, h8]; exact st8) ⟨o3, ot⟩ ?_
    simp only [XDA, List.drop_succ_cons, List.drop_zero, putD_none]
    have A6 := A5.setBox m8 (.box [va'] false)
    have P6 := P5.setBox m8 (.box [va'] false)
    have kz6 : KZ g (g5.set (N + 4) (.box [va'] false)) := (kz1.trans (kz3.trans (kg4.kz.trans kg5.kz))).trans (KZ.setBox g5 m8 _)
    have keep : ∀ j, j < nB → j ≠ N + 4 → ∀ o, g1[j]? = some o → (∀ e gg, o ≠ VO.arr 2 e gg false) → (∀ e gg, o ≠ VO.arr 1 e gg false) → (g5.set (N + 4) (.box [va'] false))[j]? = some o := by
      intro j hj hj4 o ho hn1 hn2
      rw [List.getElem?_set_ne (by omega)]
      exact kg5.2 j o (kg4.2 j o (by rw [same j hj]; exact ho) hn1) hn2
    have bx : ∀ j, j < nB → j ≠ N + 4 → ∀ cells, g1[j]? = some (.box cells false) → (g5.set (N + 4) (.box [va'] false))[j]? = some (.box cells false) := fun j hj hj4 cells ho => keep j hj hj4 _ ho (fun _ _ e => by cases e) (fun _ _ e => by cases e)
    have i4' := bx (N + 1) (by omega) (by omega) _ Lb.i4
    have i6' := bx (N + 2) (by omega) (by omega) _ Lb.i6
    have i7' := bx (N + 3) (by omega) (by omega) _ Lb.i7
    have i9' := bx (N + 5) (by omega) (by omega) _ Lb.i9
    have il' := bx (N + 6) (by omega) (by omega) _ hlb1
    have ip' := keep (N + 7) (by omega) (by omega) _ hp1 (fun _ _ e => by cases e) (fun _ _ e => by cases e)
    generalize g5.set (N + 4) (.box [va'] false) = g6 at *
    have stt := st_1 (v := vp') P6.vf_cell ot (show 0 < 1 by decide)
    have nt : ∀ {j : Nat}, j ≠ tb → (g6.set tb (.box [vp'] false))[j]? = g6[j]? := fun hj => List.getElem?_set_ne (fun e => hj e.symm)
    have st9 := st_1 (h := g6.set tb (.box [vp'] false)) (v := vi .i64 (sumL (gs ++ [gk]) : Nat)) rfl (by rw [nt (show N + 5 ≠ tb by omega)]; exact i9') (show 0 < 1 by decide)
    have hw : IntKind.i64.wrap (((sumL gs : Nat) : Int) + (elsg.length : Int)) = ((sumL (gs ++ [gk]) : Nat) : Int) := by
      rw [sumL_snoc, IntWalk.i64_in _ (by omega)]; omega
    have l9 : ldO (g6.set tb (.box [vp'] false)) false 1 (.ptr (N + 5) 0) = some (vi .i64 (sumL gs : Nat), g6.set tb (.box [vp'] false)) := ld_ptr (by rw [nt (by omega)]; exact i9') rfl
    simp only [List.set_cons_zero] at stt st9
    simp only [go_sem, Nat.reduceLT, Nat.reduceEqDiff, reduceCtorEq, Int.reduceLT, Int.reduceEq, hs, stt, h9, l9, h10, hv2.vf.ln, hw, st9]
    refine ⟨none, .busy, p0, rfl, ?_, rfl, ?_, List.getElem?_set_self ?_, ?_, ?_⟩
    · rw [List.getElem?_set_ne (by omega), nt (by omega)]; exact ip'
    · refine LvB.loop (t := .busy) (p := p0) ?_ htb (by rw [List.getElem?_set_ne (by omega), nt (by omega)]; exact ip') _
      have P7 := (BufG.setBox P6 ot (.box [vp'] false)).setBox (by rw [nt (show N + 5 ≠ tb by omega)]; exact i9') (.box [vi .i64 (sumL (gs ++ [gk]) : Nat)] false)
      have A7 := (BufG.setBox A6 ot (.box [vp'] false)).setBox (by rw [nt (show N + 5 ≠ tb by omega)]; exact i9') (.box [vi .i64 (sumL (gs ++ [gk]) : Nat)] false)
      have n9 : ∀ {j : Nat}, j ≠ N + 5 → j ≠ tb → ((g6.set tb (.box [vp'] false)).set (N + 5) (.box [vi .i64 (sumL (gs ++ [gk]) : Nat)] false))[j]? = g6[j]? := fun h1 h2 => by rw [List.getElem?_set_ne (fun e => h1 e.symm), nt h2]
      refine ⟨by rw [n9 (by omega) (by omega)]; exact o3, by rw [n9 (by omega) (by omega)]; exact i4', by rw [n9 (by omega) (by omega)]; exact i6', by rw [n9 (by omega) (by omega)]; exact i7', ⟨va', _, by rw [n9 (by omega) (by omega)]; exact o8, A7, ?_⟩, List.getElem?_set_self (by rw [List.length_set]; exact lt_at i9'), ⟨vp', _, by rw [List.getElem?_set_ne (by omega)]; exact List.getElem?_set_self (lt_at ot), P7, ?_⟩⟩
      · rw [aboveL_snoc]
        exact a3.snoc ⟨cn, rfl, hcnS⟩
      · rw [List.map_append, ← List.append_assoc]
        exact b3.snoc hy'
    · rw [List.length_set, List.length_set]; exact lt_at ip'
    · refine (kz6.trans ((KZ.setBox g6 ot _).trans (KZ.setBox _ (i := N + 5) (by rw [nt (by omega)]; exact i9') _))).trans (KZ.setLoop _ (by rw [List.getElem?_set_ne (by omega), nt (by omega)]; exact ip') _)
    · rw [List.getElem?_set_ne (by omega), List.getElem?_set_ne (by omega), nt (by omega)]; exact il'
  rw [X_eq f23_2.eq_1]
  cases gk with
  | nil =>
    have he : elsg = [] := by cases hR; rfl
    have c : ¬ (0 : Int) < ((elsg.length : Nat) : Int) := by rw [he]; simp
    simp only [go_sem, Nat.reduceLT, Nat.reduceEqDiff, reduceCtorEq, Int.reduceLT, Int.reduceEq, hs0, hv2.vf.ln, gt_iff_lt, c]
    exact fin _ g2 (by simp only [slot_len, hs0]) (by simp only [go_sem, Nat.reduceLT, Nat.reduceEqDiff, reduceCtorEq, Int.reduceLT, Int.reduceEq, k3]) (by simp only [go_sem, Nat.reduceLT, Nat.reduceEqDiff, reduceCtorEq, Int.reduceLT, Int.reduceEq, k8]) (by simp only [go_sem, Nat.reduceLT, Nat.reduceEqDiff, reduceCtorEq, Int.reduceLT, Int.reduceEq, k9]) (by simp only [go_sem, Nat.reduceLT, Nat.reduceEqDiff, reduceCtorEq, Int.reduceLT, Int.reduceEq, hs0]) (by simp only [go_sem, Nat.reduceLT, Nat.reduceEqDiff, reduceCtorEq, Int.reduceLT, Int.reduceEq, hs0]) (by simp only [go_sem, Nat.reduceLT, Nat.reduceEqDiff, reduceCtorEq, Int.reduceLT, Int.reduceEq, hs0]) q0 (fun j hj => x0.same j (by omega)) x0.kz (a2.hext x0) (b2.hext x0)
  | cons p gk =>
    obtain ⟨e, p', he, hp', c', rfl, hc'⟩ := hR.get (i := 0) (by simp)
    simp at hp'
    subst hp'
    have c : (0 : Int) < ((elsg.length : Nat) : Int) := by rw [hl, List.length_cons]; omega
    obtain ⟨q, q1, q2, q3, _⟩ := hv2.vf.cell (k := .i64) he
    obtain ⟨q', q4, q5⟩ := q3 0 _ rfl
    have q1' : iaO g2 2 gv (vi .i64 0) = some (q, g2) := q1
    have sB := st_1 (v := txt p.1) rfl q0 (show 0 < 2 by decide)
    simp only [List.set_cons_zero] at sB
    simp only [go_sem, Nat.reduceLT, Nat.reduceEqDiff, reduceCtorEq, Int.reduceLT, Int.reduceEq, hs0, hv2.vf.ln, gt_iff_lt, c, q1', q4, q5, sB]
    exact fin _ (g2.set nB (.box [txt p.1, .cv cn] false)) (by simp only [slot_len, hs0]) (by simp only [go_sem, Nat.reduceLT, Nat.reduceEqDiff, reduceCtorEq, Int.reduceLT, Int.reduceEq, k3]) (by simp only [go_sem, Nat.reduceLT, Nat.reduceEqDiff, reduceCtorEq, Int.reduceLT, Int.reduceEq, k8]) (by simp only [go_sem, Nat.reduceLT, Nat.reduceEqDiff, reduceCtorEq, Int.reduceLT, Int.reduceEq, k9]) (by simp only [go_sem, Nat.reduceLT, Nat.reduceEqDiff, reduceCtorEq, Int.reduceLT, Int.reduceEq, hs0]) (by simp only [go_sem, Nat.reduceLT, Nat.reduceEqDiff, reduceCtorEq, Int.reduceLT, Int.reduceEq, hs0]) (by simp only [go_sem, Nat.reduceLT, Nat.reduceEqDiff, reduceCtorEq, Int.reduceLT, Int.reduceEq, hs0]) (List.getElem?_set_self (lt_at q0)) (fun j hj => by rw [List.getElem?_set_ne (by omega)]; exact x0.same j (by omega)) (x0.kz.trans (KZ.setBox g2 q0 _)) ((a2.hext x0).setBox q0 _) ((b2.hext x0).setBox q0 _)
end Go.V06

set_option linter.unusedSimpArgs false
set_option linter.unusedVariables false
namespace Go.V06
open Go Go.Vm

def groupsL : Nat → List KV → List (List KV)
  | 0, _ => []
  | n + 1, l => l.take (fitF 0 l) :: (if fitF 0 l = 0 ∨ fitF 0 l = l.length then [] else groupsL n (l.drop (fitF 0 l)))
def grp (l : List KV) : List (List KV) := groupsL (l.length + 1) l

theorem drop_rows {els : List (List CV)} {kv : List KV} (hR : RowsE els kv) (n : Nat) : RowsE (els.drop n) (kv.drop n) := by
  induction hR generalizing n with
  | nil => simp; exact .nil
  | cons h t ih =>
    cases n with
    | zero => exact .cons h t
    | succ n => exact ih n

theorem LvB.froze {tb N n : Nat} {pg0 : List (List UInt8)} {g g1 : Heap} {gs : List (List KV)} (L : LvB tb N n pg0 g gs) (f : Froze g g1) {els : List (List CV)} {v : VV} (hz : gs = [] ∨ VZ g 2 els v) (hb : ∀ z' elsB u, BufG g z' elsB u → (2 ≠ z' ∨ elsB = [] ∨ VZ g 2 els v) → BufG g1 z' elsB u) : LvB tb N n pg0 g1 gs := by
  obtain ⟨va, elsA, a1, a2, a3⟩ := L.i8
  obtain ⟨vp, elsP, b1, b2, b3⟩ := L.it
  refine ⟨f.box' L.i3, f.box' L.i4, f.box' L.i6, f.box' L.i7, ⟨va, elsA, f.box' a1, hb _ _ _ a2 ?_, a3⟩, f.box' L.i9, ⟨vp, elsP, f.box' b1, hb _ _ _ b2 (.inl (by decide)), b3⟩⟩
  rcases hz with rfl | hz
  · refine .inr (.inl ?_)
    have := a3.len
    exact List.eq_nil_of_length_eq_zero this
  · exact .inr (.inr hz)
theorem LvB.setLb {tb N n : Nat} {pg0 : List (List UInt8)} {g : Heap} {gs : List (List KV)} (L : LvB tb N n pg0 g gs) (htb : tb < N) {cells : List VV} {fr : Bool} (hb : g[N + 6]? = some (.box cells fr)) (o : VO) : LvB tb N n pg0 (g.set (N + 6) o) gs := by
  obtain ⟨va, elsA, a1, a2, a3⟩ := L.i8
  obtain ⟨vp, elsP, b1, b2, b3⟩ := L.it
  have ne : ∀ {j : Nat}, j ≠ N + 6 → (g.set (N + 6) o)[j]? = g[j]? := fun hj => List.getElem?_set_ne (fun e => hj e.symm)
  exact ⟨by rw [ne (by omega)]; exact L.i3, by rw [ne (by omega)]; exact L.i4, by rw [ne (by omega)]; exact L.i6, by rw [ne (by omega)]; exact L.i7, ⟨va, elsA, by rw [ne (by omega)]; exact a1, a2.setBox hb o, a3⟩, by rw [ne (by omega)]; exact L.i9, ⟨vp, elsP, by rw [ne (by omega)]; exact b1, b2.setBox hb o, b3⟩⟩
theorem f42_loop {tb N n : Nat} (htb : tb < N) (hn : n ≤ 4) {s0 : List VV} (hs0 : s0.length = 63) (k3 : s0.getD 3 .undef = .ptr N 0) (k4 : s0.getD 4 .undef = .ptr (N + 1) 0) (k6 : s0.getD 6 .undef = .ptr (N + 2) 0) (k7 : s0.getD 7 .undef = .ptr (N + 3) 0)
    (k8 : s0.getD 8 .undef = .ptr (N + 4) 0) (k9 : s0.getD 9 .undef = .ptr (N + 5) 0) {pg0 : List (List UInt8)} :
    ∀ (m : Nat) (kvr : List KV) (els : List (List CV)) (v : VV) (gs : List (List KV)) (s : List VV) (g : Heap) (Q : Pst), kvr.length < m → VF g 2 els v → (gs = [] ∨ VZ g 2 els v) → RowsE els kvr → LvB tb N n pg0 g gs → g[N + 7]? = some (.loop [16] f23_0 f23_3 s0 .ready none) → g[N + 6]? = some (.box [v] false) →
      s.length = 25 → s.getD 0 .undef = .yield (N + 7) → s.getD 1 .undef = .ptr (N + 6) 0 → pg0.length + gs.length + kvr.length + 1 ≤ 1000000 → sumL gs + kvr.length ≤ 1000000 →
      (∀ s' g', LvB tb N n pg0 g' (gs ++ groupsL m kvr) → g'[N + 7]? = some (.loop [16] f23_0 f23_3 s0 .ready none) → Q .ret ⟨s', g'⟩) → X F (.loop f42_1) ⟨s, g⟩ Q := by
  intro m
  induction m with
  | zero => intro kvr els v gs s g Q h; omega
  | succ m ih =>
    intro kvr els v gs s g Q hm hv hz hR L hp hlb hs e0 e1 hc1 hc2 hQ
    have hl := hR.len
    obtain ⟨w, g1, w1, w2, fr1, vz1, kz1, hbf⟩ := hv.closZ
    obtain ⟨h43, n43⟩ := fit_f43 w2 hR (by omega)
    have hfl := fitF_le kvr 0
    have htk := fitF_take kvr 0
    have L1 := L.froze fr1 hz hbf
    have hp1 := fr1.loop' hp
    have hlb1 := fr1.box' hlb
    have hgr : groupsL (m + 1) kvr = kvr.take (fitF 0 kvr) :: (if fitF 0 kvr = 0 ∨ fitF 0 kvr = kvr.length then [] else groupsL m (kvr.drop (fitF 0 kvr))) := rfl
    generalize hk : fitF 0 kvr = k at *
    obtain ⟨w9, c9, vz9⟩ := vz1.upto (k := .i64) (n := k) (by omega)
    have hlt : (kvr.take k).length = k := by rw [List.length_take]; omega
    obtain ⟨g2, n2, L2, hp2, kz2, hlb2⟩ := round_level htb hn hs0 k3 k4 k6 k7 k8 k9 L1 hp1 vz9 (take_rows hR k) (by rw [htk, hlt]) (by omega) (by omega) hlb1
    have vz2 := vz1.kz kz2
    rw [X_loop, X_eq f42_1.eq_1]
    simp only [go_sem, Nat.reduceLT, Nat.reduceEqDiff, reduceCtorEq, Int.reduceLT, Int.reduceEq, hs, e1, ld_p0 hlb]
    refine XO_callP (h1 := g1) (by simp only [List.map, go_sem, Nat.reduceLT, Nat.reduceEqDiff, reduceCtorEq, Int.reduceLT, Int.reduceEq, hs]; exact closAs_cons w1 rfl) n43 rfl ?_
    simp only [go_sem, Nat.reduceLT, Nat.reduceEqDiff, reduceCtorEq, Int.reduceLT, Int.reduceEq, hs]
    rw [X_eq f42_0.eq_1]
    simp only [go_sem, Nat.reduceLT, Nat.reduceEqDiff, reduceCtorEq, Int.reduceLT, Int.reduceEq, hs, e0, e1, ld_p0 hlb1, c9]
    refine XO_yield (id := N + 7) (by simp only [go_sem, Nat.reduceLT, Nat.reduceEqDiff, reduceCtorEq, Int.reduceLT, Int.reduceEq, hs]) (by simp only [List.map, go_sem, Nat.reduceLT, Nat.reduceEqDiff, reduceCtorEq, Int.reduceLT, Int.reduceEq, hs]; exact n2) ?_
    by_cases d0 : k = 0
    · subst d0
      have dz : ((0 : Nat) : Int) = 0 := rfl
      simp only [go_sem, Nat.reduceLT, Nat.reduceEqDiff, reduceCtorEq, Int.reduceLT, Int.reduceEq, hs, dz]
      refine hQ _ g2 ?_ hp2
      rw [hgr, if_pos (.inl rfl)]; exact L2
    · have d0' : ¬ ((k : Nat) : Int) = 0 := by omega
      by_cases d1 : k = kvr.length
      · have d1' : ((k : Nat) : Int) = (els.length : Int) := by omega
        simp only [go_sem, Nat.reduceLT, Nat.reduceEqDiff, reduceCtorEq, Int.reduceLT, Int.reduceEq, hs, eq_false d0', e1, ld_p0 hlb2, vz2.vf.ln, eq_true d1']
        refine hQ _ g2 ?_ hp2
        rw [hgr, if_pos (.inr d1)]; exact L2
      · have d1' : ¬ ((k : Nat) : Int) = (els.length : Int) := by omega
        obtain ⟨w', c', vz'⟩ := vz2.from_ (k := .i64) (n := k) (by omega)
        have stb := st_1 (v := w') vz'.cellv hlb2 (show 0 < 1 by decide)
        simp only [List.set_cons_zero] at stb
        have kz3 := KZ.setBox g2 hlb2 (.box [w'] false)
        simp only [go_sem, Nat.reduceLT, Nat.reduceEqDiff, reduceCtorEq, Int.reduceLT, Int.reduceEq, hs, eq_false d0', e1, ld_p0 hlb2, vz2.vf.ln, eq_false d1', c', stb]
        refine ih (kvr.drop k) (els.drop k) w' (gs ++ [kvr.take k]) _ _ Q (by rw [List.length_drop]; omega) (vz'.kz kz3).vf (.inr (vz'.kz kz3)) (drop_rows hR k) (L2.setLb htb hlb2 _) ?_ (List.getElem?_set_self (lt_at hlb2)) (by simp only [slot_len, hs]) (by simp only [go_sem, Nat.reduceLT, Nat.reduceEqDiff, reduceCtorEq, Int.reduceLT, Int.reduceEq, e0]) (by simp only [go_sem, Nat.reduceLT, Nat.reduceEqDiff, reduceCtorEq, Int.reduceLT, Int.reduceEq, e1]) ?_ ?_ (fun s' g' a1 a2 => hQ s' g' ?_ a2)
        · rw [List.getElem?_set_ne (by omega)]; exact hp2
        · rw [List.length_append, List.length_singleton, List.length_drop]; omega
        · rw [sumL_snoc, List.length_drop]; omega
        · rw [hgr, if_neg (by omega)]
          rw [List.append_assoc] at a1
          exact a1

theorem app_at {h l : Heap} {i : Nat} : (h ++ l)[h.length + i]? = l[i]? := by
  rw [List.getElem?_append_right (by omega), Nat.add_sub_cancel_left]

theorem RQ_cc {P : VV → Heap → Prop} {s : List VV} {h : Heap} {a b i j : Nat} {x y : VV} {fa fb : Bool} (ha : s.getD a .undef = .ptr i 0) (hb : s.getD b .undef = .ptr j 0) (hi : h[i]? = some (.box [x] fa)) (hj : h[j]? = some (.box [y] fb))
    (hP : P (.tup [x, y]) h) : RQ [.cell a false 1, .cell b false 1] P .ret ⟨s, h⟩ := by
  refine ⟨trivial, [x, y], ?_, hP⟩
  simp only [resAll, resOf, ha, hb, hi, hj, List.drop_zero]
  rfl

theorem level_f23 {h : Heap} {tb n : Nat} {u vp : VV} {els elsP : List (List CV)} {kv : List KV} {pg0 : List (List UInt8)} (hn : n ≤ 4) (hv : VF h 2 els u) (hR : RowsE els kv) (ht : h[tb]? = some (.box [vp] false)) (hP : BufG h 1 elsP vp) (hE : PgE elsP pg0)
    (hc1 : pg0.length + kv.length + 1 ≤ 1000000) : Ret F 23 [.ptr tb 0, vi .i64 n, u] h fun v g => ∃ va elsA vp' elsP', v = .tup [va, vb (decide (sumL (grp kv) = kv.length))] ∧ BufG g 2 elsA va ∧ RowsE elsA (aboveL pg0.length (grp kv)) ∧ g[tb]? = some (.box [vp'] false) ∧ BufG g 1 elsP' vp' ∧ PgE elsP' (pg0 ++ (grp kv).map (pageB n)) := by
  refine call_E (fn := f23) rfl ?_
  simp only [f23]
  generalize hs0 : ([.ptr tb 0, vi .i64 n, u] ++ List.replicate _ VV.undef : List VV) = s
  have hs : s.length = 63 := by rw [← hs0]; rfl
  have h0 : s.getD 0 .undef = .ptr tb 0 := by rw [← hs0]; rfl
  have h1 : s.getD 1 .undef = vi .i64 n := by rw [← hs0]; rfl
  have h2 : s.getD 2 .undef = u := by rw [← hs0]; rfl
  clear hs0
  have hl := hR.len
  have htb := lt_at ht
  simp only [go_sem, Nat.reduceLT, Nat.reduceEqDiff, reduceCtorEq, Int.reduceLT, Int.reduceEq, hs, h0, h1]
  rw [bx_1 rfl]
  simp only [go_sem, Nat.reduceLT, Nat.reduceEqDiff, reduceCtorEq, Int.reduceLT, Int.reduceEq, hs, h1]
  rw [bx_1 rfl]
  simp only [go_sem, Nat.reduceLT, Nat.reduceEqDiff, reduceCtorEq, Int.reduceLT, Int.reduceEq, hs, List.append_assoc, List.cons_append, List.nil_append, List.length_append, List.length_cons, List.length_nil]
  have e5 : ∀ l : Heap, (h ++ [VO.box [.ptr tb 0] false, .box [vi .i64 n] false, .box [nilS] false, .box [vb false] false, .box [nilS] false, .box [vi .i64 0] false])[h.length + 5]? = some (.box [vi .i64 0] false) := fun _ => app_at
  have st5 := st_1 (v := vi .i64 0) rfl (e5 []) (show 0 < 1 by decide)
  have set5 : (h ++ [VO.box [.ptr tb 0] false, .box [vi .i64 n] false, .box [nilS] false, .box [vb false] false, .box [nilS] false, .box [vi .i64 0] false]).set (h.length + 5) (.box [vi .i64 0] false) = h ++ [VO.box [.ptr tb 0] false, .box [vi .i64 n] false, .box [nilS] false, .box [vb false] false, .box [nilS] false, .box [vi .i64 0] false] := set_at_same (e5 [])
  simp only [List.set_cons_zero] at st5
  rw [set5] at st5
  simp only [go_sem, Nat.reduceLT, Nat.reduceEqDiff, reduceCtorEq, Int.reduceLT, Int.reduceEq, hs, Nat.zero_add, Nat.reduceAdd, st5, h2]
  have n31 : call F 31 [u] (h ++ [VO.box [.ptr tb 0] false, .box [vi .i64 n] false, .box [nilS] false, .box [vb false] false, .box [nilS] false, .box [vi .i64 0] false]) = some (.ret (.func 42 [.ptr (h.length + 6) 0]), h ++ [VO.box [.ptr tb 0] false, .box [vi .i64 n] false, .box [nilS] false, .box [vb false] false, .box [nilS] false, .box [vi .i64 0] false, .box [u] false]) := by
    have : Ret F 31 [u] (h ++ [VO.box [.ptr tb 0] false, .box [vi .i64 n] false, .box [nilS] false, .box [vb false] false, .box [nilS] false, .box [vi .i64 0] false]) fun v g => v = .func 42 [.ptr (h.length + 6) 0] ∧ g = h ++ [VO.box [.ptr tb 0] false, .box [vi .i64 n] false, .box [nilS] false, .box [vb false] false, .box [nilS] false, .box [vi .i64 0] false, .box [u] false] := by
      refine call_E (fn := f31) rfl ?_
      simp only [f31]
      generalize hs0 : ([u] ++ List.replicate _ VV.undef : List VV) = s
      have hs : s.length = 4 := by rw [← hs0]; rfl
      have h0 : s.getD 0 .undef = u := by rw [← hs0]; rfl
      clear hs0
      simp only [go_sem, Nat.reduceLT, Nat.reduceEqDiff, reduceCtorEq, Int.reduceLT, Int.reduceEq, hs, h0]
      rw [bx_1 hv.cellv]
      simp only [go_sem, Nat.reduceLT, Nat.reduceEqDiff, reduceCtorEq, Int.reduceLT, Int.reduceEq, hs, List.append_assoc, List.cons_append, List.nil_append, List.length_append, List.length_cons, List.length_nil, Nat.zero_add, Nat.reduceAdd, List.map]
      exact ⟨trivial, trivial⟩
    obtain ⟨v, h', e1, rfl, rfl⟩ := this
    exact e1
  refine XO_callR (by simp only [List.map, go_sem, Nat.reduceLT, Nat.reduceEqDiff, reduceCtorEq, Int.reduceLT, Int.reduceEq, hs]; exact n31) ?_
  simp only [go_sem, Nat.reduceLT, Nat.reduceEqDiff, reduceCtorEq, Int.reduceLT, Int.reduceEq, hs]
  generalize hN : h.length = N at *
  generalize hs1 : (((((((s.set 3 (VV.ptr N 0)).set 4 (.ptr (N + 1) 0)).set 6 (.ptr (N + 2) 0)).set 7 (.ptr (N + 3) 0)).set 8 (.ptr (N + 4) 0)).set 9 (.ptr (N + 5) 0)).set 14 u).set 15 (.func 42 [.ptr (N + 6) 0]) = s1
  have a0 : s1.length = 63 := by rw [← hs1]; simp only [slot_len, hs]
  have a2 : s1.getD 2 .undef = u := by rw [← hs1]; simp only [go_sem, Nat.reduceLT, Nat.reduceEqDiff, reduceCtorEq, Int.reduceLT, Int.reduceEq, h2]
  have a3 : s1.getD 3 .undef = .ptr N 0 := by rw [← hs1]; simp only [go_sem, Nat.reduceLT, Nat.reduceEqDiff, reduceCtorEq, Int.reduceLT, Int.reduceEq, hs]
  have a4 : s1.getD 4 .undef = .ptr (N + 1) 0 := by rw [← hs1]; simp only [go_sem, Nat.reduceLT, Nat.reduceEqDiff, reduceCtorEq, Int.reduceLT, Int.reduceEq, hs]
  have a6 : s1.getD 6 .undef = .ptr (N + 2) 0 := by rw [← hs1]; simp only [go_sem, Nat.reduceLT, Nat.reduceEqDiff, reduceCtorEq, Int.reduceLT, Int.reduceEq, hs]
  have a7 : s1.getD 7 .undef = .ptr (N + 3) 0 := by rw [← hs1]; simp only [go_sem, Nat.reduceLT, Nat.reduceEqDiff, reduceCtorEq, Int.reduceLT, Int.reduceEq, hs]
  have a8 : s1.getD 8 .undef = .ptr (N + 4) 0 := by rw [← hs1]; simp only [go_sem, Nat.reduceLT, Nat.reduceEqDiff, reduceCtorEq, Int.reduceLT, Int.reduceEq, hs]
  have a9 : s1.getD 9 .undef = .ptr (N + 5) 0 := by rw [← hs1]; simp only [go_sem, Nat.reduceLT, Nat.reduceEqDiff, reduceCtorEq, Int.reduceLT, Int.reduceEq, hs]
  have a15 : s1.getD 15 .undef = .func 42 [.ptr (N + 6) 0] := by rw [← hs1]; simp only [go_sem, Nat.reduceLT, Nat.reduceEqDiff, reduceCtorEq, Int.reduceLT, Int.reduceEq, hs]
  generalize hg1 : h ++ [VO.box [.ptr tb 0] false, .box [vi .i64 n] false, .box [nilS] false, .box [vb false] false, .box [nilS] false, .box [vi .i64 0] false, .box [u] false] = g1
  have gl : g1.length = N + 7 := by rw [← hg1, List.length_append, hN]; rfl
  have gat : ∀ i o, [VO.box [.ptr tb 0] false, .box [vi .i64 n] false, .box [nilS] false, .box [vb false] false, .box [nilS] false, .box [vi .i64 0] false, .box [u] false][i]? = some o → g1[N + i]? = some o := by
    intro i o ho
    rw [← hg1, ← hN, app_at]; exact ho
  have x1 : HExt h g1 := by rw [← hg1]; exact ⟨by simp, fun j hj => by rw [List.getElem?_append_left hj]⟩
  have x2 := x1.then (.loop [16] f23_0 f23_3 s1 .ready none)
  have g2at : ∀ i o, g1[i]? = some o → (g1 ++ [.loop [16] f23_0 f23_3 s1 .ready none])[i]? = some o := fun i o ho => by rw [List.getElem?_append_left (lt_at ho)]; exact ho
  have hloop : (g1 ++ [.loop [16] f23_0 f23_3 s1 .ready none])[N + 7]? = some (.loop [16] f23_0 f23_3 s1 .ready none) := by rw [← gl]; exact at_last
  have L0 : LvB tb N n pg0 (g1 ++ [.loop [16] f23_0 f23_3 s1 .ready none]) [] :=
    ⟨g2at _ _ (gat 0 _ rfl), g2at _ _ (gat 1 _ rfl), g2at _ _ (gat 2 _ rfl), g2at _ _ (gat 3 _ rfl), ⟨nilS, [], g2at _ _ (gat 4 _ rfl), BufG.nil _ _, .nil⟩, g2at _ _ (gat 5 _ rfl), ⟨vp, elsP, x2.get ht, hP.hext x2, by simpa using hE⟩⟩
  have iter : Ret F 42 [.yield (N + 7), .ptr (N + 6) 0] (g1 ++ [.loop [16] f23_0 f23_3 s1 .ready none]) fun v g' => LvB tb N n pg0 g' (grp kv) ∧ g'[N + 7]? = some (.loop [16] f23_0 f23_3 s1 .ready none) := by
    refine call_E (fn := f42) rfl ?_
    simp only [f42]
    generalize hs0 : ([.yield (N + 7), .ptr (N + 6) 0] ++ List.replicate _ VV.undef : List VV) = s
    have hs : s.length = 25 := by rw [← hs0]; rfl
    have h0 : s.getD 0 .undef = .yield (N + 7) := by rw [← hs0]; rfl
    have h1 : s.getD 1 .undef = .ptr (N + 6) 0 := by rw [← hs0]; rfl
    clear hs0
    simp only [go_sem, Nat.reduceLT, Nat.reduceEqDiff, reduceCtorEq, Int.reduceLT, Int.reduceEq]
    refine f42_loop htb hn a0 a3 a4 a6 a7 a8 a9 (kv.length + 1) kv els u [] _ _ _ (by omega) (hv.ext x2) (.inl rfl) hR L0 hloop (g2at _ _ (gat 6 _ rfl)) (by simp only [slot_len, hs]) h0 h1 (by simp; omega) (by simp [sumL]; omega) (fun s' g' b1 b2 => ?_)
    simp only [go_sem, Nat.reduceLT, Nat.reduceEqDiff, reduceCtorEq, Int.reduceLT, Int.reduceEq]
    exact ⟨by simpa [grp] using b1, b2⟩
  obtain ⟨v42, g3, n42, L3, hp3⟩ := iter
  refine X_rangeF (f := 42) (caps := [.ptr (N + 6) 0]) (t := .ready) (p := none) a15 (by rw [gl]; exact n42) (by rw [gl]; exact hp3) (by intro e; cases e) ?_
  rw [gl]
  have hb7 : N + 7 < g3.length := lt_at hp3
  have L4 := L3.loop htb hp3 (.loop [16] f23_0 f23_3 s1 .exhausted none)
  generalize g3.set (N + 7) (.loop [16] f23_0 f23_3 s1 .exhausted none) = g4 at L4
  obtain ⟨va, elsA, b1, b2, b3⟩ := L4.i8
  obtain ⟨vp', elsP', c1, c2, c3⟩ := L4.it
  have hk9 := L4.i9
  have hk6 := L4.i6
  have hk7 := L4.i7
  simp only [go_sem, Nat.reduceLT, Nat.reduceEqDiff, reduceCtorEq, Int.reduceLT, Int.reduceEq, outOf]
  refine X_drawA 6 (fun g => g[N + 5]? = some (.box [vi .i64 (sumL (grp kv) : Nat)] false)) hk9 rfl rfl ?_
  simp only [List.take_succ_cons, List.take_zero]
  refine XDA_req (v := va) rfl (by rw [st_ldq]; simp only [go_sem, Nat.reduceLT, Nat.reduceEqDiff, reduceCtorEq, Int.reduceLT, Int.reduceEq, a0, a8]; exact ld_ptr b1 rfl) ?_
  refine XDA_r (v := vi .i64 (sumL (grp kv) : Nat)) rfl hk9 (fun g hg => by rw [st_ldq]; simp only [go_sem, Nat.reduceLT, Nat.reduceEqDiff, reduceCtorEq, Int.reduceLT, Int.reduceEq, a0, a9]; exact ld_ptr hg rfl) ?_
  refine XDA_p (v := u) rfl (by simp only [stepI]; simp only [go_sem, Nat.reduceLT, Nat.reduceEqDiff, reduceCtorEq, Int.reduceLT, Int.reduceEq, a0, a2]) ?_
  refine XDA_p (v := vi .i64 els.length) rfl (by rw [st_len]; simp only [go_sem, Nat.reduceLT, Nat.reduceEqDiff, reduceCtorEq, Int.reduceLT, Int.reduceEq, a0]; rw [hv.ln]; rfl) ?_
  refine XDA_p (v := vb (decide (sumL (grp kv) = kv.length))) rfl (by rw [st_bin]; simp only [go_sem, Nat.reduceLT, Nat.reduceEqDiff, reduceCtorEq, Int.reduceLT, Int.reduceEq, a0]; rw [← hl]; simp only [go_sem, Nat.reduceLT, Nat.reduceEqDiff, reduceCtorEq, Int.reduceLT, Int.reduceEq, Int.ofNat_inj]) ?_
  have s6 := st_1 (v := va) b2.vf_cell hk6 (show 0 < 1 by decide)
  simp only [List.set_cons_zero] at s6
  refine XDA_k (v := .undef) (h' := g4.set (N + 2) (.box [va] false)) rfl (by show stO _ 1 _ _ = _; simp only [go_sem, Nat.reduceLT, Nat.reduceEqDiff, reduceCtorEq, Int.reduceLT, Int.reduceEq, a0, a6]; exact s6) (by rw [List.getElem?_set_ne (by omega)]; exact hk9) ?_
  simp only [XDA, List.drop_succ_cons, List.drop_zero, putD_none, putD_some]
  have s7 := st_1 (h := g4.set (N + 2) (.box [va] false)) (v := vb (decide (sumL (grp kv) = kv.length))) rfl (by rw [List.getElem?_set_ne (show N + 2 ≠ N + 3 by omega)]; exact hk7) (show 0 < 1 by decide)
  simp only [List.set_cons_zero] at s7
  simp only [go_sem, Nat.reduceLT, Nat.reduceEqDiff, reduceCtorEq, Int.reduceLT, Int.reduceEq, a0, a7, s7]
  have lt6 := lt_at hk6
  have lt7 := lt_at hk7
  refine RQ_cc (i := N + 2) (j := N + 3) (x := va) (y := vb (decide (sumL (grp kv) = kv.length))) (by simp only [go_sem, Nat.reduceLT, Nat.reduceEqDiff, reduceCtorEq, Int.reduceLT, Int.reduceEq, a6]) (by simp only [go_sem, Nat.reduceLT, Nat.reduceEqDiff, reduceCtorEq, Int.reduceLT, Int.reduceEq, a7]) (by rw [List.getElem?_set_ne (by omega)]; exact List.getElem?_set_self lt6) (List.getElem?_set_self (by rw [List.length_set]; exact lt7)) ?_
  refine ⟨va, elsA, vp', elsP', rfl, ((b2.setBox hk6 _).setBox (by rw [List.getElem?_set_ne (by omega)]; exact hk7) _), b3, ?_, ((c2.setBox hk6 _).setBox (by rw [List.getElem?_set_ne (by omega)]; exact hk7) _), c3⟩
  rw [List.getElem?_set_ne (by omega), List.getElem?_set_ne (by omega)]
  exact c1
end Go.V06

set_option linter.unusedSimpArgs false
set_option linter.unusedVariables false
namespace Go.V06
open Go Go.Vm

theorem groupsL_len : ∀ (m : Nat) (l : List KV), (groupsL m l).length ≤ l.length + 1
  | 0, _ => by simp [groupsL]
  | m + 1, l => by
    have hf := fitF_le l 0
    rw [groupsL]
    by_cases h : fitF 0 l = 0 ∨ fitF 0 l = l.length
    · rw [if_pos h]; simp
    · rw [if_neg h, List.length_cons]
      have := groupsL_len m (l.drop (fitF 0 l))
      rw [List.length_drop] at this
      omega
theorem grp_len (l : List KV) : (grp l).length ≤ l.length + 1 := groupsL_len _ l

def bldF : Nat → Nat → List (List UInt8) → List KV → Option (List (List UInt8))
  | 0, _, _, _ => none
  | f + 1, n, pg, l => if sumL (grp l) = l.length then (if (grp l).length = 1 then some (pg ++ (grp l).map (pageB n)) else bldF f (n + 1) (pg ++ (grp l).map (pageB n)) (aboveL pg.length (grp l))) else none
def buildF (l : List KV) : Option (List (List UInt8)) := if risingF l = true ∧ l.length ≤ 5000 then bldF 5 0 [] l else none

theorem f13_loop {tb : Nat} : ∀ (f n : Nat) (pg : List (List UInt8)) (l : List KV) (els elsP : List (List CV)) (u vp : VV) (s : List VV) (h : Heap) (Q : Pst), n + f = 5 → VF h 2 els u → RowsE els l → h[tb]? = some (.box [vp] false) → BufG h 1 elsP vp → PgE elsP pg →
    s.length = 41 → s.getD 0 .undef = u → s.getD 4 .undef = .ptr tb 0 → s.getD 5 .undef = vi .i64 n → l.length ≤ 5000 + n → pg.length ≤ n * 5010 →
    (bldF f n pg l = none → ∀ s' h', s'.length = 41 → Q (.exit 0) ⟨s', h'⟩) → (∀ pg' s' h' vp' elsP', bldF f n pg l = some pg' → s'.length = 41 → s'.getD 2 .undef = vp' → s'.getD 3 .undef = vb true → BufG h' 1 elsP' vp' → PgE elsP' pg' → Q .ret ⟨s', h'⟩) → X F (.loop f13_1) ⟨s, h⟩ Q := by
  intro f
  induction f with
  | zero =>
    intro n pg l els elsP u vp s h Q hn hv hR ht hP hE hs e0 e4 e5 hb1 hb2 hN hS
    have c : ¬ ((n : Nat) : Int) ≤ 4 := by omega
    rw [X_loop, X_eq f13_1.eq_1]
    simp only [go_sem, Nat.reduceLT, Nat.reduceEqDiff, reduceCtorEq, Int.reduceLT, Int.reduceEq, hs, e5, c]
    exact hN rfl _ _ (by simp only [slot_len, hs])
  | succ f ih =>
    intro n pg l els elsP u vp s h Q hn hv hR ht hP hE hs e0 e4 e5 hb1 hb2 hN hS
    have c : ((n : Nat) : Int) ≤ 4 := by omega
    have hn4 : n * 5010 ≤ 20040 := by omega
    obtain ⟨v, g, n23, va, elsA, vp', elsP', rfl, q1, q2, q3, q4, q5⟩ := level_f23 (n := n) (by omega) hv hR ht hP hE (by omega)
    have hg := grp_len l
    have hA := q2.len
    rw [aboveL_len] at hA
    rw [X_loop, X_eq f13_1.eq_1]
    simp only [go_sem, Nat.reduceLT, Nat.reduceEqDiff, reduceCtorEq, Int.reduceLT, Int.reduceEq, hs, e5, c, e4, e0]
    refine XO_callR (by simp only [List.map, go_sem, Nat.reduceLT, Nat.reduceEqDiff, reduceCtorEq, Int.reduceLT, Int.reduceEq, hs, e4, e5, e0]; exact n23) ?_
    simp only [bldF] at hN hS
    by_cases d : sumL (grp l) = l.length
    · simp only [eq_true d, if_true] at hN hS
      by_cases d1 : (grp l).length = 1
      · simp only [eq_true d1, if_true] at hN hS
        have d1' : ((elsA.length : Nat) : Int) = 1 := by omega
        simp only [go_sem, Nat.reduceLT, Nat.reduceEqDiff, reduceCtorEq, Int.reduceLT, Int.reduceEq, hs, d, q1.lnO', d1', e4, ld_p0 q3]
        refine hS _ _ _ _ _ rfl (by simp only [slot_len, hs]) (by simp only [go_sem, Nat.reduceLT, Nat.reduceEqDiff, reduceCtorEq, Int.reduceLT, Int.reduceEq, hs]) (by simp only [go_sem, Nat.reduceLT, Nat.reduceEqDiff, reduceCtorEq, Int.reduceLT, Int.reduceEq, hs]) q4 q5
      · simp only [eq_false d1, if_false] at hN hS
        have d1' : ¬ ((elsA.length : Nat) : Int) = 1 := by omega
        have hw : IntKind.i64.wrap (((n : Nat) : Int) + 1) = ((n + 1 : Nat) : Int) := by rw [IntWalk.i64_in _ (by omega)]; omega
        simp only [go_sem, Nat.reduceLT, Nat.reduceEqDiff, reduceCtorEq, Int.reduceLT, Int.reduceEq, hs, d, q1.lnO', d1', e5, hw]
        refine ih (n + 1) _ _ elsA elsP' va vp' _ _ Q (by omega) q1.vf q2 q3 q4 q5 (by simp only [slot_len, hs]) (by simp only [go_sem, Nat.reduceLT, Nat.reduceEqDiff, reduceCtorEq, Int.reduceLT, Int.reduceEq, hs]) (by simp only [go_sem, Nat.reduceLT, Nat.reduceEqDiff, reduceCtorEq, Int.reduceLT, Int.reduceEq, e4]) (by simp only [go_sem, Nat.reduceLT, Nat.reduceEqDiff, reduceCtorEq, Int.reduceLT, Int.reduceEq, hs]) (by rw [aboveL_len]; omega) ?_ hN hS
        rw [List.length_append, List.length_map]; omega
    · simp only [eq_false d, if_false] at hN hS
      simp only [go_sem, Nat.reduceLT, Nat.reduceEqDiff, reduceCtorEq, Int.reduceLT, Int.reduceEq, hs, d]
      exact hN trivial _ _ (by simp only [slot_len, hs])

theorem build_f13 {u : VV} {els : List (List CV)} {l : List KV} (hS : SlV 2 els u) (hR : RowsE els l) (hl : l.length ≤ 9223372036854775807) : Ret F 13 [u] [] fun v g => match buildF l with
    | none => v = .tup [nilS, vb false]
    | some pg => ∃ vp elsP, v = .tup [vp, vb true] ∧ BufG g 1 elsP vp ∧ PgE elsP pg := by
  refine call_E (fn := f13) rfl ?_
  simp only [f13]
  generalize hs0 : ([u] ++ List.replicate _ VV.undef : List VV) = s
  have hs : s.length = 41 := by rw [← hs0]; rfl
  have h0 : s.getD 0 .undef = u := by rw [← hs0]; rfl
  clear hs0
  obtain ⟨h15, n15⟩ := rising_f15 hS hR hl
  have hlen := hR.len
  have hcl : closAs ([] : Heap) [u] = some ([u], []) := closAs_cons (by rcases hS with ⟨rfl, _⟩ | ⟨_, rfl⟩ <;> rfl) rfl
  simp only [go_sem, Nat.reduceLT, Nat.reduceEqDiff, reduceCtorEq, Int.reduceLT, Int.reduceEq, hs]
  rw [X_eq f13_2.eq_1]
  simp only [go_sem, Nat.reduceLT, Nat.reduceEqDiff, reduceCtorEq, Int.reduceLT, Int.reduceEq, hs]
  rw [X_eq f13_0.eq_1]
  simp only [go_sem, Nat.reduceLT, Nat.reduceEqDiff, reduceCtorEq, Int.reduceLT, Int.reduceEq, hs, h0]
  refine XO_callP (h1 := []) (by simp only [List.map, go_sem, Nat.reduceLT, Nat.reduceEqDiff, reduceCtorEq, Int.reduceLT, Int.reduceEq, hs, h0]; exact hcl) n15 rfl ?_
  cases hr : risingF l with
  | false =>
    have : buildF l = none := by unfold buildF; rw [if_neg (by rw [hr]; simp)]
    rw [this]
    simp only [go_sem, Nat.reduceLT, Nat.reduceEqDiff, reduceCtorEq, Int.reduceLT, Int.reduceEq, hs]
  | true =>
    by_cases d : l.length ≤ 5000
    · have hb : buildF l = bldF 5 0 [] l := by unfold buildF; rw [if_pos ⟨hr, d⟩]
      rw [hb]
      have d' : ¬ ((els.length : Nat) : Int) > 5000 := by omega
      simp only [go_sem, Nat.reduceLT, Nat.reduceEqDiff, reduceCtorEq, Int.reduceLT, Int.reduceEq, hs, hS.ln, d', h0]
      have bxa : bxO [] 1 (VV.agg [VV.cv (CV.sc (Value.slice none 0 0))]) = some (.ptr 0 0, [.box [nilS] false]) := rfl
      simp only [go_sem, Nat.reduceLT, Nat.reduceEqDiff, reduceCtorEq, Int.reduceLT, Int.reduceEq, hs, bxa]
      refine f13_loop (tb := 0) 5 0 [] l els [] u nilS _ _ _ rfl (.inl hS) hR rfl (BufG.nil _ _) .nil (by simp only [slot_len, hs]) (by simp only [go_sem, Nat.reduceLT, Nat.reduceEqDiff, reduceCtorEq, Int.reduceLT, Int.reduceEq, h0]) (by simp only [go_sem, Nat.reduceLT, Nat.reduceEqDiff, reduceCtorEq, Int.reduceLT, Int.reduceEq, hs]) (by simp only [go_sem, Nat.reduceLT, Nat.reduceEqDiff, reduceCtorEq, Int.reduceLT, Int.reduceEq, hs]; rfl) (by omega) (by simp) (fun hn s' h' a1 => ?_) (fun pg' s' h' vp' elsP' hsome a0 a1 a2 a3 a4 => ?_)
      · rw [hn]
        simp only [go_sem, Nat.reduceLT, Nat.reduceEqDiff, reduceCtorEq, Int.reduceLT, Int.reduceEq, a1]
      · rw [hsome]
        simp only [go_sem, Nat.reduceLT, Nat.reduceEqDiff, reduceCtorEq, Int.reduceLT, Int.reduceEq, a0, a1, a2]
        exact ⟨vp', elsP', rfl, a3, a4⟩
    · have d' : ((els.length : Nat) : Int) > 5000 := by omega
      have : buildF l = none := by unfold buildF; rw [if_neg (by omega)]
      rw [this]
      simp only [go_sem, Nat.reduceLT, Nat.reduceEqDiff, reduceCtorEq, Int.reduceLT, Int.reduceEq, hs, hS.ln, d', h0]
end Go.V06

set_option linter.unusedSimpArgs false
set_option linter.unusedVariables false
namespace Go.V06
open Go Go.Vm

theorem mid {a b : IR} {st : St} {Q : Pst} {P : St → Prop} (h1 : X F a st fun o st' => o = .norm ∧ P st') (h2 : ∀ st', P st' → X F b st' Q) : X F a st (K F b Q) := by
  obtain ⟨o, st', e, rfl, hP⟩ := h1
  exact ⟨.norm, st', e, h2 st' hP⟩
theorem seq_mid {a b : IR} {st : St} {Q : Pst} {P : St → Prop} (h1 : X F a st fun o st' => o = .norm ∧ P st') (h2 : ∀ st', P st' → X F b st' Q) : X F (.seq a b) st Q := by
  obtain ⟨o, st', e, rfl, hP⟩ := h1
  exact X_seq.mpr ⟨.norm, st', e, h2 st' hP⟩

theorem sumL_cons (g : List KV) (gs : List (List KV)) : sumL (g :: gs) = g.length + sumL gs := by simp [sumL]

theorem f30_exit {s : List VV} {h : Heap} {Q : Pst} {u vp : VV} {elsP : List (List CV)} (hs : s.length = 69) (e2 : s.getD 2 .undef = u) (e9 : s.getD 9 .undef = vp) (hu : SlV 2 [] u) (hP : BufG h 1 elsP vp) (hne : 0 < elsP.length)
    (hQ : ∀ s', s'.length = 69 → s'.getD 9 .undef = s.getD 9 .undef → s'.getD 10 .undef = s.getD 10 .undef → Q (.exit 0) ⟨s', h⟩) : X F (.loop f30_2) ⟨s, h⟩ Q := by
  have c1 : ¬ ((([] : List (List CV)).length : Nat) : Int) > 0 := by simp
  have c2 : ¬ ((elsP.length : Nat) : Int) = 0 := by omega
  rw [X_loop, X_eq f30_2.eq_1]
  simp only [go_sem, Nat.reduceLT, Nat.reduceEqDiff, reduceCtorEq, Int.reduceLT, Int.reduceEq, hs, e2, hu.ln, c1, e9, hP.lnO', c2]
  exact hQ _ (by simp only [slot_len, hs]) (by simp only [go_sem, Nat.reduceLT, Nat.reduceEqDiff, reduceCtorEq, Int.reduceLT, Int.reduceEq, hs, e9]) (by simp only [go_sem, Nat.reduceLT, Nat.reduceEqDiff, reduceCtorEq, Int.reduceLT, Int.reduceEq])

theorem f30_loop {n from_ : Nat} (hn : n ≤ 4) (hf : from_ ≤ 1000000) : ∀ (m : Nat) (l : List KV) (els elsA elsP : List (List CV)) (gs : List (List KV)) (u va vp : VV) (s : List VV) (h : Heap) (Q : Pst), l.length < m → (gs = [] ∨ l ≠ []) → SlV 2 els u → RowsE els l → BufG h 2 elsA va → RowsE elsA (aboveL from_ gs) → BufG h 1 elsP vp → PgE elsP (gs.map (pageB n)) →
    s.length = 69 → s.getD 0 .undef = vi .i64 n → s.getD 1 .undef = vi .i64 from_ → s.getD 2 .undef = u → s.getD 9 .undef = vp → s.getD 10 .undef = va → gs.length + l.length ≤ 1000000 →
    (sumL (groupsL m l) = l.length → ∀ s' h' vp va elsP elsA, s'.length = 69 → s'.getD 9 .undef = vp → s'.getD 10 .undef = va → BufG h' 1 elsP vp → PgE elsP ((gs ++ groupsL m l).map (pageB n)) → BufG h' 2 elsA va → RowsE elsA (aboveL from_ (gs ++ groupsL m l)) → Q (.exit 0) ⟨s', h'⟩) →
    (sumL (groupsL m l) ≠ l.length → ∀ s' h', s'.length = 69 → s'.getD 6 .undef = nilS → s'.getD 7 .undef = nilS → s'.getD 8 .undef = vb false → Q .ret ⟨s', h'⟩) → X F (.loop f30_2) ⟨s, h⟩ Q := by
  intro m
  induction m with
  | zero => intro l els elsA elsP gs u va vp s h Q hm; omega
  | succ m ih =>
    intro l els elsA elsP gs u va vp s h Q hm hen hu hR hA hRA hP hE hs e0 e1 e2 e9 e10 hb hS hN
    have hl := hR.len
    have hpl := hE.len
    rw [List.length_map] at hpl
    have hAl := hRA.len
    rw [aboveL_len] at hAl
    obtain ⟨h39, n39⟩ := rfit_f39 hu hR (by omega)
    have hfl := fitF_le l 0
    have htk := fitF_take l 0
    have hgr : groupsL (m + 1) l = l.take (fitF 0 l) :: (if fitF 0 l = 0 ∨ fitF 0 l = l.length then [] else groupsL m (l.drop (fitF 0 l))) := rfl
    generalize hk : fitF 0 l = k at *
    have hlt : (l.take k).length = k := by rw [List.length_take]; omega
    obtain ⟨w, hw1, hw2⟩ := hu.upto (h := h) (k := .i64) (b := (k : Int)) (by omega) (by omega)
    rw [Int.toNat_natCast] at hw1
    obtain ⟨v40, h40, n40, P40⟩ := rencode_f40 [] (n : Int) hw1 (take_rows hR k) (by rw [hlt]; omega)
    obtain ⟨y, r40, hy⟩ := P40.pure
    rw [encF_fit hn (by rw [htk, hlt])] at r40 hy
    have hy' := hy _ rfl
    obtain ⟨cy, rfl⟩ : ∃ cy, y = .cv cy := by rcases hy' with ⟨rfl, _⟩ | ⟨ex, rfl⟩ <;> exact ⟨_, rfl⟩
    obtain ⟨v41, h41, n41, r41⟩ := rnum_pure ((from_ + gs.length : Nat) : Int)
    have hclu : closAs h [u] = some ([u], h) := hu.clos rfl
    have hclw : closAs h [vi .i64 n, w] = some ([vi .i64 n, w], h) := clos_cv (hw1.clos rfl)
    have hbd : ∀ (c : CV) (k : List UInt8), bdO [.cv (.sc (.string ⟨#[]⟩)), .cv (.sc (.slice none 0 0))] [(0, 1, txt k), (1, 1, .cv c)] = some (.agg [txt k, .cv c]) := fun c k => rfl
    have hmk2 : ∀ (h : Heap) (k : List UInt8) (c : CV), mkO h 2 1 [.cv (.sc (.string ⟨#[]⟩)), .cv (.sc (.slice none 0 0))] [(0, 2, .agg [txt k, .cv c])] = some (.cv (.sl 2 [[.sc (.string ⟨k.toArray⟩), c]] true), h) := fun h k c => mk_agg2
    have hmk1 : ∀ (h : Heap), mkO h 1 1 [.cv (.sc (.slice none 0 0))] [(0, 1, .cv cy)] = some (.cv (.sl 1 [[cy]] true), h) := fun h => rfl
    rw [X_loop, X_eq f30_2.eq_1]
    refine seq_mid (P := fun st => st.h = h ∧ st.s.length = 69 ∧ st.s.getD 0 .undef = vi .i64 n ∧ st.s.getD 1 .undef = vi .i64 from_ ∧ st.s.getD 2 .undef = u ∧ st.s.getD 9 .undef = vp ∧ st.s.getD 10 .undef = va) ?_ ?_
    · by_cases c : ((els.length : Nat) : Int) > 0
      · simp only [go_sem, Nat.reduceLT, Nat.reduceEqDiff, reduceCtorEq, Int.reduceLT, Int.reduceEq, hs, e2, hu.ln, c, e0, e1, e9, e10, true_and, and_self]
      · have c2 : ((elsP.length : Nat) : Int) = 0 := by
          rcases hen with rfl | hen
          · simp only [List.length_nil] at hpl; omega
          · have := List.length_pos_iff.mpr hen; omega
        simp only [go_sem, Nat.reduceLT, Nat.reduceEqDiff, reduceCtorEq, Int.reduceLT, Int.reduceEq, hs, e2, hu.ln, c, e0, e1, e9, e10, hP.lnO', c2, true_and, and_self]
    rintro ⟨s1, h1⟩ ⟨rfl, hs, e0, e1, e2, e9, e10⟩
    simp only [go_sem, Nat.reduceLT, Nat.reduceEqDiff, reduceCtorEq, Int.reduceLT, Int.reduceEq, hs, e2]
    refine XO_callP (h1 := h1) (by simp only [List.map, go_sem, Nat.reduceLT, Nat.reduceEqDiff, reduceCtorEq, Int.reduceLT, Int.reduceEq, hs, e2]; exact hclu) n39 rfl ?_
    simp only [go_sem, Nat.reduceLT, Nat.reduceEqDiff, reduceCtorEq, Int.reduceLT, Int.reduceEq, hs, e0, e2, hw2]
    refine XO_callP (h1 := h1) (by simp only [List.map, go_sem, Nat.reduceLT, Nat.reduceEqDiff, reduceCtorEq, Int.reduceLT, Int.reduceEq, hs, e2, e0]; exact hclw) n40 r40 ?_
    simp only [go_sem, Nat.reduceLT, Nat.reduceEqDiff, reduceCtorEq, Int.reduceLT, Int.reduceEq, hs, Option.isSome_some]
    rw [X_eq f30_0.eq_1]
    by_cases ck : k = 0 ∧ 0 < l.length
    · have c1 : ((k : Nat) : Int) = 0 := by omega
      have c2 : ((els.length : Nat) : Int) > 0 := by omega
      simp only [go_sem, Nat.reduceLT, Nat.reduceEqDiff, reduceCtorEq, Int.reduceLT, Int.reduceEq, hs, c1, e2, hu.ln, c2]
      refine hN ?_ _ _ (by simp only [slot_len, hs]) (by simp only [go_sem, Nat.reduceLT, Nat.reduceEqDiff, reduceCtorEq, Int.reduceLT, Int.reduceEq, hs]) (by simp only [go_sem, Nat.reduceLT, Nat.reduceEqDiff, reduceCtorEq, Int.reduceLT, Int.reduceEq, hs]) (by simp only [go_sem, Nat.reduceLT, Nat.reduceEqDiff, reduceCtorEq, Int.reduceLT, Int.reduceEq, hs])
      rw [hgr, if_pos (.inl ck.1)]
      simp only [sumL, List.map_cons, List.map_nil, List.sum_cons, List.sum_nil, hlt]
      omega
    · refine mid (P := fun st => st.h = h1 ∧ st.s.length = 69 ∧ st.s.getD 0 .undef = vi .i64 n ∧ st.s.getD 1 .undef = vi .i64 from_ ∧ st.s.getD 2 .undef = u ∧ st.s.getD 9 .undef = vp ∧ st.s.getD 10 .undef = va ∧ st.s.getD 11 .undef = vi .i64 k ∧ st.s.getD 12 .undef = .cv cy) ?_ ?_
      · by_cases c1 : k = 0
        · have c3 : ((k : Nat) : Int) = 0 := by omega
          have c2 : ¬ ((els.length : Nat) : Int) > 0 := by omega
          simp only [go_sem, Nat.reduceLT, Nat.reduceEqDiff, reduceCtorEq, Int.reduceLT, Int.reduceEq, hs, c3, e2, hu.ln, c2, e0, e1, e9, e10, true_and, and_self]
        · have c3 : ¬ ((k : Nat) : Int) = 0 := by omega
          simp only [go_sem, Nat.reduceLT, Nat.reduceEqDiff, reduceCtorEq, Int.reduceLT, Int.reduceEq, hs, c3, e2, hu.ln, e0, e1, e9, e10, true_and, and_self]
      rintro ⟨s2, h2⟩ ⟨rfl, hs, e0, e1, e2, e9, e10, e11, e12⟩
      simp only at hs e0 e1 e2 e9 e10 e11 e12
      simp only [go_sem, Nat.reduceLT, Nat.reduceEqDiff, reduceCtorEq, Int.reduceLT, Int.reduceEq, hs]
      refine mid (P := fun st => st.h = h2 ∧ st.s.length = 69 ∧ st.s.getD 0 .undef = vi .i64 n ∧ st.s.getD 1 .undef = vi .i64 from_ ∧ st.s.getD 2 .undef = u ∧ st.s.getD 9 .undef = vp ∧ st.s.getD 10 .undef = va ∧ st.s.getD 11 .undef = vi .i64 k ∧ st.s.getD 12 .undef = .cv cy ∧ st.s.getD 14 .undef = txt (keyOf (l.take k))) ?_ ?_
      · rw [X_eq f30_1.eq_1]
        by_cases c1 : k = 0
        · subst c1
          have c3 : ¬ ((0 : Nat) : Int) > 0 := by omega
          simp only [go_sem, Nat.reduceLT, Nat.reduceEqDiff, reduceCtorEq, Int.reduceLT, Int.reduceEq, hs, c3, e2, hu.ln, e0, e1, e9, e10, e11, e12, List.take_zero, keyOf, true_and, and_self]
        · have c3 : ((k : Nat) : Int) > 0 := by omega
          obtain ⟨e, p, he, hp, c', rfl, hc'⟩ := hR.get (i := 0) (by omega)
          obtain ⟨q, q1, q2, q3, _⟩ := hu.vf.cell (h := h2) (k := .i64) he
          obtain ⟨q', q4, q5⟩ := q3 0 _ rfl
          have q1' : iaO h2 2 u (vi .i64 0) = some (q, h2) := q1
          have hkey : keyOf (l.take k) = p.1 := by
            cases l with
            | nil => simp at hp
            | cons a r =>
              simp only [List.getElem?_cons_zero, Option.some.injEq] at hp
              subst hp
              cases k with
              | zero => omega
              | succ k => rfl
          rw [hkey]
          simp only [go_sem, Nat.reduceLT, Nat.reduceEqDiff, reduceCtorEq, Int.reduceLT, Int.reduceEq, hs, c3, e2, hu.ln, e0, e1, e9, e10, e11, e12, q1', q4, q5, true_and, and_self]
      rintro ⟨s3, h3⟩ ⟨rfl, hs, e0, e1, e2, e9, e10, e11, e12, e14⟩
      simp only at hs e0 e1 e2 e9 e10 e11 e12 e14
      have hw : IntKind.i64.wrap (((from_ : Nat) : Int) + (elsP.length : Int)) = ((from_ + gs.length : Nat) : Int) := by
        rw [IntWalk.i64_in _ (by omega)]; omega
      simp only [go_sem, Nat.reduceLT, Nat.reduceEqDiff, reduceCtorEq, Int.reduceLT, Int.reduceEq, hs, e9, e10, e1, e14, hP.lnO', hw]
      refine XO_callP (h1 := h3) (by simp only [List.map, go_sem, Nat.reduceLT, Nat.reduceEqDiff, reduceCtorEq, Int.reduceLT, Int.reduceEq, hs]; exact clos_cv rfl) n41 r41 ?_
      simp only [go_sem, Nat.reduceLT, Nat.reduceEqDiff, reduceCtorEq, Int.reduceLT, Int.reduceEq, hs, e14, hbd, hmk2]
      refine XO_appBG hA (by simp only [go_sem, Nat.reduceLT, Nat.reduceEqDiff, reduceCtorEq, Int.reduceLT, Int.reduceEq, hs, e10]) (by simp only [go_sem, Nat.reduceLT, Nat.reduceEqDiff, reduceCtorEq, Int.reduceLT, Int.reduceEq, hs, src_sl]; rfl) (by simp only [List.length_singleton]; omega) (by simp only [List.length_singleton]; omega) (fun va' h4 hA4 kg4 => ?_)
      have hP4 := hP.kg kg4 (by decide)
      simp only [go_sem, Nat.reduceLT, Nat.reduceEqDiff, reduceCtorEq, Int.reduceLT, Int.reduceEq, hs, e9, e12, hmk1]
      refine XO_appBG hP4 (by simp only [go_sem, Nat.reduceLT, Nat.reduceEqDiff, reduceCtorEq, Int.reduceLT, Int.reduceEq, hs, e9]) (by simp only [go_sem, Nat.reduceLT, Nat.reduceEqDiff, reduceCtorEq, Int.reduceLT, Int.reduceEq, hs, src_sl]; rfl) (by simp only [List.length_singleton]; omega) (by simp only [List.length_singleton]; omega) (fun vp' h5 hP5 kg5 => ?_)
      have hA5 := hA4.kg kg5 (by decide)
      obtain ⟨w', hw1', hw2'⟩ := hu.from_ (h := h5) (k := .i64) (a := (k : Int)) (by omega) (by omega)
      rw [Int.toNat_natCast] at hw1'
      simp only [go_sem, Nat.reduceLT, Nat.reduceEqDiff, reduceCtorEq, Int.reduceLT, Int.reduceEq, hs, e2, e11, hw2']
      have hRA' : RowsE (elsA ++ [[.sc (.string ⟨(keyOf (l.take k)).toArray⟩), CV.sl 1 (eB (num (clamp ((from_ + gs.length : Nat) : Int)))) false]]) (aboveL from_ (gs ++ [l.take k])) := by
        rw [aboveL_snoc]
        exact hRA.snoc ⟨_, rfl, .inr ⟨false, rfl⟩⟩
      have hE' : PgE (elsP ++ [[cy]]) ((gs ++ [l.take k]).map (pageB n)) := by
        rw [List.map_append]
        exact hE.snoc hy'
      by_cases c1 : k = l.length
      · have hnil : els.drop k = [] := List.drop_eq_nil_of_le (by omega)
        rw [hnil] at hw1'
        refine f30_exit (u := w') (vp := vp') (elsP := elsP ++ [[cy]]) (by simp only [slot_len, hs]) (by simp only [go_sem, Nat.reduceLT, Nat.reduceEqDiff, reduceCtorEq, Int.reduceLT, Int.reduceEq, hs]) (by simp only [go_sem, Nat.reduceLT, Nat.reduceEqDiff, reduceCtorEq, Int.reduceLT, Int.reduceEq, hs]) hw1' hP5 (by simp) (fun s' a1 a2 a3 => ?_)
        have hgg : groupsL (m + 1) l = [l.take k] := by rw [hgr, if_pos (.inr c1)]
        rw [hgg] at hS
        refine hS ?_ s' h5 vp' va' _ _ a1 (by rw [a2]; simp only [go_sem, Nat.reduceLT, Nat.reduceEqDiff, reduceCtorEq, Int.reduceLT, Int.reduceEq, hs]) (by rw [a3]; simp only [go_sem, Nat.reduceLT, Nat.reduceEqDiff, reduceCtorEq, Int.reduceLT, Int.reduceEq, hs]) hP5 hE' hA5 hRA'
        simp only [sumL, List.map_cons, List.map_nil, List.sum_cons, List.sum_nil, hlt]
        omega
      · have c0 : k ≠ 0 := by
          intro e; apply ck; omega
        have hgg : groupsL (m + 1) l = l.take k :: groupsL m (l.drop k) := by rw [hgr, if_neg (by omega)]
        have hsum : sumL (groupsL (m + 1) l) = k + sumL (groupsL m (l.drop k)) := by rw [hgg, sumL_cons, hlt]
        have hld : (l.drop k).length = l.length - k := List.length_drop
        refine ih (l.drop k) (els.drop k) _ _ (gs ++ [l.take k]) w' va' vp' _ _ Q (by omega) (.inr ?_) hw1' (drop_rows hR k) hA5 hRA' hP5 hE' (by simp only [slot_len, hs]) (by simp only [go_sem, Nat.reduceLT, Nat.reduceEqDiff, reduceCtorEq, Int.reduceLT, Int.reduceEq, e0]) (by simp only [go_sem, Nat.reduceLT, Nat.reduceEqDiff, reduceCtorEq, Int.reduceLT, Int.reduceEq, e1]) (by simp only [go_sem, Nat.reduceLT, Nat.reduceEqDiff, reduceCtorEq, Int.reduceLT, Int.reduceEq, hs]) (by simp only [go_sem, Nat.reduceLT, Nat.reduceEqDiff, reduceCtorEq, Int.reduceLT, Int.reduceEq, hs]) (by simp only [go_sem, Nat.reduceLT, Nat.reduceEqDiff, reduceCtorEq, Int.reduceLT, Int.reduceEq, hs]) (by rw [List.length_append, List.length_singleton]; omega) (fun hh s' h' vp va elsP elsA a1 a2 a3 a4 a5 a6 a7 => ?_) (fun hh => hN (by omega))
        · intro e; rw [e] at hld; simp only [List.length_nil] at hld; omega
        · rw [hgg] at hS
          refine hS (by rw [← hgg]; omega) s' h' vp va elsP elsA a1 a2 a3 a4 ?_ a6 ?_
          · rw [List.append_assoc] at a5; exact a5
          · rw [List.append_assoc] at a7; exact a7

theorem rlevel_f30 {n from_ : Nat} (hn : n ≤ 4) (hf : from_ ≤ 1000000) {l : List KV} {els : List (List CV)} {u : VV} (hu : SlV 2 els u) (hR : RowsE els l) (hl : l.length ≤ 100000) : Ret F 30 [vi .i64 n, vi .i64 from_, u] [] fun v g =>
    if sumL (grp l) = l.length then ∃ vp va elsP elsA, v = .tup [vp, va, vb true] ∧ BufG g 1 elsP vp ∧ PgE elsP ((grp l).map (pageB n)) ∧ BufG g 2 elsA va ∧ RowsE elsA (aboveL from_ (grp l)) else v = .tup [nilS, nilS, vb false] := by
  refine call_E (fn := f30) rfl ?_
  simp only [f30]
  generalize hs0 : ([vi .i64 n, vi .i64 from_, u] ++ List.replicate _ VV.undef : List VV) = s
  have hs : s.length = 69 := by rw [← hs0]; rfl
  have h0 : s.getD 0 .undef = vi .i64 n := by rw [← hs0]; rfl
  have h1 : s.getD 1 .undef = vi .i64 from_ := by rw [← hs0]; rfl
  have h2 : s.getD 2 .undef = u := by rw [← hs0]; rfl
  clear hs0
  simp only [go_sem, Nat.reduceLT, Nat.reduceEqDiff, reduceCtorEq, Int.reduceLT, Int.reduceEq, hs]
  refine f30_loop hn hf (l.length + 1) l els [] [] [] u nilS nilS _ _ _ (by omega) (.inl rfl) hu hR (BufG.nil _ _) .nil (BufG.nil _ _) .nil (by simp only [slot_len, hs]) (by simp only [go_sem, Nat.reduceLT, Nat.reduceEqDiff, reduceCtorEq, Int.reduceLT, Int.reduceEq, h0]) (by simp only [go_sem, Nat.reduceLT, Nat.reduceEqDiff, reduceCtorEq, Int.reduceLT, Int.reduceEq, h1]) (by simp only [go_sem, Nat.reduceLT, Nat.reduceEqDiff, reduceCtorEq, Int.reduceLT, Int.reduceEq, h2]) (by simp only [go_sem, Nat.reduceLT, Nat.reduceEqDiff, reduceCtorEq, Int.reduceLT, Int.reduceEq, hs]) (by simp only [go_sem, Nat.reduceLT, Nat.reduceEqDiff, reduceCtorEq, Int.reduceLT, Int.reduceEq, hs]) (by simp only [List.length_nil]; omega) (fun hh s' h' vp va elsP elsA a1 a2 a3 a4 a5 a6 a7 => ?_) (fun hh s' h' a1 a2 a3 a4 => ?_)
  · simp only [go_sem, Nat.reduceLT, Nat.reduceEqDiff, reduceCtorEq, Int.reduceLT, Int.reduceEq, a1, a2, a3]
    rw [if_pos (show sumL (grp l) = l.length from hh)]
    exact ⟨vp, va, elsP, elsA, rfl, a4, a5, a6, a7⟩
  · simp only [go_sem, Nat.reduceLT, Nat.reduceEqDiff, reduceCtorEq, Int.reduceLT, Int.reduceEq, a1, a2, a3, a4]
    rw [if_neg (show ¬ sumL (grp l) = l.length from hh)]
    trivial
end Go.V06

set_option linter.unusedSimpArgs false
set_option linter.unusedVariables false
namespace Go.V06
open Go Go.Vm

theorem clos_2 {h : Heap} {elsP elsA : List (List CV)} {vp va : VV} {t : Bool} (hP : BufG h 1 elsP vp) (hA : BufG h 2 elsA va) : ∃ w1 w2, closRes h (.tup [vp, va, vb t]) = some (.tup [w1, w2, vb t]) ∧ SlV 1 elsP w1 ∧ SlV 2 elsA w2 := by
  obtain ⟨w1, h1, c1, s1, _, _, _, k1⟩ := hP.vf.closZ
  obtain ⟨w2, h2, c2, s2, _⟩ := (k1 2 elsA va hA (.inl (by decide))).vf.closZ
  refine ⟨w1, w2, ?_, s1, s2⟩
  have : closAs h [vp, va, vb t] = some ([w1, w2, vb t], h2) := closAs_cons c1 (closAs_cons c2 (clos_cv rfl))
  simp only [closRes, this, Option.map]
theorem clos_1 {h : Heap} {elsP : List (List CV)} {vp : VV} {t : Bool} (hP : BufG h 1 elsP vp) : ∃ w1, closRes h (.tup [vp, vb t]) = some (.tup [w1, vb t]) ∧ SlV 1 elsP w1 := by
  obtain ⟨w1, h1, c1, s1, _⟩ := hP.vf.closZ
  refine ⟨w1, ?_, s1⟩
  have : closAs h [vp, vb t] = some ([w1, vb t], h1) := closAs_cons c1 (clos_cv rfl)
  simp only [closRes, this, Option.map]

/-- What a pure Build tells. -/
def BuiltP (r : Option (List (List UInt8))) (w : VV) : Prop := match r with
  | none => w = .tup [nilS, vb false]
  | some pg => ∃ x elsP, w = .tup [x, vb true] ∧ SlV 1 elsP x ∧ PgE elsP pg

theorem f19_loop : ∀ (f n : Nat) (pg : List (List UInt8)) (l : List KV) (els elsP : List (List CV)) (u vp : VV) (s : List VV) (h : Heap) (Q : Pst), n + f = 5 → SlV 2 els u → RowsE els l → BufG h 1 elsP vp → PgE elsP pg →
    s.length = 40 → s.getD 0 .undef = u → s.getD 4 .undef = vp → s.getD 5 .undef = vi .i64 n → l.length ≤ 5000 + n → pg.length ≤ n * 5010 →
    (bldF f n pg l = none → ∀ s' h', s'.length = 40 → Q (.exit 0) ⟨s', h'⟩) → (bldF f n pg l = none → ∀ s' h', s'.length = 40 → s'.getD 2 .undef = nilS → s'.getD 3 .undef = vb false → Q .ret ⟨s', h'⟩) → (∀ pg' s' h' vp' elsP', bldF f n pg l = some pg' → s'.length = 40 → s'.getD 2 .undef = vp' → s'.getD 3 .undef = vb true → BufG h' 1 elsP' vp' → PgE elsP' pg' → Q .ret ⟨s', h'⟩) → X F (.loop f19_3) ⟨s, h⟩ Q := by
  intro f
  induction f with
  | zero =>
    intro n pg l els elsP u vp s h Q hn hv hR hP hE hs e0 e4 e5 hb1 hb2 hN hN2 hS
    have c : ¬ ((n : Nat) : Int) ≤ 4 := by omega
    rw [X_loop, X_eq f19_3.eq_1]
    simp only [go_sem, Nat.reduceLT, Nat.reduceEqDiff, reduceCtorEq, Int.reduceLT, Int.reduceEq, hs, e5, c]
    exact hN rfl _ _ (by simp only [slot_len, hs])
  | succ f ih =>
    intro n pg l els elsP u vp s h Q hn hv hR hP hE hs e0 e4 e5 hb1 hb2 hN hN2 hS
    have c : ((n : Nat) : Int) ≤ 4 := by omega
    have hn4 : n * 5010 ≤ 20040 := by omega
    have hpl := hE.len
    obtain ⟨v, g, n30, q⟩ := rlevel_f30 (n := n) (from_ := pg.length) (by omega) (by omega) hv hR (by omega)
    have hg := grp_len l
    have hcl : closAs h [vi .i64 n, vi .i64 pg.length, u] = some ([vi .i64 n, vi .i64 pg.length, u], h) := clos_cv (clos_cv (hv.clos rfl))
    rw [X_loop, X_eq f19_3.eq_1]
    simp only [go_sem, Nat.reduceLT, Nat.reduceEqDiff, reduceCtorEq, Int.reduceLT, Int.reduceEq, hs, e5, c, e4, e0, hP.lnO', hpl]
    simp only [bldF] at hN hN2 hS
    by_cases d : sumL (grp l) = l.length
    · simp only [eq_true d, if_true] at hN hN2 hS q
      obtain ⟨vp1, va1, elsP1, elsA1, rfl, q1, q2, q3, q4⟩ := q
      obtain ⟨w1, w2, r30, sw1, sw2⟩ := clos_2 (t := true) q1 q3
      have hA := q4.len
      rw [aboveL_len] at hA
      have hP1 := q2.len
      rw [List.length_map] at hP1
      refine XO_callP (h1 := h) (by simp only [List.map, go_sem, Nat.reduceLT, Nat.reduceEqDiff, reduceCtorEq, Int.reduceLT, Int.reduceEq, hs, e4, e5, e0]; exact hcl) n30 r30 ?_
      simp only [go_sem, Nat.reduceLT, Nat.reduceEqDiff, reduceCtorEq, Int.reduceLT, Int.reduceEq, hs]
      rw [X_eq f19_1.eq_1]
      simp only [go_sem, Nat.reduceLT, Nat.reduceEqDiff, reduceCtorEq, Int.reduceLT, Int.reduceEq, hs, e4]
      refine XO_appBG hP (by simp only [go_sem, Nat.reduceLT, Nat.reduceEqDiff, reduceCtorEq, Int.reduceLT, Int.reduceEq, hs, e4]) (by simp only [go_sem, Nat.reduceLT, Nat.reduceEqDiff, reduceCtorEq, Int.reduceLT, Int.reduceEq, hs]; exact sw1.src) (by omega) (by omega) (fun vp' h5 hP5 kg5 => ?_)
      simp only [go_sem, Nat.reduceLT, Nat.reduceEqDiff, reduceCtorEq, Int.reduceLT, Int.reduceEq, hs]
      rw [X_eq f19_2.eq_1]
      by_cases d1 : (grp l).length = 1
      · simp only [eq_true d1, if_true] at hN hN2 hS
        have d1' : ((elsP1.length : Nat) : Int) = 1 := by omega
        simp only [go_sem, Nat.reduceLT, Nat.reduceEqDiff, reduceCtorEq, Int.reduceLT, Int.reduceEq, hs, sw1.ln, d1']
        exact hS _ _ _ _ _ rfl (by simp only [slot_len, hs]) (by simp only [go_sem, Nat.reduceLT, Nat.reduceEqDiff, reduceCtorEq, Int.reduceLT, Int.reduceEq, hs]) (by simp only [go_sem, Nat.reduceLT, Nat.reduceEqDiff, reduceCtorEq, Int.reduceLT, Int.reduceEq, hs]) hP5 (hE.app q2)
      · simp only [eq_false d1, if_false] at hN hN2 hS
        have d1' : ¬ ((elsP1.length : Nat) : Int) = 1 := by omega
        have hw : IntKind.i64.wrap (((n : Nat) : Int) + 1) = ((n + 1 : Nat) : Int) := by rw [IntWalk.i64_in _ (by omega)]; omega
        simp only [go_sem, Nat.reduceLT, Nat.reduceEqDiff, reduceCtorEq, Int.reduceLT, Int.reduceEq, hs, sw1.ln, d1', e5, hw]
        refine ih (n + 1) _ _ elsA1 (elsP ++ elsP1) w2 vp' _ _ Q (by omega) sw2 q4 hP5 (hE.app q2) (by simp only [slot_len, hs]) (by simp only [go_sem, Nat.reduceLT, Nat.reduceEqDiff, reduceCtorEq, Int.reduceLT, Int.reduceEq, hs]) (by simp only [go_sem, Nat.reduceLT, Nat.reduceEqDiff, reduceCtorEq, Int.reduceLT, Int.reduceEq, hs]) (by simp only [go_sem, Nat.reduceLT, Nat.reduceEqDiff, reduceCtorEq, Int.reduceLT, Int.reduceEq, hs]) (by rw [aboveL_len]; omega) ?_ hN hN2 hS
        rw [List.length_append, List.length_map]; omega
    · simp only [eq_false d, if_false] at hN hN2 hS q
      subst q
      refine XO_callP (h1 := h) (w := .tup [nilS, nilS, vb false]) (by simp only [List.map, go_sem, Nat.reduceLT, Nat.reduceEqDiff, reduceCtorEq, Int.reduceLT, Int.reduceEq, hs, e4, e5, e0]; exact hcl) n30 rfl ?_
      simp only [go_sem, Nat.reduceLT, Nat.reduceEqDiff, reduceCtorEq, Int.reduceLT, Int.reduceEq, hs]
      rw [X_eq f19_1.eq_1]
      simp only [go_sem, Nat.reduceLT, Nat.reduceEqDiff, reduceCtorEq, Int.reduceLT, Int.reduceEq, hs]
      exact hN2 trivial _ _ (by simp only [slot_len, hs]) (by simp only [go_sem, Nat.reduceLT, Nat.reduceEqDiff, reduceCtorEq, Int.reduceLT, Int.reduceEq, hs]) (by simp only [go_sem, Nat.reduceLT, Nat.reduceEqDiff, reduceCtorEq, Int.reduceLT, Int.reduceEq, hs])

theorem rbuild_f19 {u : VV} {els : List (List CV)} {l : List KV} (hS : SlV 2 els u) (hR : RowsE els l) (hl : l.length ≤ 9223372036854775807) : RetP F 19 [u] (BuiltP (buildF l)) := by
  have : Ret F 19 [u] [] fun v g => ∃ w, closRes g v = some w ∧ BuiltP (buildF l) w := by
    refine call_E (fn := f19) rfl ?_
    simp only [f19]
    generalize hs0 : ([u] ++ List.replicate _ VV.undef : List VV) = s
    have hs : s.length = 40 := by rw [← hs0]; rfl
    have h0 : s.getD 0 .undef = u := by rw [← hs0]; rfl
    clear hs0
    obtain ⟨h15, n15⟩ := rrising_f21 hS hR hl
    have hlen := hR.len
    have hcl : closAs ([] : Heap) [u] = some ([u], []) := hS.clos rfl
    simp only [go_sem, Nat.reduceLT, Nat.reduceEqDiff, reduceCtorEq, Int.reduceLT, Int.reduceEq, hs]
    rw [X_eq f19_0.eq_1]
    simp only [go_sem, Nat.reduceLT, Nat.reduceEqDiff, reduceCtorEq, Int.reduceLT, Int.reduceEq, hs, h0]
    refine XO_callP (h1 := []) (by simp only [List.map, go_sem, Nat.reduceLT, Nat.reduceEqDiff, reduceCtorEq, Int.reduceLT, Int.reduceEq, hs, h0]; exact hcl) n15 rfl ?_
    have none_ : buildF l = none → ∃ w, closRes ([] : Heap) (.tup [nilS, vb false]) = some w ∧ BuiltP (buildF l) w := fun e => ⟨_, rfl, by rw [e]; rfl⟩
    cases hr : risingF l with
    | false =>
      have : buildF l = none := by unfold buildF; rw [if_neg (by rw [hr]; simp)]
      simp only [go_sem, Nat.reduceLT, Nat.reduceEqDiff, reduceCtorEq, Int.reduceLT, Int.reduceEq, hs]
      exact none_ this
    | true =>
      by_cases d : l.length ≤ 5000
      · have hb : buildF l = bldF 5 0 [] l := by unfold buildF; rw [if_pos ⟨hr, d⟩]
        have d' : ¬ ((els.length : Nat) : Int) > 5000 := by omega
        simp only [go_sem, Nat.reduceLT, Nat.reduceEqDiff, reduceCtorEq, Int.reduceLT, Int.reduceEq, hs, hS.ln, d', h0]
        refine f19_loop 5 0 [] l els [] u nilS _ _ _ rfl hS hR (BufG.nil _ _) .nil (by simp only [slot_len, hs]) (by simp only [go_sem, Nat.reduceLT, Nat.reduceEqDiff, reduceCtorEq, Int.reduceLT, Int.reduceEq, h0]) (by simp only [go_sem, Nat.reduceLT, Nat.reduceEqDiff, reduceCtorEq, Int.reduceLT, Int.reduceEq, hs]) (by simp only [go_sem, Nat.reduceLT, Nat.reduceEqDiff, reduceCtorEq, Int.reduceLT, Int.reduceEq, hs]; rfl) (by omega) (by simp) (fun hn s' h' a1 => ?_) (fun hn s' h' a1 a2 a3 => ?_) (fun pg' s' h' vp' elsP' hsome a0 a1 a2 a3 a4 => ?_)
        · simp only [go_sem, Nat.reduceLT, Nat.reduceEqDiff, reduceCtorEq, Int.reduceLT, Int.reduceEq, a1]
          exact ⟨.tup [nilS, vb false], rfl, by rw [hb, hn]; rfl⟩
        · simp only [go_sem, Nat.reduceLT, Nat.reduceEqDiff, reduceCtorEq, Int.reduceLT, Int.reduceEq, a1, a2, a3]
          exact ⟨.tup [nilS, vb false], rfl, by rw [hb, hn]; rfl⟩
        · simp only [go_sem, Nat.reduceLT, Nat.reduceEqDiff, reduceCtorEq, Int.reduceLT, Int.reduceEq, a0, a1, a2]
          obtain ⟨w, c1, c2⟩ := clos_1 (t := true) a3
          exact ⟨_, c1, by rw [hb, hsome]; exact ⟨w, elsP', rfl, c2, a4⟩⟩
      · have d' : ((els.length : Nat) : Int) > 5000 := by omega
        have : buildF l = none := by unfold buildF; rw [if_neg (by omega)]
        simp only [go_sem, Nat.reduceLT, Nat.reduceEqDiff, reduceCtorEq, Int.reduceLT, Int.reduceEq, hs, hS.ln, d', h0]
        exact none_ this
  obtain ⟨v, h', n1, w, c1, c2⟩ := this
  exact ⟨v, h', n1, w, c1, c2⟩

theorem build_pure {u : VV} {els : List (List CV)} {l : List KV} (hS : SlV 2 els u) (hR : RowsE els l) (hl : l.length ≤ 9223372036854775807) : RetP F 13 [u] (BuiltP (buildF l)) := by
  obtain ⟨v, g, n1, q⟩ := build_f13 hS hR hl
  cases hb : buildF l with
  | none =>
    rw [hb] at q
    have q' : v = .tup [nilS, vb false] := q
    subst q'
    exact ⟨_, g, n1, .tup [nilS, vb false], rfl, rfl⟩
  | some pg =>
    rw [hb] at q
    obtain ⟨vp, elsP, rfl, q1, q2⟩ := q
    obtain ⟨w, c1, c2⟩ := clos_1 (t := true) q1
    exact ⟨_, g, n1, _, c1, w, elsP, rfl, c2, q2⟩
end Go.V06

set_option linter.unusedSimpArgs false
set_option linter.unusedVariables false
namespace Go.V06
open Go Go.Vm

theorem drop_ne {α : Type} {a b : List α} {i : Nat} {x y : α} (ha : a[i]? = some x) (hb : b[i]? = some y) : (a.drop i = b.drop i) ↔ (x = y ∧ a.drop (i + 1) = b.drop (i + 1)) := by
  obtain ⟨la, rfl⟩ := List.getElem?_eq_some_iff.1 ha
  obtain ⟨lb, rfl⟩ := List.getElem?_eq_some_iff.1 hb
  rw [List.drop_eq_getElem_cons la, List.drop_eq_getElem_cons lb, List.cons.injEq]

section
variable {a b : List (List UInt8)} {ea eb : List (List CV)} {u w : VV}

theorem f20_loop (ha : PgE ea a) (hb : PgE eb b) (hu : SlV 1 ea u) (hw : SlV 1 eb w) (hl : a.length = b.length) (hn : a.length ≤ 1000000) : ∀ (r i : Nat) (s : List VV) (h : Heap) (Q : Pst), i + r = a.length → s.length = 28 → s.getD 0 .undef = u → s.getD 1 .undef = w → s.getD 5 .undef = vi .i64 i →
    (a.drop i = b.drop i → ∀ s', s'.length = 28 → Q (.exit 0) ⟨s', h⟩) → (a.drop i ≠ b.drop i → ∀ s', s'.length = 28 → s'.getD 4 .undef = vb false → Q .ret ⟨s', h⟩) → X F (.loop f20_1) ⟨s, h⟩ Q := by
  intro r
  induction r with
  | zero =>
    intro i s h Q hi hs e0 e1 e5 hY hN
    have hal := ha.len
    have c : ¬ ((i : Nat) : Int) < (ea.length : Int) := by omega
    rw [X_loop, X_eq f20_1.eq_1]
    simp only [go_sem, Nat.reduceLT, Nat.reduceEqDiff, reduceCtorEq, Int.reduceLT, Int.reduceEq, hs, e5, e0, hu.ln, c]
    refine hY ?_ _ (by simp only [slot_len, hs])
    rw [List.drop_eq_nil_of_le (by omega), List.drop_eq_nil_of_le (by omega)]
  | succ r ih =>
    intro i s h Q hi hs e0 e1 e5 hY hN
    have hal := ha.len
    have hbl := hb.len
    have c : ((i : Nat) : Int) < (ea.length : Int) := by omega
    obtain ⟨ca, xa, a1, a2, a3⟩ := ha.get (i := i) (by omega)
    obtain ⟨cb, xb, b1, b2, b3⟩ := hb.get (i := i) (by omega)
    have ia : iaO h 1 u (vi .i64 (i : Int)) = some (.rptr [ca], h) := hu.ia (by omega) (by rw [Int.toNat_natCast]; exact a1)
    have ib : iaO h 1 w (vi .i64 (i : Int)) = some (.rptr [cb], h) := hw.ia (by omega) (by rw [Int.toNat_natCast]; exact b1)
    have la : ldO h false 1 (.rptr [ca]) = some (.cv ca, h) := ld_rptr
    have lb : ldO h false 1 (.rptr [cb]) = some (.cv cb, h) := ld_rptr
    have hwr : IntKind.i64.wrap ((i : Int) + 1) = ((i + 1 : Nat) : Int) := by rw [IntWalk.i64_in _ (by omega)]; omega
    have te : binO .neq (txt xa) (txt xb) = some (vb (decide (xa ≠ xb))) := by
      by_cases h : xa = xb <;> simp [binO, binV, h]
    rw [X_loop, X_eq f20_1.eq_1]
    simp only [go_sem, Nat.reduceLT, Nat.reduceEqDiff, reduceCtorEq, Int.reduceLT, Int.reduceEq, hs, e5, e0, e1, hu.ln, c]
    refine X_draw rfl ?_
    simp only [go_sem, Nat.reduceLT, Nat.reduceEqDiff, reduceCtorEq, Int.reduceLT, Int.reduceEq, hs, e5, e0, e1, ia, ib, la, lb, a3.bs, b3.bs, te]
    by_cases d : xa = xb
    · have d' : ¬ (xa ≠ xb) := fun h => h d
      simp only [go_sem, Nat.reduceLT, Nat.reduceEqDiff, reduceCtorEq, Int.reduceLT, Int.reduceEq, hs, e5, d', hwr]
      refine ih (i + 1) _ _ Q (by omega) (by simp only [slot_len, hs]) (by simp only [go_sem, Nat.reduceLT, Nat.reduceEqDiff, reduceCtorEq, Int.reduceLT, Int.reduceEq, e0]) (by simp only [go_sem, Nat.reduceLT, Nat.reduceEqDiff, reduceCtorEq, Int.reduceLT, Int.reduceEq, e1]) (by simp only [go_sem, Nat.reduceLT, Nat.reduceEqDiff, reduceCtorEq, Int.reduceLT, Int.reduceEq, hs]) (fun hh => hY ((drop_ne a2 b2).2 ⟨d, hh⟩)) (fun hh => hN (fun e => hh ((drop_ne a2 b2).1 e).2))
    · have d' : xa ≠ xb := d
      simp only [go_sem, Nat.reduceLT, Nat.reduceEqDiff, reduceCtorEq, Int.reduceLT, Int.reduceEq, hs, d']
      exact hN (fun e => d ((drop_ne a2 b2).1 e).1) _ (by simp only [slot_len, hs]) (by simp only [go_sem, Nat.reduceLT, Nat.reduceEqDiff, reduceCtorEq, Int.reduceLT, Int.reduceEq, hs])

theorem same_f20 (ha : PgE ea a) (hb : PgE eb b) (hu : SlV 1 ea u) (hw : SlV 1 eb w) (hn : a.length ≤ 1000000) : ∃ h', call F 20 [u, w] [] = some (.ret (vb (decide (a = b))), h') := by
  have : Ret F 20 [u, w] [] fun v h' => v = vb (decide (a = b)) := by
    refine call_E (fn := f20) rfl ?_
    simp only [f20]
    generalize hs0 : ([u, w] ++ List.replicate _ VV.undef : List VV) = s
    have hs : s.length = 28 := by rw [← hs0]; rfl
    have h0 : s.getD 0 .undef = u := by rw [← hs0]; rfl
    have h1 : s.getD 1 .undef = w := by rw [← hs0]; rfl
    clear hs0
    have hal := ha.len
    have hbl := hb.len
    simp only [go_sem, Nat.reduceLT, Nat.reduceEqDiff, reduceCtorEq, Int.reduceLT, Int.reduceEq, hs]
    rw [X_eq f20_0.eq_1]
    by_cases c : a.length = b.length
    · have c1 : ¬ ((ea.length : Nat) : Int) ≠ (eb.length : Int) := by omega
      simp only [go_sem, Nat.reduceLT, Nat.reduceEqDiff, reduceCtorEq, Int.reduceLT, Int.reduceEq, hs, h0, h1, hu.ln, hw.ln, c1]
      refine f20_loop ha hb hu hw c hn a.length 0 _ _ _ (by omega) (by simp only [slot_len, hs]) (by simp only [go_sem, Nat.reduceLT, Nat.reduceEqDiff, reduceCtorEq, Int.reduceLT, Int.reduceEq, h0]) (by simp only [go_sem, Nat.reduceLT, Nat.reduceEqDiff, reduceCtorEq, Int.reduceLT, Int.reduceEq, h1]) (by simp only [go_sem, Nat.reduceLT, Nat.reduceEqDiff, reduceCtorEq, Int.reduceLT, Int.reduceEq, hs]; rfl) (fun hh s' a1 => ?_) (fun hh s' a1 a2 => ?_)
      · simp only [go_sem, Nat.reduceLT, Nat.reduceEqDiff, reduceCtorEq, Int.reduceLT, Int.reduceEq, a1]
        exact congrArg vb (decide_eq_true (by simpa using hh)).symm
      · simp only [go_sem, Nat.reduceLT, Nat.reduceEqDiff, reduceCtorEq, Int.reduceLT, Int.reduceEq, a1, a2]
        exact congrArg vb (decide_eq_false (by simpa using hh)).symm
    · have c1 : ((ea.length : Nat) : Int) ≠ (eb.length : Int) := by omega
      simp only [go_sem, Nat.reduceLT, Nat.reduceEqDiff, reduceCtorEq, Int.reduceLT, Int.reduceEq, hs, h0, h1, hu.ln, hw.ln, c1]
      exact congrArg vb (decide_eq_false (fun e => c (congrArg List.length e))).symm
  obtain ⟨v, h', n1, rfl⟩ := this
  exact ⟨h', n1⟩

theorem f25_loop (ha : PgE ea a) (hb : PgE eb b) (hu : SlV 1 ea u) (hw : SlV 1 eb w) (hl : a.length = b.length) (hn : a.length ≤ 1000000) : ∀ (r i : Nat) (s : List VV) (h : Heap) (Q : Pst), i + r = a.length → s.length = 32 → s.getD 2 .undef = .func 26 [] → s.getD 1 .undef = w → s.getD 15 .undef = u → s.getD 16 .undef = vi .i64 a.length → s.getD 17 .undef = vi .i64 i →
    (a.drop i = b.drop i → ∀ s', s'.length = 32 → Q (.exit 0) ⟨s', h⟩) → (a.drop i ≠ b.drop i → ∀ s', s'.length = 32 → s'.getD 6 .undef = vb false → Q .ret ⟨s', h⟩) → X F (.loop f25_2) ⟨s, h⟩ Q := by
  intro r
  induction r with
  | zero =>
    intro i s h Q hi hs e2 e1 e15 e16 e17 hY hN
    have c : ¬ ((i : Nat) : Int) < (a.length : Int) := by omega
    rw [X_loop, X_eq f25_2.eq_1]
    simp only [go_sem, Nat.reduceLT, Nat.reduceEqDiff, reduceCtorEq, Int.reduceLT, Int.reduceEq, hs, e17, e16, c]
    rw [X_eq f25_1.eq_1]
    simp only [go_sem, Nat.reduceLT, Nat.reduceEqDiff, reduceCtorEq, Int.reduceLT, Int.reduceEq, hs]
    refine hY ?_ _ (by simp only [slot_len, hs])
    rw [List.drop_eq_nil_of_le (by omega), List.drop_eq_nil_of_le (by omega)]
  | succ r ih =>
    intro i s h Q hi hs e2 e1 e15 e16 e17 hY hN
    have c : ((i : Nat) : Int) < (a.length : Int) := by omega
    obtain ⟨ca, xa, a1, a2, a3⟩ := ha.get (i := i) (by omega)
    obtain ⟨cb, xb, b1, b2, b3⟩ := hb.get (i := i) (by omega)
    have ia : iaO h 1 u (vi .i64 (i : Int)) = some (.rptr [ca], h) := hu.ia (by omega) (by rw [Int.toNat_natCast]; exact a1)
    have ib : iaO h 1 w (vi .i64 (i : Int)) = some (.rptr [cb], h) := hw.ia (by omega) (by rw [Int.toNat_natCast]; exact b1)
    have la : ldO h false 1 (.rptr [ca]) = some (.cv ca, h) := ld_rptr
    have lb : ldO h false 1 (.rptr [cb]) = some (.cv cb, h) := ld_rptr
    have hwr : IntKind.i64.wrap ((i : Int) + 1) = ((i + 1 : Nat) : Int) := by rw [IntWalk.i64_in _ (by omega)]; omega
    rw [X_loop, X_eq f25_2.eq_1]
    simp only [go_sem, Nat.reduceLT, Nat.reduceEqDiff, reduceCtorEq, Int.reduceLT, Int.reduceEq, hs, e17, e16, c]
    rw [X_eq f25_1.eq_1]
    simp only [go_sem, Nat.reduceLT, Nat.reduceEqDiff, reduceCtorEq, Int.reduceLT, Int.reduceEq, hs, e17, e15, e1, e2, ia, ib, la, lb]
    refine XO_callvP (by simp only [go_sem, Nat.reduceLT, Nat.reduceEqDiff, reduceCtorEq, Int.reduceLT, Int.reduceEq, hs]) (by simp only [List.map, go_sem, Nat.reduceLT, Nat.reduceEqDiff, reduceCtorEq, Int.reduceLT, Int.reduceEq, hs]; exact a3.clos (b3.clos rfl)) (equal_f26 a3 b3) rfl ?_
    by_cases d : xa = xb
    · simp only [go_sem, Nat.reduceLT, Nat.reduceEqDiff, reduceCtorEq, Int.reduceLT, Int.reduceEq, hs, d, e17, hwr]
      refine ih (i + 1) _ _ Q (by omega) (by simp only [slot_len, hs]) (by simp only [go_sem, Nat.reduceLT, Nat.reduceEqDiff, reduceCtorEq, Int.reduceLT, Int.reduceEq, e2]) (by simp only [go_sem, Nat.reduceLT, Nat.reduceEqDiff, reduceCtorEq, Int.reduceLT, Int.reduceEq, e1]) (by simp only [go_sem, Nat.reduceLT, Nat.reduceEqDiff, reduceCtorEq, Int.reduceLT, Int.reduceEq, e15]) (by simp only [go_sem, Nat.reduceLT, Nat.reduceEqDiff, reduceCtorEq, Int.reduceLT, Int.reduceEq, e16]) (by simp only [go_sem, Nat.reduceLT, Nat.reduceEqDiff, reduceCtorEq, Int.reduceLT, Int.reduceEq, hs]) (fun hh => hY ((drop_ne a2 b2).2 ⟨d, hh⟩)) (fun hh => hN (fun e => hh ((drop_ne a2 b2).1 e).2))
    · simp only [go_sem, Nat.reduceLT, Nat.reduceEqDiff, reduceCtorEq, Int.reduceLT, Int.reduceEq, hs, d]
      exact hN (fun e => d ((drop_ne a2 b2).1 e).1) _ (by simp only [slot_len, hs]) (by simp only [go_sem, Nat.reduceLT, Nat.reduceEqDiff, reduceCtorEq, Int.reduceLT, Int.reduceEq, hs])

theorem eq_f25 (ha : PgE ea a) (hb : PgE eb b) (hu : SlV 1 ea u) (hw : SlV 1 eb w) (hn : a.length ≤ 1000000) : ∃ h', call F 25 [u, w, .func 26 []] [] = some (.ret (vb (decide (a = b))), h') := by
  have : Ret F 25 [u, w, .func 26 []] [] fun v h' => v = vb (decide (a = b)) := by
    refine call_E (fn := f25) rfl ?_
    simp only [f25]
    generalize hs0 : ([u, w, .func 26 []] ++ List.replicate _ VV.undef : List VV) = s
    have hs : s.length = 32 := by rw [← hs0]; rfl
    have h0 : s.getD 0 .undef = u := by rw [← hs0]; rfl
    have h1 : s.getD 1 .undef = w := by rw [← hs0]; rfl
    have h2 : s.getD 2 .undef = .func 26 [] := by rw [← hs0]; rfl
    clear hs0
    have hal := ha.len
    have hbl := hb.len
    simp only [go_sem, Nat.reduceLT, Nat.reduceEqDiff, reduceCtorEq, Int.reduceLT, Int.reduceEq, hs]
    rw [X_eq f25_0.eq_1]
    by_cases c : a.length = b.length
    · have c1 : ¬ ((ea.length : Nat) : Int) ≠ (eb.length : Int) := by omega
      simp only [go_sem, Nat.reduceLT, Nat.reduceEqDiff, reduceCtorEq, Int.reduceLT, Int.reduceEq, hs, h0, h1, hu.ln, hw.ln, c1]
      refine f25_loop ha hb hu hw c hn a.length 0 _ _ _ (by omega) (by simp only [slot_len, hs]) (by simp only [go_sem, Nat.reduceLT, Nat.reduceEqDiff, reduceCtorEq, Int.reduceLT, Int.reduceEq, h2]) (by simp only [go_sem, Nat.reduceLT, Nat.reduceEqDiff, reduceCtorEq, Int.reduceLT, Int.reduceEq, h1]) (by simp only [go_sem, Nat.reduceLT, Nat.reduceEqDiff, reduceCtorEq, Int.reduceLT, Int.reduceEq, hs]) (by simp only [go_sem, Nat.reduceLT, Nat.reduceEqDiff, reduceCtorEq, Int.reduceLT, Int.reduceEq, hs, hal]) (by simp only [go_sem, Nat.reduceLT, Nat.reduceEqDiff, reduceCtorEq, Int.reduceLT, Int.reduceEq, hs]; rfl) (fun hh s' a1 => ?_) (fun hh s' a1 a2 => ?_)
      · simp only [go_sem, Nat.reduceLT, Nat.reduceEqDiff, reduceCtorEq, Int.reduceLT, Int.reduceEq, a1]
        exact congrArg vb (decide_eq_true (by simpa using hh)).symm
      · simp only [go_sem, Nat.reduceLT, Nat.reduceEqDiff, reduceCtorEq, Int.reduceLT, Int.reduceEq, a1, a2]
        exact congrArg vb (decide_eq_false (by simpa using hh)).symm
    · have c1 : ((ea.length : Nat) : Int) ≠ (eb.length : Int) := by omega
      simp only [go_sem, Nat.reduceLT, Nat.reduceEqDiff, reduceCtorEq, Int.reduceLT, Int.reduceEq, hs, h0, h1, hu.ln, hw.ln, c1]
      exact congrArg vb (decide_eq_false (fun e => c (congrArg List.length e))).symm
  obtain ⟨v, h', n1, rfl⟩ := this
  exact ⟨h', n1⟩
end
end Go.V06

set_option linter.unusedSimpArgs false
set_option linter.unusedVariables false
namespace Go.V06
open Go Go.Vm

def rowsA : List (List UInt8) → List KV → Nat × List KV
  | [], acc => (0, acc)
  | b :: r, acc => if (decF b).2.2 ≠ 0 then ((decF b).2.2, []) else rowsA r (if (decF b).1 = 0 then acc ++ (decF b).2.1 else acc)
def rowsF (pg : List (List UInt8)) : List KV × Nat := if (rowsA pg []).1 ≠ 0 then ([], (rowsA pg []).1) else if buildF (rowsA pg []).2 = some pg then ((rowsA pg []).2, 0) else ([], 11)

theorem bldF_len : ∀ (f n : Nat) (pg : List (List UInt8)) (l : List KV) (p : List (List UInt8)), n + f = 5 → l.length ≤ 5000 + n → pg.length ≤ n * 5010 → bldF f n pg l = some p → p.length ≤ 25050
  | 0, _, _, _, _, _, _, _, h => by cases h
  | f + 1, n, pg, l, p, hn, h1, h2, h => by
    have hg := grp_len l
    have hp : (pg ++ (grp l).map (pageB n)).length ≤ (n + 1) * 5010 := by rw [List.length_append, List.length_map]; omega
    rw [bldF] at h
    split at h
    · split at h
      · cases h; omega
      · exact bldF_len f (n + 1) _ _ p (by omega) (by rw [aboveL_len]; omega) hp h
    · cases h
theorem buildF_len {l : List KV} {p : List (List UInt8)} (h : buildF l = some p) : p.length ≤ 1000000 := by
  unfold buildF at h
  split at h
  · rename_i hh
    have := bldF_len 5 0 [] l p rfl (by omega) (by simp) h
    omega
  · cases h

theorem RowsE.app' {l m : List (List CV)} {k j : List KV} (h : RowsE l k) (h2 : RowsE m j) : RowsE (l ++ m) (k ++ j) := by
  induction h with
  | nil => exact h2
  | cons h _ ih => exact .cons h ih

theorem a14 {acc i r n e d D : Nat} (hac : acc ≤ 255 * i) (hi : i + (r + 1) = n) (hn : n ≤ 1000000) (hl : e = acc) (hld : d = D) (hdl : D ≤ 255) : acc ≤ 255 * (i + 1) ∧ (e + d) * 40 ≤ 35184372088832 ∧ e + d ≤ 35184372088832 ∧ acc + D ≤ 255 * (i + 1) ∧ i + 1 + r = n := ⟨by omega, by omega, by omega, by omega, by omega⟩

section
variable {pg : List (List UInt8)} {ep : List (List CV)} {u : VV}
theorem f14_loop (hp : PgE ep pg) (hu : SlV 1 ep u) (hn : pg.length ≤ 1000000) (hb : ∀ b ∈ pg, b.length ≤ 1000000) : ∀ (r i : Nat) (acc : List KV) (els : List (List CV)) (v : VV) (s : List VV) (h : Heap) (Q : Pst), i + r = pg.length → BufG h 2 els v → RowsE els acc → acc.length ≤ 255 * i →
    s.length = 47 → s.getD 0 .undef = u → s.getD 4 .undef = v → s.getD 12 .undef = u → s.getD 13 .undef = vi .i64 pg.length → s.getD 14 .undef = vi .i64 i →
    ((rowsA (pg.drop i) acc).1 = 0 → ∀ s' h' els' v', s'.length = 47 → s'.getD 0 .undef = u → s'.getD 4 .undef = v' → BufG h' 2 els' v' → RowsE els' (rowsA (pg.drop i) acc).2 → (rowsA (pg.drop i) acc).2.length ≤ 255 * pg.length → Q (.exit 0) ⟨s', h'⟩) →
    ((rowsA (pg.drop i) acc).1 ≠ 0 → ∀ s' h', s'.length = 47 → s'.getD 2 .undef = nilS → s'.getD 3 .undef = vi .u16 ((rowsA (pg.drop i) acc).1 : Nat) → Q .ret ⟨s', h'⟩) → X F (.loop f14_2) ⟨s, h⟩ Q := by
  intro r
  induction r with
  | zero =>
    intro i acc els v s h Q hi hv hR hac hs e0 e4 e12 e13 e14 hY hN
    have c : ¬ ((i : Nat) : Int) < (pg.length : Int) := by omega
    rw [X_loop, X_eq f14_2.eq_1]
    simp only [go_sem, Nat.reduceLT, Nat.reduceEqDiff, reduceCtorEq, Int.reduceLT, Int.reduceEq, hs, e14, e13, c]
    rw [X_eq f14_0.eq_1]
    simp only [go_sem, Nat.reduceLT, Nat.reduceEqDiff, reduceCtorEq, Int.reduceLT, Int.reduceEq, hs]
    have hd : pg.drop i = [] := List.drop_eq_nil_of_le (by omega)
    rw [hd] at hY
    refine hY rfl _ _ els v (by simp only [slot_len, hs]) (by simp only [go_sem, Nat.reduceLT, Nat.reduceEqDiff, reduceCtorEq, Int.reduceLT, Int.reduceEq, e0]) (by simp only [go_sem, Nat.reduceLT, Nat.reduceEqDiff, reduceCtorEq, Int.reduceLT, Int.reduceEq, e4]) hv hR ?_
    have : i = pg.length := by omega
    rw [← this]; exact hac
  | succ r ih =>
    intro i acc els v s h Q hi hv hR hac hs e0 e4 e12 e13 e14 hY hN
    have c : ((i : Nat) : Int) < (pg.length : Int) := by omega
    have hpl := hp.len
    obtain ⟨ca, xa, a1, a2, a3⟩ := hp.get (i := i) (by omega)
    have hxl : xa.length ≤ 1000000 := hb xa (List.mem_of_getElem? a2)
    have ia : iaO h 1 u (vi .i64 (i : Int)) = some (.rptr [ca], h) := hu.ia (by omega) (by rw [Int.toNat_natCast]; exact a1)
    have la : ldO h false 1 (.rptr [ca]) = some (.cv ca, h) := ld_rptr
    have hwr : IntKind.i64.wrap ((i : Int) + 1) = ((i + 1 : Nat) : Int) := by rw [IntWalk.i64_in _ (by omega)]; omega
    obtain ⟨v24, h24, n24, w, r24, eld, x, rfl, sd, hRd⟩ := decode_f24 a3 hxl
    have hd : pg.drop i = xa :: pg.drop (i + 1) := by
      obtain ⟨la, rfl⟩ := List.getElem?_eq_some_iff.1 a2
      rw [List.drop_eq_getElem_cons la]
    have hr : rowsA (pg.drop i) acc = if (decF xa).2.2 ≠ 0 then ((decF xa).2.2, []) else rowsA (pg.drop (i + 1)) (if (decF xa).1 = 0 then acc ++ (decF xa).2.1 else acc) := by rw [hd]; rfl
    have hdl := decF_len xa
    have hde := decF_e xa
    generalize decF xa = D at *
    have hl := hR.len
    have hld := hRd.len
    obtain ⟨hac2, hz1, hz2, hz3', hz4⟩ := a14 hac hi hn hl hld hdl
    have hz3 : (acc ++ D.2.1).length ≤ 255 * (i + 1) := by rw [List.length_append]; exact hz3'
    rw [hr] at hY hN
    rw [X_loop, X_eq f14_2.eq_1]
    simp only [go_sem, Nat.reduceLT, Nat.reduceEqDiff, reduceCtorEq, Int.reduceLT, Int.reduceEq, hs, e14, e13, c]
    rw [X_eq f14_0.eq_1]
    simp only [go_sem, Nat.reduceLT, Nat.reduceEqDiff, reduceCtorEq, Int.reduceLT, Int.reduceEq, hs, e14, e12, ia, la]
    refine XO_callP (h1 := h) (by simp only [List.map, go_sem, Nat.reduceLT, Nat.reduceEqDiff, reduceCtorEq, Int.reduceLT, Int.reduceEq, hs]; exact a3.clos rfl) n24 r24 ?_
    simp only [go_sem, Nat.reduceLT, Nat.reduceEqDiff, reduceCtorEq, Int.reduceLT, Int.reduceEq, hs]
    rw [X_eq f14_1.eq_1]
    by_cases d : D.2.2 = 0
    · have d' : ¬ ((D.2.2 : Nat) : Int) ≠ 0 := by omega
      have d2 : ¬ (D.2.2 ≠ 0) := by omega
      simp only [if_neg d2] at hY hN
      simp only [go_sem, Nat.reduceLT, Nat.reduceEqDiff, reduceCtorEq, Int.reduceLT, Int.reduceEq, hs, d']
      by_cases d3 : D.1 = 0
      · have d4 : ((D.1 : Nat) : Int) = 0 := by omega
        simp only [if_pos d3] at hY hN
        simp only [go_sem, Nat.reduceLT, Nat.reduceEqDiff, reduceCtorEq, Int.reduceLT, Int.reduceEq, hs, d4, e4]
        refine XO_appBG hv (by simp only [go_sem, Nat.reduceLT, Nat.reduceEqDiff, reduceCtorEq, Int.reduceLT, Int.reduceEq, hs, e4]) (by simp only [go_sem, Nat.reduceLT, Nat.reduceEqDiff, reduceCtorEq, Int.reduceLT, Int.reduceEq, hs]; exact sd.src) hz1 hz2 (fun v' h' hv' kg => ?_)
        simp only [go_sem, Nat.reduceLT, Nat.reduceEqDiff, reduceCtorEq, Int.reduceLT, Int.reduceEq, hs, e14, hwr]
        refine ih (i + 1) _ _ v' _ _ Q hz4 hv' (hR.app' hRd) hz3 (by simp only [slot_len, hs]) (by simp only [go_sem, Nat.reduceLT, Nat.reduceEqDiff, reduceCtorEq, Int.reduceLT, Int.reduceEq, e0]) (by simp only [go_sem, Nat.reduceLT, Nat.reduceEqDiff, reduceCtorEq, Int.reduceLT, Int.reduceEq, hs]) (by simp only [go_sem, Nat.reduceLT, Nat.reduceEqDiff, reduceCtorEq, Int.reduceLT, Int.reduceEq, e12]) (by simp only [go_sem, Nat.reduceLT, Nat.reduceEqDiff, reduceCtorEq, Int.reduceLT, Int.reduceEq, e13]) (by simp only [go_sem, Nat.reduceLT, Nat.reduceEqDiff, reduceCtorEq, Int.reduceLT, Int.reduceEq, hs]) hY hN
      · have d4 : ¬ ((D.1 : Nat) : Int) = 0 := by omega
        simp only [if_neg d3] at hY hN
        simp only [go_sem, Nat.reduceLT, Nat.reduceEqDiff, reduceCtorEq, Int.reduceLT, Int.reduceEq, hs, d4, e4, e14, hwr]
        refine ih (i + 1) _ _ v _ _ Q hz4 hv hR hac2 (by simp only [slot_len, hs]) (by simp only [go_sem, Nat.reduceLT, Nat.reduceEqDiff, reduceCtorEq, Int.reduceLT, Int.reduceEq, e0]) (by simp only [go_sem, Nat.reduceLT, Nat.reduceEqDiff, reduceCtorEq, Int.reduceLT, Int.reduceEq, e4]) (by simp only [go_sem, Nat.reduceLT, Nat.reduceEqDiff, reduceCtorEq, Int.reduceLT, Int.reduceEq, e12]) (by simp only [go_sem, Nat.reduceLT, Nat.reduceEqDiff, reduceCtorEq, Int.reduceLT, Int.reduceEq, e13]) (by simp only [go_sem, Nat.reduceLT, Nat.reduceEqDiff, reduceCtorEq, Int.reduceLT, Int.reduceEq, hs]) hY hN
    · have d' : ((D.2.2 : Nat) : Int) ≠ 0 := by omega
      simp only [if_pos (show D.2.2 ≠ 0 from d)] at hY hN
      simp only [go_sem, Nat.reduceLT, Nat.reduceEqDiff, reduceCtorEq, Int.reduceLT, Int.reduceEq, hs, d']
      exact hN d _ _ (by simp only [slot_len, hs]) (by simp only [go_sem, Nat.reduceLT, Nat.reduceEqDiff, reduceCtorEq, Int.reduceLT, Int.reduceEq, hs]) (by simp only [go_sem, Nat.reduceLT, Nat.reduceEqDiff, reduceCtorEq, Int.reduceLT, Int.reduceEq, hs])

/-- What Rows tells. -/
def RowsP (pg : List (List UInt8)) (w : VV) : Prop := ∃ x els, w = .tup [x, vi .u16 ((rowsF pg).2 : Nat)] ∧ SlV 2 els x ∧ RowsE els (rowsF pg).1

theorem rows_f14 (hp : PgE ep pg) (hu : SlV 1 ep u) (hn : pg.length ≤ 1000000) (hb : ∀ b ∈ pg, b.length ≤ 1000000) : RetP F 14 [u] (RowsP pg) := by
  have : Ret F 14 [u] [] fun v g => ∃ w, closRes g v = some w ∧ RowsP pg w := by
    refine call_E (fn := f14) rfl ?_
    simp only [f14]
    generalize hs0 : ([u] ++ List.replicate _ VV.undef : List VV) = s
    have hs : s.length = 47 := by rw [← hs0]; rfl
    have h0 : s.getD 0 .undef = u := by rw [← hs0]; rfl
    clear hs0
    have hpl := hp.len
    have bad : ∀ (h : Heap) (e : Nat), rowsF pg = ([], e) → ∃ w, closRes h (.tup [nilS, vi .u16 (e : Nat)]) = some w ∧ RowsP pg w := fun h e he => ⟨_, rfl, nilS, [], by rw [he], .nil, by rw [he]; exact .nil⟩
    simp only [go_sem, Nat.reduceLT, Nat.reduceEqDiff, reduceCtorEq, Int.reduceLT, Int.reduceEq, hs, h0, hu.ln]
    refine f14_loop hp hu hn hb pg.length 0 [] [] nilS _ _ _ (by omega) (BufG.nil _ _) .nil (by simp) (by simp only [slot_len, hs]) (by simp only [go_sem, Nat.reduceLT, Nat.reduceEqDiff, reduceCtorEq, Int.reduceLT, Int.reduceEq, h0]) (by simp only [go_sem, Nat.reduceLT, Nat.reduceEqDiff, reduceCtorEq, Int.reduceLT, Int.reduceEq, hs]) (by simp only [go_sem, Nat.reduceLT, Nat.reduceEqDiff, reduceCtorEq, Int.reduceLT, Int.reduceEq, hs]) (by simp only [go_sem, Nat.reduceLT, Nat.reduceEqDiff, reduceCtorEq, Int.reduceLT, Int.reduceEq, hs, hpl]) (by simp only [go_sem, Nat.reduceLT, Nat.reduceEqDiff, reduceCtorEq, Int.reduceLT, Int.reduceEq, hs]; rfl) (fun hh s' h' els' v' a1 a0 a2 a3 a4 a5 => ?_) (fun hh s' h' a1 a2 a3 => ?_)
    · rw [List.drop_zero] at hh a4 a5
      obtain ⟨w, h2, c1, c2, _, vz, _⟩ := a3.vf.closZ
      obtain ⟨v13, h13, n13, w13, r13, hB⟩ := build_pure c2 a4 (by omega)
      simp only [go_sem, Nat.reduceLT, Nat.reduceEqDiff, reduceCtorEq, Int.reduceLT, Int.reduceEq, a1, a2]
      refine XO_callP (h1 := h2) (by simp only [List.map, go_sem, Nat.reduceLT, Nat.reduceEqDiff, reduceCtorEq, Int.reduceLT, Int.reduceEq, a1, a2]; exact closAs_cons c1 rfl) n13 r13 ?_
      cases hbd : buildF (rowsA pg []).2 with
      | none =>
        rw [hbd] at hB
        have hB' : w13 = .tup [nilS, vb false] := hB
        subst hB'
        simp only [go_sem, Nat.reduceLT, Nat.reduceEqDiff, reduceCtorEq, Int.reduceLT, Int.reduceEq, a1]
        refine bad _ 11 ?_
        unfold rowsF; rw [if_neg (by omega), if_neg (by rw [hbd]; simp)]
      | some p2 =>
        rw [hbd] at hB
        obtain ⟨x, elsB, rfl, sx, pE⟩ := hB
        have hp2 : p2.length ≤ 1000000 := buildF_len hbd
        obtain ⟨h25, n25⟩ := eq_f25 pE hp sx hu hp2
        simp only [go_sem, Nat.reduceLT, Nat.reduceEqDiff, reduceCtorEq, Int.reduceLT, Int.reduceEq, a1, a0]
        refine XO_callP (h1 := h2) (by simp only [List.map, go_sem, Nat.reduceLT, Nat.reduceEqDiff, reduceCtorEq, Int.reduceLT, Int.reduceEq, a1, a0]; exact sx.clos (hu.clos rfl)) n25 rfl ?_
        by_cases d : p2 = pg
        · have hr : rowsF pg = ((rowsA pg []).2, 0) := by unfold rowsF; rw [if_neg (by omega), if_pos (by rw [hbd, d])]
          obtain ⟨w2, e1, e2⟩ := vz.clos
          simp only [go_sem, Nat.reduceLT, Nat.reduceEqDiff, reduceCtorEq, Int.reduceLT, Int.reduceEq, a1, a2, d]
          refine ⟨.tup [w2, vi .u16 0], ?_, w2, els', by rw [hr]; rfl, e2, by rw [hr]; exact a4⟩
          have : closAs h2 [v', vi .u16 0] = some ([w2, vi .u16 0], h2) := closAs_cons e1 (clos_cv rfl)
          simp only [closRes, this, Option.map]
        · simp only [go_sem, Nat.reduceLT, Nat.reduceEqDiff, reduceCtorEq, Int.reduceLT, Int.reduceEq, a1, d]
          refine bad _ 11 ?_
          unfold rowsF; rw [if_neg (by omega), if_neg (by rw [hbd]; simpa using d)]
    · rw [List.drop_zero] at hh a3
      simp only [go_sem, Nat.reduceLT, Nat.reduceEqDiff, reduceCtorEq, Int.reduceLT, Int.reduceEq, a1, a2, a3]
      refine bad _ _ ?_
      unfold rowsF; rw [if_pos hh]
  obtain ⟨v, h', n1, w, c1, c2⟩ := this
  exact ⟨v, h', n1, w, c1, c2⟩
end
end Go.V06

set_option linter.unusedSimpArgs false
set_option linter.unusedVariables false
namespace Go.V06
open Go Go.Vm

theorem grp_nil : grp [] = [[]] := rfl
theorem build_nil : buildF [] = some [pageB 0 []] := by
  unfold buildF
  rw [if_pos ⟨rfl, by simp⟩]
  unfold bldF
  rw [grp_nil, if_pos (by simp [sumL])]
  simp
theorem decF_256 {b : List UInt8} (h : (decF b).2.2 = 0) : b.length = 256 := by
  unfold decF at h
  split at h
  · simp at h
  · rename_i hh; omega
theorem pageB_256 {n : Nat} {l : List KV} (hn : n ≤ 4) (hf : fitF 0 l = l.length) : (pageB n l).length = 256 := decF_256 (by rw [decF_page hn hf])
theorem rows_nil : rowsF [pageB 0 []] = ([], 0) := by
  have hd := decF_page (level := 0) (l := []) (by omega) rfl
  have : rowsA [pageB 0 []] [] = (0, []) := by
    simp [rowsA, hd]
  unfold rowsF
  rw [this, if_neg (by simp), if_pos build_nil]

theorem known_f8 : ∃ h', call F 8 [] [] = some (.ret (vb true), h') := by
  have : Ret F 8 [] [] fun v h' => v = vb true := by
    refine call_E (fn := f8) rfl ?_
    simp only [f8]
    generalize hs0 : ([] ++ List.replicate _ VV.undef : List VV) = s
    have hs : s.length = 42 := by rw [← hs0]; rfl
    clear hs0
    obtain ⟨v1, h1, n1, w1, r1, q1⟩ := build_pure (SlV.nil (z := 2)) RowsE.nil (by simp)
    rw [build_nil] at q1
    obtain ⟨x, elsP, rfl, sx, pE⟩ := q1
    have hpl := pE.len
    obtain ⟨v2, h2, n2, w2, r2, y, els, rfl, sy, hR⟩ := rows_f14 pE sx (by simp) (by intro b hb; simp at hb; subst hb; rw [pageB_256 (by omega) rfl]; omega)
    rw [rows_nil] at r2 hR
    have hels : els = [] := by cases hR; rfl
    subst hels
    have hR2 : RowsE [[CV.sc (.string ⟨#[98]⟩), .sc (.slice none 0 0)], [.sc (.string ⟨#[97]⟩), .sc (.slice none 0 0)]] [([98], []), ([97], [])] :=
      .cons ⟨_, rfl, .inl ⟨rfl, rfl⟩⟩ (.cons ⟨_, rfl, .inl ⟨rfl, rfl⟩⟩ .nil)
    obtain ⟨v3, h3, n3, w3, r3, q3⟩ := build_pure (u := .cv (.sl 2 [[CV.sc (.string ⟨#[98]⟩), .sc (.slice none 0 0)], [.sc (.string ⟨#[97]⟩), .sc (.slice none 0 0)]] true)) (.inr ⟨true, rfl⟩) hR2 (by simp)
    have hb : buildF [([98], []), ([97], [])] = none := by unfold buildF; rw [if_neg (by decide)]
    rw [hb] at q3
    have q3' : w3 = .tup [nilS, vb false] := q3
    subst q3'
    have c1 : ((elsP.length : Nat) : Int) = 1 := by simp at hpl; omega
    have mk3 : mkO ([] : Heap) 2 2 [VV.cv (CV.sc (.string ⟨#[]⟩)), .cv (.sc (.slice none 0 0)), .cv (.sc (.string ⟨#[]⟩)), .cv (.sc (.slice none 0 0))] [(0, 2, .agg [VV.cv (CV.sc (.string ⟨#[98]⟩)), .cv (.sc (.slice none 0 0))]), (2, 2, .agg [VV.cv (CV.sc (.string ⟨#[97]⟩)), .cv (.sc (.slice none 0 0))])] = some (.cv (.sl 2 [[CV.sc (.string ⟨#[98]⟩), .sc (.slice none 0 0)], [.sc (.string ⟨#[97]⟩), .sc (.slice none 0 0)]] true), []) := rfl
    have bd1 : bdO [VV.cv (CV.sc (.string ⟨#[]⟩)), .cv (.sc (.slice none 0 0))] [(0, 1, VV.cv (CV.sc (.string ⟨#[98]⟩)))] = some (.agg [VV.cv (CV.sc (.string ⟨#[98]⟩)), .cv (.sc (.slice none 0 0))]) := rfl
    have bd2 : bdO [VV.cv (CV.sc (.string ⟨#[]⟩)), .cv (.sc (.slice none 0 0))] [(0, 1, VV.cv (CV.sc (.string ⟨#[97]⟩)))] = some (.agg [VV.cv (CV.sc (.string ⟨#[97]⟩)), .cv (.sc (.slice none 0 0))]) := rfl
    simp only [go_sem, Nat.reduceLT, Nat.reduceEqDiff, reduceCtorEq, Int.reduceLT, Int.reduceEq, hs]
    refine XO_callP (h1 := []) (by simp only [List.map, go_sem, Nat.reduceLT, Nat.reduceEqDiff, reduceCtorEq, Int.reduceLT, Int.reduceEq, hs]; rfl) n1 r1 ?_
    simp only [go_sem, Nat.reduceLT, Nat.reduceEqDiff, reduceCtorEq, Int.reduceLT, Int.reduceEq, hs]
    refine XO_callP (h1 := []) (by simp only [List.map, go_sem, Nat.reduceLT, Nat.reduceEqDiff, reduceCtorEq, Int.reduceLT, Int.reduceEq, hs]; exact sx.clos rfl) n2 r2 ?_
    simp only [go_sem, Nat.reduceLT, Nat.reduceEqDiff, reduceCtorEq, Int.reduceLT, Int.reduceEq, hs, bd1, bd2, mk3]
    refine XO_callP (h1 := []) (by simp only [List.map, go_sem, Nat.reduceLT, Nat.reduceEqDiff, reduceCtorEq, Int.reduceLT, Int.reduceEq, hs]; rfl) n3 r3 ?_
    simp only [go_sem, Nat.reduceLT, Nat.reduceEqDiff, reduceCtorEq, Int.reduceLT, Int.reduceEq, hs, sx.ln, c1, sy.ln, List.length_nil, Int.ofNat_zero, show ((0 : Nat) : Int) = 0 from rfl]
  obtain ⟨v, h', n1, rfl⟩ := this
  exact ⟨h', n1⟩

theorem builds_f9 {u : VV} {els : List (List CV)} {l : List KV} (hS : SlV 2 els u) (hR : RowsE els l) (hl : l.length ≤ 9223372036854775807) : ∃ h', call F 9 [u] [] = some (.ret (vb true), h') := by
  have : Ret F 9 [u] [] fun v h' => v = vb true := by
    refine call_E (fn := f9) rfl ?_
    simp only [f9]
    generalize hs0 : ([u] ++ List.replicate _ VV.undef : List VV) = s
    have hs : s.length = 32 := by rw [← hs0]; rfl
    have h0 : s.getD 0 .undef = u := by rw [← hs0]; rfl
    clear hs0
    have hcl : closAs ([] : Heap) [u] = some ([u], []) := hS.clos rfl
    obtain ⟨v1, h1', n1, w1, r1, q1⟩ := build_pure hS hR hl
    obtain ⟨v2, h2', n2, w2, r2, q2⟩ := rbuild_f19 hS hR hl
    obtain ⟨h15, n15⟩ := rising_f15 hS hR hl
    obtain ⟨h21, n21⟩ := rrising_f21 hS hR hl
    have fin : ∀ (t : Bool) (x y : VV) (a b : List (List UInt8)) (ea eb : List (List CV)), w1 = .tup [x, vb t] → w2 = .tup [y, vb t] → SlV 1 ea x → SlV 1 eb y → PgE ea a → PgE eb a → a.length ≤ 1000000 → X F (f9.body) ⟨s, []⟩ (RQ [.t 2] fun v h' => v = vb true) := by
      intro t x y a b ea eb e1 e2 sx sy pa pb ha
      subst e1 e2
      obtain ⟨h20, n20⟩ := same_f20 pa pb sx sy ha
      simp only [f9]
      simp only [go_sem, Nat.reduceLT, Nat.reduceEqDiff, reduceCtorEq, Int.reduceLT, Int.reduceEq, hs, h0]
      refine XO_callP (h1 := []) (by simp only [List.map, go_sem, Nat.reduceLT, Nat.reduceEqDiff, reduceCtorEq, Int.reduceLT, Int.reduceEq, hs]; exact hcl) n1 r1 ?_
      simp only [go_sem, Nat.reduceLT, Nat.reduceEqDiff, reduceCtorEq, Int.reduceLT, Int.reduceEq, hs, h0]
      refine XO_callP (h1 := []) (by simp only [List.map, go_sem, Nat.reduceLT, Nat.reduceEqDiff, reduceCtorEq, Int.reduceLT, Int.reduceEq, hs]; exact hcl) n2 r2 ?_
      simp only [go_sem, Nat.reduceLT, Nat.reduceEqDiff, reduceCtorEq, Int.reduceLT, Int.reduceEq, hs, eqb_eq, beq_self_eq_true]
      refine XO_callP (h1 := []) (by simp only [List.map, go_sem, Nat.reduceLT, Nat.reduceEqDiff, reduceCtorEq, Int.reduceLT, Int.reduceEq, hs]; exact sx.clos (sy.clos rfl)) n20 rfl ?_
      simp only [go_sem, Nat.reduceLT, Nat.reduceEqDiff, reduceCtorEq, Int.reduceLT, Int.reduceEq, hs, decide_true, h0]
      refine XO_callP (h1 := []) (by simp only [List.map, go_sem, Nat.reduceLT, Nat.reduceEqDiff, reduceCtorEq, Int.reduceLT, Int.reduceEq, hs]; exact hcl) n15 rfl ?_
      simp only [go_sem, Nat.reduceLT, Nat.reduceEqDiff, reduceCtorEq, Int.reduceLT, Int.reduceEq, hs, h0]
      refine XO_callP (h1 := []) (by simp only [List.map, go_sem, Nat.reduceLT, Nat.reduceEqDiff, reduceCtorEq, Int.reduceLT, Int.reduceEq, hs]; exact hcl) n21 rfl ?_
      simp only [go_sem, Nat.reduceLT, Nat.reduceEqDiff, reduceCtorEq, Int.reduceLT, Int.reduceEq, hs, eqb_eq, beq_self_eq_true]
    cases hb : buildF l with
    | none =>
      rw [hb] at q1 q2
      exact fin false nilS nilS [] [] [] [] q1 q2 .nil .nil .nil .nil (by simp)
    | some p =>
      rw [hb] at q1 q2
      obtain ⟨x, ea, e1, sx, pa⟩ := q1
      obtain ⟨y, eb, e2, sy, pb⟩ := q2
      exact fin true x y p p ea eb e1 e2 sx sy pa pb (buildF_len hb)
  obtain ⟨v, h', n1, rfl⟩ := this
  exact ⟨h', n1⟩
end Go.V06

set_option linter.unusedSimpArgs false
set_option linter.unusedVariables false
namespace Go.V06
open Go Go.Vm

def layS (r : KV) : List KV → Bool → List KV × Bool
  | [], b => ([], b)
  | p :: t, b => if p.1 = r.1 then layS r t b else if b = false ∧ Op.bytesLess r.1 p.1 = true then (r :: p :: (layS r t true).1, (layS r t true).2) else (p :: (layS r t b).1, (layS r t b).2)
def layF (l : List KV) (r : KV) : List KV := if (layS r l false).2 = true then (layS r l false).1 else (layS r l false).1 ++ [r]

theorem layS_len (r : KV) : ∀ (l : List KV) (b : Bool), (layS r l b).1.length ≤ l.length + 1
  | [], _ => by simp [layS]
  | p :: t, b => by
    have h1 := layS_len r t b
    have h2 : (layS r t true).1.length ≤ t.length := by
      have : ∀ t : List KV, (layS r t true).1.length ≤ t.length := by
        intro t
        induction t with
        | nil => simp [layS]
        | cons p t ih =>
          rw [layS]
          split
          · simp; omega
          · rw [if_neg (by simp)]; simp; omega
      exact this t
    rw [layS]
    split
    · simp; omega
    · split
      · simp; omega
      · simp; omega

theorem bo_gtr {a b : List UInt8} : binO .gtr (txt a) (txt b) = some (vb (Op.bytesLess b a)) := by
  have h1 : binO .gtr (txt a) (txt b) = some (vb (!(Op.bytesLess a b || a == b))) := rfl
  rw [h1]
  have h2 : bl_le a b = (Op.bytesLess a b || a == b) := rfl
  rw [← h2]
  cases h : bl_le a b with
  | true => rw [bl_le_iff.1 h]; rfl
  | false => rw [bl_not_le.1 h]; rfl
theorem bo_eql {a b : List UInt8} : binO .eql (txt a) (txt b) = some (vb (decide (a = b))) := by
  by_cases h : a = b <;> simp [binO, binV, h]

theorem mk_row {h : Heap} {k : List UInt8} {c : CV} : mkO h 2 1 [.cv (.sc (.string ⟨#[]⟩)), .cv (.sc (.slice none 0 0))] [(0, 2, .agg [txt k, .cv c])] = some (.cv (.sl 2 [[.sc (.string ⟨k.toArray⟩), c]] true), h) := mk_agg2

section
variable {l : List KV} {els : List (List CV)} {u : VV} {r : KV} {cr : CV}
theorem f22_loop {h0 : Heap} {p0 : Nat} (hV : ∀ g, HExt h0 g → VF g 2 els u) (hB0 : h0[p0]? = some (.box [txt r.1, .cv cr] false)) (hR : RowsE els l) (hn : l.length ≤ 1000000) (hcr : SlV 1 (eB r.2) (.cv cr)) : ∀ (m i : Nat) (acc : List KV) (elsA : List (List CV)) (va : VV) (b : Bool) (s : List VV) (h : Heap) (Q : Pst), i + m = l.length → acc.length ≤ 2 * i → NB h0 h 2 elsA va → RowsE elsA acc →
    s.length = 52 → s.getD 0 .undef = u → s.getD 3 .undef = .ptr p0 0 → s.getD 5 .undef = va → s.getD 6 .undef = vb b → s.getD 7 .undef = vi .i64 i →
    (∀ s' h' va' elsA', s'.length = 52 → s'.getD 3 .undef = .ptr p0 0 → s'.getD 5 .undef = va' → s'.getD 6 .undef = vb (layS r (l.drop i) b).2 → NB h0 h' 2 elsA' va' → RowsE elsA' (acc ++ (layS r (l.drop i) b).1) → Q (.exit 0) ⟨s', h'⟩) → X F (.loop f22_2) ⟨s, h⟩ Q := by
  intro m
  have hl := hR.len
  induction m with
  | zero =>
    intro i acc elsA va b s h Q hi hac hA hRA hs e0 e3 e5 e6 e7 hQ
    have c : ¬ ((i : Nat) : Int) < (els.length : Int) := by omega
    have hS := hV h hA.ext
    rw [X_loop, X_eq f22_2.eq_1]
    simp only [go_sem, Nat.reduceLT, Nat.reduceEqDiff, reduceCtorEq, Int.reduceLT, Int.reduceEq, hs, e7, e0, hS.ln, c]
    have hd : l.drop i = [] := List.drop_eq_nil_of_le (by omega)
    rw [hd] at hQ
    refine hQ _ _ va elsA (by simp only [slot_len, hs]) (by simp only [go_sem, Nat.reduceLT, Nat.reduceEqDiff, reduceCtorEq, Int.reduceLT, Int.reduceEq, e3]) (by simp only [go_sem, Nat.reduceLT, Nat.reduceEqDiff, reduceCtorEq, Int.reduceLT, Int.reduceEq, e5]) (by simp only [go_sem, Nat.reduceLT, Nat.reduceEqDiff, reduceCtorEq, Int.reduceLT, Int.reduceEq, e6]; rfl) hA ?_
    simpa [layS] using hRA
  | succ m ih =>
    intro i acc elsA va b s h Q hi hac hA hRA hs e0 e3 e5 e6 e7 hQ
    have c : ((i : Nat) : Int) < (els.length : Int) := by omega
    obtain ⟨e, p, he, hp, c', rfl, hc'⟩ := hR.get (i := i) (by omega)
    have hAl := hRA.len
    have hd : l.drop i = p :: l.drop (i + 1) := by
      obtain ⟨la, rfl⟩ := List.getElem?_eq_some_iff.1 hp
      rw [List.drop_eq_getElem_cons la]
    have hS := hV h hA.ext
    obtain ⟨q, ia, la2, q3, _⟩ := (hV h hA.ext).cell (k := .i64) he
    obtain ⟨q', fdr, la⟩ := q3 0 _ rfl
    have hwr : IntKind.i64.wrap ((i : Int) + 1) = ((i + 1 : Nat) : Int) := by rw [IntWalk.i64_in _ (by omega)]; omega
    have hb : h[p0]? = some (.box [txt r.1, .cv cr] false) := hA.ext.get hB0
    have fd0 : fdO 0 (.ptr p0 0) = some (.ptr p0 0) := rfl
    have lb : ldO h false 1 (.ptr p0 0) = some (txt r.1, h) := ld_ptr hb rfl
    rw [hd] at hQ
    rw [X_loop, X_eq f22_2.eq_1]
    simp only [go_sem, Nat.reduceLT, Nat.reduceEqDiff, reduceCtorEq, Int.reduceLT, Int.reduceEq, hs, e7, e0, hS.ln, c]
    rw [X_eq f22_0.eq_1]
    simp only [go_sem, Nat.reduceLT, Nat.reduceEqDiff, reduceCtorEq, Int.reduceLT, Int.reduceEq, hs]
    refine X_draw rfl ?_
    simp only [go_sem, Nat.reduceLT, Nat.reduceEqDiff, reduceCtorEq, Int.reduceLT, Int.reduceEq, hs, e0, e7, ia, fdr, la, e3, fd0, lb, bo_eql]
    by_cases d : p.1 = r.1
    · simp only [go_sem, Nat.reduceLT, Nat.reduceEqDiff, reduceCtorEq, Int.reduceLT, Int.reduceEq, hs, d, e7, hwr]
      refine ih (i + 1) acc elsA va b _ _ Q (by omega) (by omega) hA hRA (by simp only [slot_len, hs]) (by simp only [go_sem, Nat.reduceLT, Nat.reduceEqDiff, reduceCtorEq, Int.reduceLT, Int.reduceEq, e0]) (by simp only [go_sem, Nat.reduceLT, Nat.reduceEqDiff, reduceCtorEq, Int.reduceLT, Int.reduceEq, e3]) (by simp only [go_sem, Nat.reduceLT, Nat.reduceEqDiff, reduceCtorEq, Int.reduceLT, Int.reduceEq, e5]) (by simp only [go_sem, Nat.reduceLT, Nat.reduceEqDiff, reduceCtorEq, Int.reduceLT, Int.reduceEq, e6]) (by simp only [go_sem, Nat.reduceLT, Nat.reduceEqDiff, reduceCtorEq, Int.reduceLT, Int.reduceEq, hs]) ?_
      simp only [layS, if_pos d] at hQ
      exact hQ
    · simp only [layS, if_neg d] at hQ
      simp only [go_sem, Nat.reduceLT, Nat.reduceEqDiff, reduceCtorEq, Int.reduceLT, Int.reduceEq, hs, d]
      refine mid (P := fun st => ∃ acc' elsB vb' b', st.s.length = 52 ∧ st.s.getD 0 .undef = u ∧ st.s.getD 3 .undef = .ptr p0 0 ∧ st.s.getD 5 .undef = vb' ∧ st.s.getD 6 .undef = vb b' ∧ st.s.getD 7 .undef = vi .i64 i ∧ NB h0 st.h 2 elsB vb' ∧ RowsE elsB acc' ∧ acc'.length ≤ 2 * i + 1 ∧
          (if b = false ∧ Op.bytesLess r.1 p.1 = true then (r :: p :: (layS r (l.drop (i + 1)) true).1, (layS r (l.drop (i + 1)) true).2) else (p :: (layS r (l.drop (i + 1)) b).1, (layS r (l.drop (i + 1)) b).2)).2 = (layS r (l.drop (i + 1)) b').2 ∧
          acc ++ (if b = false ∧ Op.bytesLess r.1 p.1 = true then (r :: p :: (layS r (l.drop (i + 1)) true).1, (layS r (l.drop (i + 1)) true).2) else (p :: (layS r (l.drop (i + 1)) b).1, (layS r (l.drop (i + 1)) b).2)).1 = acc' ++ (p :: (layS r (l.drop (i + 1)) b').1)) ?_ ?_
      · rw [X_eq f22_1.eq_1]
        simp only [go_sem, Nat.reduceLT, Nat.reduceEqDiff, reduceCtorEq, Int.reduceLT, Int.reduceEq, hs]
        refine X_draw rfl ?_
        cases b with
        | true =>
          simp only [go_sem, Nat.reduceLT, Nat.reduceEqDiff, reduceCtorEq, Int.reduceLT, Int.reduceEq, hs, e6]
          rw [if_neg (by simp)]
          exact ⟨trivial, acc, elsA, va, true, by simp only [slot_len, hs], by simp only [go_sem, Nat.reduceLT, Nat.reduceEqDiff, reduceCtorEq, Int.reduceLT, Int.reduceEq, e0], by simp only [go_sem, Nat.reduceLT, Nat.reduceEqDiff, reduceCtorEq, Int.reduceLT, Int.reduceEq, e3], by simp only [go_sem, Nat.reduceLT, Nat.reduceEqDiff, reduceCtorEq, Int.reduceLT, Int.reduceEq, e5], by simp only [go_sem, Nat.reduceLT, Nat.reduceEqDiff, reduceCtorEq, Int.reduceLT, Int.reduceEq, e6], by simp only [go_sem, Nat.reduceLT, Nat.reduceEqDiff, reduceCtorEq, Int.reduceLT, Int.reduceEq, e7], hA, hRA, by omega, rfl, rfl⟩
        | false =>
          simp only [go_sem, Nat.reduceLT, Nat.reduceEqDiff, reduceCtorEq, Int.reduceLT, Int.reduceEq, hs, e6, e0, e7, ia, fdr, la, e3, fd0, lb, bo_gtr]
          cases d2 : Op.bytesLess r.1 p.1 with
          | false =>
            simp only [go_sem, Nat.reduceLT, Nat.reduceEqDiff, reduceCtorEq, Int.reduceLT, Int.reduceEq, hs]
            rw [if_neg (by simp)]
            exact ⟨trivial, acc, elsA, va, false, by simp only [slot_len, hs], by simp only [go_sem, Nat.reduceLT, Nat.reduceEqDiff, reduceCtorEq, Int.reduceLT, Int.reduceEq, e0], by simp only [go_sem, Nat.reduceLT, Nat.reduceEqDiff, reduceCtorEq, Int.reduceLT, Int.reduceEq, e3], by simp only [go_sem, Nat.reduceLT, Nat.reduceEqDiff, reduceCtorEq, Int.reduceLT, Int.reduceEq, e5], by simp only [go_sem, Nat.reduceLT, Nat.reduceEqDiff, reduceCtorEq, Int.reduceLT, Int.reduceEq, e6], by simp only [go_sem, Nat.reduceLT, Nat.reduceEqDiff, reduceCtorEq, Int.reduceLT, Int.reduceEq, e7], hA, hRA, by omega, rfl, rfl⟩
          | true =>
            have lb2 : ldO h true 2 (.ptr p0 0) = some (.agg [txt r.1, .cv cr], h) := ld_bxN hb rfl
            simp only [go_sem, Nat.reduceLT, Nat.reduceEqDiff, reduceCtorEq, Int.reduceLT, Int.reduceEq, hs, e5, e3, lb2, mk_row]
            refine XO_appNB hA (by simp only [go_sem, Nat.reduceLT, Nat.reduceEqDiff, reduceCtorEq, Int.reduceLT, Int.reduceEq, hs, e5]) (by simp only [go_sem, Nat.reduceLT, Nat.reduceEqDiff, reduceCtorEq, Int.reduceLT, Int.reduceEq, hs, src_sl]; rfl) (by simp only [List.length_singleton]; omega) (by simp only [List.length_singleton]; omega) (fun va' h4 hA4 _ _ _ => ?_)
            simp only [go_sem, Nat.reduceLT, Nat.reduceEqDiff, reduceCtorEq, Int.reduceLT, Int.reduceEq, hs]
            rw [if_pos (by simp)]
            refine ⟨trivial, acc ++ [r], _, va', true, by simp only [slot_len, hs], by simp only [go_sem, Nat.reduceLT, Nat.reduceEqDiff, reduceCtorEq, Int.reduceLT, Int.reduceEq, e0], by simp only [go_sem, Nat.reduceLT, Nat.reduceEqDiff, reduceCtorEq, Int.reduceLT, Int.reduceEq, e3], by simp only [go_sem, Nat.reduceLT, Nat.reduceEqDiff, reduceCtorEq, Int.reduceLT, Int.reduceEq, hs], by simp only [go_sem, Nat.reduceLT, Nat.reduceEqDiff, reduceCtorEq, Int.reduceLT, Int.reduceEq, hs], by simp only [go_sem, Nat.reduceLT, Nat.reduceEqDiff, reduceCtorEq, Int.reduceLT, Int.reduceEq, e7], hA4, hRA.snoc ⟨_, rfl, hcr⟩, by rw [List.length_append, List.length_singleton]; omega, rfl, by rw [List.append_assoc]; rfl⟩
      rintro ⟨s2, g⟩ ⟨acc', elsB, vb', b', hs, e0, e3, e5, e6, e7, hB, hRB, hlen, E2, E1⟩
      simp only at hs e0 e3 e5 e6 e7 hB
      obtain ⟨qb, ib, lb2, _, _⟩ := (hV g hB.ext).cell (k := .i64) he
      have lb2' : ldO g true 2 qb = some (.agg [txt p.1, .cv c'], g) := lb2 2 rfl
      rw [E2, E1] at hQ
      have hBl := hRB.len
      simp only [go_sem, Nat.reduceLT, Nat.reduceEqDiff, reduceCtorEq, Int.reduceLT, Int.reduceEq, hs, e5, e0, e7, ib, lb2', mk_row]
      refine XO_appNB hB (by simp only [go_sem, Nat.reduceLT, Nat.reduceEqDiff, reduceCtorEq, Int.reduceLT, Int.reduceEq, hs, e5]) (by simp only [go_sem, Nat.reduceLT, Nat.reduceEqDiff, reduceCtorEq, Int.reduceLT, Int.reduceEq, hs, src_sl]; rfl) (by simp only [List.length_singleton]; omega) (by simp only [List.length_singleton]; omega) (fun va' h4 hA4 _ _ _ => ?_)
      simp only [go_sem, Nat.reduceLT, Nat.reduceEqDiff, reduceCtorEq, Int.reduceLT, Int.reduceEq, hs, e7, hwr]
      refine ih (i + 1) (acc' ++ [p]) _ va' b' _ _ Q (by omega) (by rw [List.length_append, List.length_singleton]; omega) hA4 (hRB.snoc ⟨_, rfl, hc'⟩) (by simp only [slot_len, hs]) (by simp only [go_sem, Nat.reduceLT, Nat.reduceEqDiff, reduceCtorEq, Int.reduceLT, Int.reduceEq, e0]) (by simp only [go_sem, Nat.reduceLT, Nat.reduceEqDiff, reduceCtorEq, Int.reduceLT, Int.reduceEq, e3]) (by simp only [go_sem, Nat.reduceLT, Nat.reduceEqDiff, reduceCtorEq, Int.reduceLT, Int.reduceEq, hs]) (by simp only [go_sem, Nat.reduceLT, Nat.reduceEqDiff, reduceCtorEq, Int.reduceLT, Int.reduceEq, e6]) (by simp only [go_sem, Nat.reduceLT, Nat.reduceEqDiff, reduceCtorEq, Int.reduceLT, Int.reduceEq, hs]) ?_
      intro s' h' va' elsA' a1 a2 a3 a4 a6 a7
      exact hQ s' h' va' elsA' a1 a2 a3 a4 a6 (by rw [List.append_assoc] at a7; exact a7)

theorem lay_f22 {h : Heap} (hV : VF h 2 els u) (hR : RowsE els l) (hn : l.length ≤ 1000000) (hcr : SlV 1 (eB r.2) (.cv cr)) : Ret F 22 [u, .agg [txt r.1, .cv cr]] h fun v g => ∃ hh elsA, HExt h hh ∧ NB hh g 2 elsA v ∧ RowsE elsA (layF l r) := by
  refine call_E (fn := f22) rfl ?_
  simp only [f22]
  generalize hs0 : ([u, .agg [txt r.1, .cv cr]] ++ List.replicate _ VV.undef : List VV) = s
  have hs : s.length = 52 := by rw [← hs0]; rfl
  have h0 : s.getD 0 .undef = u := by rw [← hs0]; rfl
  have h1 : s.getD 1 .undef = .agg [txt r.1, .cv cr] := by rw [← hs0]; rfl
  clear hs0
  have bx : bxO h 2 (.agg [txt r.1, .cv cr]) = some (.ptr h.length 0, h ++ [.box [txt r.1, .cv cr] false]) := bx_agg rfl
  have x0 := HExt.push h (VO.box [txt r.1, .cv cr] false)
  have hB0 : (h ++ [VO.box [txt r.1, .cv cr] false])[h.length]? = some (.box [txt r.1, .cv cr] false) := at_last
  simp only [go_sem, Nat.reduceLT, Nat.reduceEqDiff, reduceCtorEq, Int.reduceLT, Int.reduceEq, hs, h1, bx]
  refine f22_loop (h0 := h ++ [VO.box [txt r.1, .cv cr] false]) (p0 := h.length) (fun g hg => hV.ext (x0.trans hg)) hB0 hR hn hcr l.length 0 [] [] nilS false _ _ _ (by omega) (by simp) (NB.nil _ _) .nil (by simp only [slot_len, hs]) (by simp only [go_sem, Nat.reduceLT, Nat.reduceEqDiff, reduceCtorEq, Int.reduceLT, Int.reduceEq, h0]) (by simp only [go_sem, Nat.reduceLT, Nat.reduceEqDiff, reduceCtorEq, Int.reduceLT, Int.reduceEq, hs]) (by simp only [go_sem, Nat.reduceLT, Nat.reduceEqDiff, reduceCtorEq, Int.reduceLT, Int.reduceEq, hs]) (by simp only [go_sem, Nat.reduceLT, Nat.reduceEqDiff, reduceCtorEq, Int.reduceLT, Int.reduceEq, hs]) (by simp only [go_sem, Nat.reduceLT, Nat.reduceEqDiff, reduceCtorEq, Int.reduceLT, Int.reduceEq, hs]; rfl) (fun s' h' va' elsA' a1 a2 a3 a4 a6 a7 => ?_)
  rw [List.drop_zero, List.nil_append] at a7
  rw [List.drop_zero] at a4
  have hAl := a7.len
  have hln := layS_len r l false
  have a5 := a6.ext.get hB0
  simp only [go_sem, Nat.reduceLT, Nat.reduceEqDiff, reduceCtorEq, Int.reduceLT, Int.reduceEq, a1]
  rw [X_eq f22_3.eq_1]
  cases d : (layS r l false).2 with
  | true =>
    rw [d] at a4
    simp only [go_sem, Nat.reduceLT, Nat.reduceEqDiff, reduceCtorEq, Int.reduceLT, Int.reduceEq, a1, a4, a3]
    exact ⟨_, elsA', x0, a6, by unfold layF; rw [if_pos d]; exact a7⟩
  | false =>
    rw [d] at a4
    have lb2 : ldO h' true 2 (.ptr h.length 0) = some (.agg [txt r.1, .cv cr], h') := ld_bxN a5 rfl
    simp only [go_sem, Nat.reduceLT, Nat.reduceEqDiff, reduceCtorEq, Int.reduceLT, Int.reduceEq, a1, a4, a3, a2, lb2, mk_row]
    refine XO_appNB a6 (by simp only [go_sem, Nat.reduceLT, Nat.reduceEqDiff, reduceCtorEq, Int.reduceLT, Int.reduceEq, a1, a3]) (by simp only [go_sem, Nat.reduceLT, Nat.reduceEqDiff, reduceCtorEq, Int.reduceLT, Int.reduceEq, a1, src_sl]; rfl) (by simp only [List.length_singleton]; omega) (by simp only [List.length_singleton]; omega) (fun va' h4 hA4 _ _ _ => ?_)
    simp only [go_sem, Nat.reduceLT, Nat.reduceEqDiff, reduceCtorEq, Int.reduceLT, Int.reduceEq, a1]
    exact ⟨_, _, x0, hA4, by unfold layF; rw [if_neg (by rw [d]; simp)]; exact a7.snoc ⟨_, rfl, hcr⟩⟩
end
end Go.V06
