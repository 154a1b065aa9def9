/- Part of a proof: of what it says, and when, each theorem tells itself. -/
import Derived.Test.YtjjmkcmolmjpeaaC07All5
set_option linter.unusedSimpArgs false
set_option linter.unusedVariables false
namespace Go.V07
open Go Go.Vm

/-! ### changes of choices -/
theorem chlist {n : Nat} (hn : n ≤ 60) (c : List UInt8) (vc : VV) (hc : SlV 1 (eB c) vc) : RetP F 13 [vc, vi .i64 n] fun w => ∃ els, SlV 3 els w ∧ ChsE els (chL n c) := by
  have : Ret F 13 [vc, vi .i64 n] [] fun v h' => ∃ els, closRes h' v = some (slV 3 els) ∧ ChsE els (chL n c) := by
    refine call_E (fn := f13) rfl ?_
    simp only [f13]
    generalize hs0 : ([vc, vi .i64 n] ++ List.replicate _ VV.undef : List VV) = s
    have hs : s.length = 42 := by rw [← hs0]; rfl
    have h0 : s.getD 0 .undef = vc := by rw [← hs0]; rfl
    have h1 : s.getD 1 .undef = vi .i64 n := by rw [← hs0]; rfl
    clear hs0
    obtain ⟨w1, g1, els, hc1, hr1, hR1⟩ := list_pure c vc hc n hn
    have hf := rowL_fits n c
    have hkl := rowL_len n c
    simp only [go_sem, Nat.reduceLT, Nat.reduceEqDiff, reduceCtorEq, Int.reduceLT, Int.reduceEq, hs, h0, h1]
    refine XO_callP (h1 := []) (by simp only [List.map, go_sem, Nat.reduceLT, Nat.reduceEqDiff, reduceCtorEq, Int.reduceLT, Int.reduceEq, hs]; exact hc.clos (clos_cv clos_nil)) hc1 hr1 ?_
    simp only [go_sem, Nat.reduceLT, Nat.reduceEqDiff, reduceCtorEq, Int.reduceLT, Int.reduceEq, hs]
    refine f13_loop els (rowL n c) (slV 2 els) slV_SlV hR1 (by omega) hf (rowL n c) 0 [] [] [] nilS _ _ rfl (by omega) (by simp only [List.length_nil]; omega) .nil (BufG.nil _ _) (by simp only [slot_len, hs]) (by simp only [go_sem, Nat.reduceLT, Nat.reduceEqDiff, reduceCtorEq, Int.reduceLT, Int.reduceEq, hs]) (by simp only [go_sem, Nat.reduceLT, Nat.reduceEqDiff, reduceCtorEq, Int.reduceLT, Int.reduceEq, hs]) (by simp only [go_sem, Nat.reduceLT, Nat.reduceEqDiff, reduceCtorEq, Int.reduceLT, Int.reduceEq, hs]; rfl) ?_
    intro s' h' v' els' hs' h5' hb' hC'
    simp only [go_sem, Nat.reduceLT, Nat.reduceEqDiff, reduceCtorEq, Int.reduceLT, Int.reduceEq, hs', h5']
    exact ⟨els', hb'.close, by simpa [chL] using hC'⟩
  obtain ⟨v, h', e1, els, e2, e3⟩ := this
  exact ⟨v, h', e1, _, e2, els, slV_SlV, e3⟩
theorem chL_fits (n : Nat) (c : List UInt8) : ChFits (chL n c) := by
  intro p hp
  unfold chL at hp
  obtain ⟨q, hq, rfl⟩ := List.mem_map.1 hp
  obtain ⟨h1, h2⟩ := rowL_fits n c q hq
  unfold chOf
  split
  · exact ⟨h1, by simp, fun _ => rfl⟩
  · exact ⟨h1, h2, fun h => by cases h⟩
theorem chL_len (n : Nat) (c : List UInt8) : (chL n c).length ≤ n := by unfold chL; rw [List.length_map]; exact rowL_len n c
theorem chB_fit {p : Ch} (h1 : p.1.length ≤ 30) (h2 : p.2.1.length ≤ 150) : (chB p).length ≤ 200 := by
  have h0 := chB_le p
  have a1 := num_len p.1.length
  have a2 := num_len p.2.1.length
  unfold text at h0
  simp only [List.length_append] at h0
  split at h0 <;> omega
theorem flatC_fit : ∀ l : List Ch, ChFits l → (flatC l).length ≤ 200 * l.length
  | [], _ => by simp [flatC]
  | p :: l, h => by
    have h1 := h p (by simp)
    have h2 := chB_fit h1.1 h1.2.1
    have h3 := flatC_fit l (fun q hq => h q (by simp [hq]))
    rw [flatC_cons, List.length_append, List.length_cons]; omega
theorem chsB_fit (l : List Ch) (h : ChFits l) : (chsB l).length ≤ 8 + 200 * l.length := by
  have h1 := flatC_fit l h
  have h2 := num_len l.length
  unfold chsB
  rw [List.length_append]
  unfold flatC at h1
  omega

/-! ### the chapter's example -/
def kn0 : List Ch := [([97], [49], false)]
def kn1 : List Ch := [([97], [], true)]
theorem kn_apply : applyF [] kn0 = [([97], [49])] := rfl
theorem kn_diff : diffF [([97], [49])] [] = kn1 := rfl
theorem kn_chs : chsB kn1 = [1, 1, 97, 1] := rfl
theorem kn_parts : partsF 1 0 kn1 = some [partB 1 0 0 1 [1, 1, 97, 1]] := by
  unfold partsF
  rw [kn_chs, if_pos ⟨rfl, rfl, by decide⟩]; rfl
theorem rdA_nil {epoch : Nat} : ∀ (m n : Nat), rdA epoch m n [] = ([], 0)
  | 0, _ => rfl
  | m + 1, n => rfl
theorem kn_read : readF 1 [partB 1 0 0 1 [1, 1, 97, 1]] = ([chsCs kn1], 1) := by
  have hf : ChFits kn1 := by intro p hp; simp [kn1] at hp; subst hp; simp
  have e := frameF_parts (epoch := 1) (n := 0) hf (by decide) (by rw [kn_chs]; decide) []
  rw [kn_chs] at e
  have e' : frameF 1 0 [partB 1 0 0 1 [1, 1, 97, 1]] = (chsCs kn1, 1) := e
  unfold readF
  rw [if_pos (show numOK 1 = true from rfl)]
  show rdA 1 2 0 _ = _
  rw [rdA, e']
  simp only [Nat.one_ne_zero, if_false, List.drop_succ_cons, List.drop_zero, rdA_nil]
theorem known_f11 : ∃ h', call F 11 [] [] = some (.ret (vb true), h') := by
  have : Ret F 11 [] [] fun v h' => v = vb true := by
    refine call_E (fn := f11) rfl ?_
    simp only [f11]
    generalize hs0 : ([] ++ List.replicate _ VV.undef : List VV) = s
    have hs : s.length = 62 := by rw [← hs0]; rfl
    clear hs0
    have hC0 : ChsE [[CV.sc (.string ⟨#[97]⟩), .sl 1 [[.sc (.int .u8 49)]] true, .sc (.bool false)]] kn0 := .cons ⟨_, rfl, .inr ⟨true, rfl⟩⟩ .nil
    obtain ⟨v1, g1, n1, w1, r1, els1, S1, R1⟩ := apply_f18 (G := False) insC_end (u := nilS) (.inl ⟨rfl, rfl⟩) .nil (by simp) hC0 (uc := .cv (.sl 3 [[CV.sc (.string ⟨#[97]⟩), .sl 1 [[.sc (.int .u8 49)]] true, .sc (.bool false)]] true)) (.inr ⟨true, rfl⟩) (by simp [kn0]) (by intro x hx; simp [kn0] at hx; subst hx; simp) (by
      refine .inr fun c1 x c2 e _ => ?_
      cases c1 with
      | nil => rfl
      | cons y c1 =>
        have := congrArg List.length e
        simp [kn0] at this)
    rw [kn_apply] at R1
    obtain ⟨v2, g2, n2, w2, r2, els2, S2, C2⟩ := diff_f21 R1 .nil S1 (ub := nilS) (.inl ⟨rfl, rfl⟩) (by intro r hr; simp at hr; subst hr; simp) (by intro r hr; simp at hr) (by simp)
    rw [kn_diff] at C2
    obtain ⟨v3, g3, n3, w3, r3, P3⟩ := parts_f24 (epoch := 1) (n := 0) S2 C2 (by rw [kn_chs]; simp) (by simp [kn1])
    rw [kn_parts] at P3
    obtain ⟨x3, els3, rfl, S3, P3⟩ := P3
    obtain ⟨v4, g4, n4, w4, r4, P4⟩ := read_pure P3 S3 (by simp) 1
    rw [kn_read] at P4
    obtain ⟨x4, els4, rfl, S4, P4⟩ := P4
    have l1 := R1.len
    have l2 := C2.len
    have l3 := P3.len
    have l4 := P4.len
    obtain ⟨e1, p1, he1, hp1, cc1, rfl, _⟩ := R1.get (i := 0) (by simp)
    simp at hp1; subst hp1
    obtain ⟨e2, p2, he2, hp2, cc2, rfl, _⟩ := C2.get (i := 0) (by simp [kn1])
    simp [kn1] at hp2; subst hp2
    have ia1 : ∀ g : Heap, iaO g 2 w1 (vi .i64 0) = some (.rptr [.sc (.string ⟨#[97]⟩), cc1], g) := fun g => S1.ia (by omega) he1
    have ia2 : ∀ g : Heap, iaO g 3 w2 (vi .i64 0) = some (.rptr [.sc (.string ⟨#[97]⟩), cc2, .sc (.bool true)], g) := fun g => S2.ia (by omega) he2
    have k1 : ((els1.length : Nat) : Int) = 1 := by rw [l1]; rfl
    have k2 : ((els2.length : Nat) : Int) = 1 := by rw [l2]; rfl
    have k3 : ((els3.length : Nat) : Int) = 1 := by rw [l3]; rfl
    have k4 : ((els4.length : Nat) : Int) = 1 := by rw [l4]; rfl
    have mk0 : mkoO ([] : Heap) 1 1 [.cv (.sc (.int .u8 0))] [(0, 1, .cv (.sc (.int .u8 49)))] = some (.own 0 0 0 1 true, [.arr 1 [[.sc (.int .u8 49)]] 0 false]) := rfl
    have bd : bdO [.cv (.sc (.string ⟨#[]⟩)), .cv (.sc (.slice none 0 0)), .cv (.sc (.bool false))] [(0, 1, .cv (.sc (.string ⟨#[97]⟩))), (1, 1, .own 0 0 0 1 true)] = some (.agg [.cv (.sc (.string ⟨#[97]⟩)), .own 0 0 0 1 true, .cv (.sc (.bool false))]) := rfl
    have mk : mkO ([.arr 1 [[.sc (.int .u8 49)]] 0 false] : Heap) 3 1 [.cv (.sc (.string ⟨#[]⟩)), .cv (.sc (.slice none 0 0)), .cv (.sc (.bool false))] [(0, 3, .agg [.cv (.sc (.string ⟨#[97]⟩)), .own 0 0 0 1 true, .cv (.sc (.bool false))])] = some (.cv (.sl 3 [[CV.sc (.string ⟨#[97]⟩), .sl 1 [[.sc (.int .u8 49)]] true, .sc (.bool false)]] true), [.arr 1 [[.sc (.int .u8 49)]] 0 true]) := rfl
    have mr : mrO ([.arr 1 [[.sc (.int .u8 49)]] 0 false] : Heap) (.own 0 0 0 1 true) = some (.own 0 0 0 1 true, [.arr 1 [[.sc (.int .u8 49)]] 0 false]) := rfl
    have fs : binO .eql (.cv (.sc (.string ⟨#[97]⟩))) (.cv (.sc (.string ⟨#[97]⟩))) = some (vb true) := by
      have := bo_eql (a := [97]) (b := [97])
      rw [this]; rfl
    simp only [go_sem, Nat.reduceLT, Nat.reduceEqDiff, reduceCtorEq, Int.reduceLT, Int.reduceEq, hs, mk0, mr, bd, mk]
    refine XO_callP (by simp only [List.map, go_sem, Nat.reduceLT, Nat.reduceEqDiff, reduceCtorEq, Int.reduceLT, Int.reduceEq, hs]; rfl) n1 r1 ?_
    simp only [go_sem, Nat.reduceLT, Nat.reduceEqDiff, reduceCtorEq, Int.reduceLT, Int.reduceEq, hs]
    refine XO_callP (by simp only [List.map, go_sem, Nat.reduceLT, Nat.reduceEqDiff, reduceCtorEq, Int.reduceLT, Int.reduceEq, hs]; exact S1.clos rfl) n2 r2 ?_
    simp only [go_sem, Nat.reduceLT, Nat.reduceEqDiff, reduceCtorEq, Int.reduceLT, Int.reduceEq, hs]
    refine XO_callP (by simp only [List.map, go_sem, Nat.reduceLT, Nat.reduceEqDiff, reduceCtorEq, Int.reduceLT, Int.reduceEq, hs]; exact clos_cv (clos_cv (S2.clos rfl))) n3 r3 ?_
    simp only [go_sem, Nat.reduceLT, Nat.reduceEqDiff, reduceCtorEq, Int.reduceLT, Int.reduceEq, hs]
    refine XO_callP (by simp only [List.map, go_sem, Nat.reduceLT, Nat.reduceEqDiff, reduceCtorEq, Int.reduceLT, Int.reduceEq, hs]; exact clos_cv (S3.clos rfl)) n4 r4 ?_
    simp only [go_sem, Nat.reduceLT, Nat.reduceEqDiff, reduceCtorEq, Int.reduceLT, Int.reduceEq, hs, S1.ln, S2.ln, S3.ln, S4.ln, k1, k2, k3, k4, ia1, ia2, fs]
    rfl
  obtain ⟨v, h', n1, rfl⟩ := this
  exact ⟨h', n1⟩
end Go.V07

set_option linter.unusedSimpArgs false
set_option linter.unusedVariables false
namespace Go.V07
open Go Go.Vm

theorem frL_bad {epoch n of_ m i : Nat} {b : List UInt8} {r : List (List UInt8)} {acc : List UInt8} (h : ¬ stepOK epoch n i of_ b) : frL epoch n of_ (m + 1) i (b :: r) acc = none := by
  simp only [frL]
  exact if_neg h
theorem frameF_bad {epoch n : Nat} {b : List UInt8} {r : List (List UInt8)} (h : ¬ stepOK epoch n 0 (ofOf b) b) : frameF epoch n (b :: r) = ([], 0) := by
  have : frameB epoch n (b :: r) = none := by
    exact frL_bad (m := 199) h
  unfold frameF
  rw [this]
theorem chs_pcs {l : List Ch} (hf : ChFits l) (hk : l.length ≤ 40) : (pcs 49 (chsB l)).length ≤ 200 ∧ 1 ≤ (pcs 49 (chsB l)).length := by
  have h1 := chsB_fit l hf
  have h2 := pcs_len (k := 49) (by omega) (chsB l).length (chsB l) (Nat.le_refl _)
  have h3 : 0 < (chsB l).length := List.length_pos_iff.2 (chsB_ne l)
  omega
theorem partsF_fits {epoch n : Nat} {l : List Ch} (he : epoch ≤ 1073741824) (hn : n ≤ 1073741824) (hf : ChFits l) (hk : l.length ≤ 40) : partsF epoch n l = some (partsL epoch n (pcs 49 (chsB l)).length 0 (pcs 49 (chsB l))) := by
  unfold partsF numOK
  rw [if_pos ⟨by simp; omega, by simp; omega, (chs_pcs hf hk).1⟩]
  rfl
end Go.V07

set_option linter.unusedSimpArgs false
set_option linter.unusedVariables false
namespace Go.V07
open Go Go.Vm

/-! ### frames of choices -/
def chunksC : Nat → List UInt8 → List (List UInt8)
  | 0, _ => []
  | m + 1, c => if c = [] then [] else c.take 8 :: chunksC m (c.drop 8)
def frameSec (epoch j : Nat) (l : List Ch) : List (List UInt8) := partsL epoch j (pcs 49 (chsB l)).length 0 (pcs 49 (chsB l))
def framesA (epoch : Nat) : Nat → List (List UInt8) → List (List UInt8)
  | _, [] => []
  | j, b :: r => frameSec epoch j (chL 4 b) ++ framesA epoch (j + 1) r
def framesL (epoch : Nat) (c : List UInt8) : List (List UInt8) := framesA epoch 0 (chunksC 5 c)
theorem frameSec_len (epoch j : Nat) (c : List UInt8) : 1 ≤ (frameSec epoch j (chL 4 c)).length ∧ (frameSec epoch j (chL 4 c)).length ≤ 200 := by
  have h1 := chL_len 4 c
  obtain ⟨a, b⟩ := chs_pcs (chL_fits 4 c) (by omega)
  unfold frameSec
  rw [partsL_len]
  exact ⟨b, a⟩
theorem chunks_len : ∀ (m : Nat) (c : List UInt8), (chunksC m c).length = (min c.length (8 * m) + 7) / 8
  | 0, c => by simp [chunksC]
  | m + 1, c => by
    unfold chunksC
    split
    · rename_i h; subst h; simp
    · rename_i h
      have h0 : 0 < c.length := List.length_pos_iff.2 h
      rw [List.length_cons, chunks_len m, List.length_drop]
      omega
theorem framesA_len (epoch : Nat) : ∀ (L : List (List UInt8)) (j : Nat), L.length ≤ (framesA epoch j L).length ∧ (framesA epoch j L).length ≤ 200 * L.length
  | [], j => by simp [framesA]
  | b :: r, j => by
    have h1 := framesA_len epoch r (j + 1)
    have h2 := frameSec_len epoch j b
    simp only [framesA, List.length_append, List.length_cons]
    omega
theorem rdA_frames {epoch : Nat} : ∀ (L : List (List UInt8)) (j m : Nat) (rest : List (List UInt8)), rdA epoch (L.length + m) j (framesA epoch j L ++ rest) = (L.map (fun b => chsCs (chL 4 b)) ++ (rdA epoch m (j + L.length) rest).1, (framesA epoch j L).length + (rdA epoch m (j + L.length) rest).2)
  | [], j, m, rest => by simp [framesA]
  | b :: r, j, m, rest => by
    have hk := chL_len 4 b
    have hs := frameSec_len epoch j b
    have e1 := frameF_parts (epoch := epoch) (n := j) (chL_fits 4 b) (by omega) (chs_pcs (chL_fits 4 b) (by omega)).1 (framesA epoch (j + 1) r ++ rest)
    have e2 : framesA epoch j (b :: r) ++ rest = partsL epoch j (pcs 49 (chsB (chL 4 b))).length 0 (pcs 49 (chsB (chL 4 b))) ++ (framesA epoch (j + 1) r ++ rest) := by
      simp only [framesA, frameSec, List.append_assoc]
    have e3 : (frameSec epoch j (chL 4 b)).length = (pcs 49 (chsB (chL 4 b))).length := by unfold frameSec; rw [partsL_len]
    have e4 : (b :: r).length + m = (r.length + m) + 1 := by rw [List.length_cons]; omega
    rw [e4, e2, rdA, e1]
    simp only
    rw [if_neg (by omega)]
    have e5 : (partsL epoch j (pcs 49 (chsB (chL 4 b))).length 0 (pcs 49 (chsB (chL 4 b))) ++ (framesA epoch (j + 1) r ++ rest)).drop (pcs 49 (chsB (chL 4 b))).length = framesA epoch (j + 1) r ++ rest := by
      rw [List.drop_append, partsL_len, Nat.sub_self, List.drop_zero, List.drop_of_length_le (by rw [partsL_len]; omega), List.nil_append]
    rw [e5, rdA_frames r (j + 1) m rest]
    have e6 : j + (b :: r).length = j + 1 + r.length := by rw [List.length_cons]; omega
    rw [e6]
    simp only [List.map_cons, List.cons_append, framesA, List.length_append, e3, Nat.add_assoc]
theorem readF_frames {epoch : Nat} (he : epoch ≤ 1073741824) (c : List UInt8) : readF epoch (framesL epoch c) = ((chunksC 5 c).map (fun b => chsCs (chL 4 b)), (framesL epoch c).length) := by
  have hl := framesA_len epoch (chunksC 5 c) 0
  have e := rdA_frames (epoch := epoch) (chunksC 5 c) 0 ((framesL epoch c).length + 1 - (chunksC 5 c).length) []
  have e1 : (chunksC 5 c).length + ((framesL epoch c).length + 1 - (chunksC 5 c).length) = (framesL epoch c).length + 1 := by
    unfold framesL; omega
  rw [e1, List.append_nil, rdA_nil] at e
  unfold readF
  rw [if_pos (by unfold numOK; simp; omega), Int.toNat_natCast]
  unfold framesL at e ⊢
  rw [e]
  simp
theorem framesA_mem {epoch : Nat} : ∀ (L : List (List UInt8)) (j : Nat) (b : List UInt8), b ∈ framesA epoch j L → ∃ n i of_ p, b = partB epoch n i of_ p ∧ p.length ≤ 49
  | [], j, b, h => by simp [framesA] at h
  | x :: r, j, b, h => by
    simp only [framesA, List.mem_append] at h
    rcases h with h | h
    · have key : ∀ (ps : List (List UInt8)) (i of_ : Nat), (∀ p ∈ ps, p.length ≤ 49) → b ∈ partsL epoch j of_ i ps → ∃ n i of_ p, b = partB epoch n i of_ p ∧ p.length ≤ 49 := by
        intro ps
        induction ps with
        | nil => intro i of_ _ hb; simp [partsL] at hb
        | cons p ps ih =>
          intro i of_ hp hb
          rcases List.mem_cons.1 hb with rfl | hb
          · exact ⟨j, i, of_, p, rfl, hp p (by simp)⟩
          · exact ih (i + 1) of_ (fun q hq => hp q (by simp [hq])) hb
      exact key _ _ _ (fun p hp => pcs_part p hp) h
    · exact framesA_mem r (j + 1) b h

/-! ### of which one sector is another one -/
def Bad (epoch : Nat) (b : List UInt8) : Prop := ∀ n i of_, ¬ stepOK epoch n i of_ b
theorem bad_zero (epoch : Nat) : Bad epoch (List.replicate 64 0) := by
  intro n i of_ h
  have := h.2.1
  have e : kOf (List.replicate 64 0) = 0 := by rfl
  omega
theorem bad_frames {e e0 : Nat} (h1 : e < 4294967296) (h2 : e0 < 4294967296) (hne : e ≠ e0) (c : List UInt8) : ∀ b ∈ framesL e0 c, Bad e b := by
  intro b hb n i of_
  obtain ⟨n', i', of', p, rfl, _⟩ := framesA_mem _ _ _ hb
  exact part_other (.inl fun e => hne (wd_inj h1 h2 e))
theorem frL_set {e n of_ : Nat} {b : List UInt8} (hb : Bad e b) : ∀ (m j : Nat) (ss : List (List UInt8)) (i : Nat) (acc : List UInt8), i < ss.length → j < of_ → of_ ≤ m + j →
    frL e n of_ m j (ss.set i b) acc = none ∨ (frL e n of_ m j (ss.set i b) acc = frL e n of_ m j ss acc ∧ of_ - j ≤ i)
  | 0, j, ss, i, acc, hi, h1, h2 => by omega
  | m + 1, j, [], i, acc, hi, h1, h2 => by simp at hi
  | m + 1, j, s :: r, 0, acc, hi, h1, h2 => .inl (frL_bad (hb _ _ _))
  | m + 1, j, s :: r, i + 1, acc, hi, h1, h2 => by
    rw [List.set_cons_succ]
    by_cases ok : stepOK e n j of_ s
    · simp only [frL, if_pos ok]
      by_cases g : j + 1 < of_
      · simp only [if_pos g]
        rcases frL_set hb m (j + 1) r i (acc ++ bodyOf s) (by simpa using hi) g (by omega) with h | ⟨h, h'⟩
        · exact .inl h
        · exact .inr ⟨h, by omega⟩
      · simp only [if_neg g]
        exact .inr ⟨by trivial, by omega⟩
    · exact .inl (frL_bad ok)
theorem frameF_set {e n : Nat} {b : List UInt8} (hb : Bad e b) {ss : List (List UInt8)} {i : Nat} (hi : i < ss.length) : frameF e n (ss.set i b) = ([], 0) ∨ (frameF e n (ss.set i b) = frameF e n ss ∧ (frameF e n ss).2 ≤ i) := by
  cases ss with
  | nil => simp at hi
  | cons s r =>
    cases i with
    | zero => exact .inl (frameF_bad (hb _ _ _))
    | succ i =>
      rw [List.set_cons_succ]
      by_cases ok : stepOK e n 0 (ofOf s) s
      · have hof : 1 ≤ ofOf s ∧ ofOf s ≤ 200 := ⟨ok.2.2.2.1, ok.2.2.2.2.1⟩
        have k := frL_set hb 200 0 (s :: r) (i + 1) [] (by simpa using hi) (show 0 < ofOf s by omega) (by omega) (n := n)
        rw [List.set_cons_succ] at k
        have hof2 : ofS (s :: r.set i b) = ofOf s := rfl
        have hof3 : ofS (s :: r) = ofOf s := rfl
        unfold frameF frameB
        rw [hof2, hof3]
        rcases k with k | ⟨k, k'⟩
        · rw [k]; exact .inl rfl
        · rw [k]
          refine .inr ⟨rfl, ?_⟩
          split
          · simp
          · split
            · simpa using k'
            · simp
      · exact .inl (frameF_bad ok)
theorem rdA_set {e : Nat} {b : List UInt8} (hb : Bad e b) : ∀ (m n : Nat) (ss : List (List UInt8)) (i : Nat), i < ss.length → (rdA e m n (ss.set i b)).2 ≤ i ∧ (rdA e m n (ss.set i b)).1 <+: (rdA e m n ss).1
  | 0, n, ss, i, hi => by simp [rdA]
  | m + 1, n, ss, i, hi => by
    rcases frameF_set hb hi (n := n) with h | ⟨h, h'⟩
    · rw [rdA, h]; simp
    · have hle := frameF_len (epoch := e) (n := n) (ss := ss)
      rw [rdA, rdA, h]
      generalize frameF e n ss = fr at *
      by_cases d : fr.2 = 0
      · rw [if_pos d]; simp
      · rw [if_neg d, if_neg d]
        have e1 : (ss.set i b).drop fr.2 = (ss.drop fr.2).set (i - fr.2) b := by rw [List.drop_set, if_neg (by omega)]
        rw [e1]
        have k := rdA_set hb m (n + 1) (ss.drop fr.2) (i - fr.2) (by rw [List.length_drop]; omega)
        exact ⟨by have := k.1; simp only; omega, by simpa using k.2⟩
theorem readF_set {e : Int} {b : List UInt8} (hb : Bad e.toNat b) {ss : List (List UInt8)} {i : Nat} (hi : i < ss.length) : (readF e (ss.set i b)).2 ≤ i ∧ (readF e (ss.set i b)).1 <+: (readF e ss).1 := by
  unfold readF
  split
  · rw [List.length_set]; exact rdA_set hb _ _ _ _ hi
  · simp

/-! ### Frames -/
theorem f14_loop {epoch : Nat} (he : epoch ≤ 1073741824) {c : List UInt8} {vc : VV} (hc : SlV 1 (eB c) vc) {h0 : Heap} : ∀ (m j : Nat) (acc : List (List UInt8)) (els : List (List CV)) (v : VV) (s : List VV) (h : Heap) (Q : Pst), j + m = 5 → 8 * j ≤ c.length + 7 → acc.length ≤ 200 * j → NB h0 h 1 els v → PgE els acc → s.length = 39 → s.getD 0 .undef = vc → s.getD 1 .undef = vi .i64 epoch → s.getD 5 .undef = v → s.getD 6 .undef = vi .i64 (8 * j : Nat) →
    (∀ s' h' els' v', s'.length = 39 → s'.getD 5 .undef = v' → NB h0 h' 1 els' v' → PgE els' (acc ++ framesA epoch j (chunksC m (c.drop (8 * j)))) → Q (.exit 0) ⟨s', h'⟩) → X F (.loop f14_0) ⟨s, h⟩ Q := by
  intro m
  induction m with
  | zero =>
    intro j acc els v s h Q hj hjc hac hB hP hs e0 e1 e5 e6 hQ
    have c2 : ¬ ((8 * j : Nat) : Int) < 40 := by omega
    rw [X_loop, X_eq f14_0.eq_1]
    by_cases c1 : ((8 * j : Nat) : Int) < (c.length : Int)
    · simp only [go_sem, Nat.reduceLT, Nat.reduceEqDiff, reduceCtorEq, Int.reduceLT, Int.reduceEq, hs, e6, e0, hc.ln, eB_len, c1, c2]
      exact hQ _ h els v (by simp only [slot_len, hs]) (by simp only [go_sem, Nat.reduceLT, Nat.reduceEqDiff, reduceCtorEq, Int.reduceLT, Int.reduceEq, e5]) hB (by simpa [chunksC, framesA] using hP)
    · simp only [go_sem, Nat.reduceLT, Nat.reduceEqDiff, reduceCtorEq, Int.reduceLT, Int.reduceEq, hs, e6, e0, hc.ln, eB_len, c1]
      exact hQ _ h els v (by simp only [slot_len, hs]) (by simp only [go_sem, Nat.reduceLT, Nat.reduceEqDiff, reduceCtorEq, Int.reduceLT, Int.reduceEq, e5]) hB (by simpa [chunksC, framesA] using hP)
  | succ m ih =>
    intro j acc els v s h Q hj hjc hac hB hP hs e0 e1 e5 e6 hQ
    have c2 : ((8 * j : Nat) : Int) < 40 := by omega
    rw [X_loop, X_eq f14_0.eq_1]
    by_cases c1 : ((8 * j : Nat) : Int) < (c.length : Int)
    · have hne : c.drop (8 * j) ≠ [] := by
        intro e
        have := congrArg List.length e
        rw [List.length_drop, List.length_nil] at this; omega
      have hch : chunksC (m + 1) (c.drop (8 * j)) = (c.drop (8 * j)).take 8 :: chunksC m (c.drop (8 * (j + 1))) := by
        rw [chunksC, if_neg hne, List.drop_drop]; rfl
      rw [hch, framesA] at hQ
      have z8 : (8 : Int) ≠ 0 := by decide
      have wq : IntKind.i64.wrap (((8 * j : Nat) : Int).tdiv 8) = (j : Int) := by
        have e : ((8 * j : Nat) : Int).tdiv 8 = ((8 * j / 8 : Nat) : Int) := rfl
        rw [e, IntWalk.i64_in _ (by omega)]; omega
      have w8 : IntKind.i64.wrap (((8 * j : Nat) : Int) + 8) = ((8 * (j + 1) : Nat) : Int) := by rw [IntWalk.i64_in _ (by omega)]; omega
      have hmn : min ((8 * (j + 1) : Nat) : Int) (c.length : Int) = ((min (8 * (j + 1)) c.length : Nat) : Int) := by omega
      obtain ⟨v', sv, svs⟩ : ∃ v', SlV 1 (eB ((c.drop (8 * j)).take 8)) v' ∧ slO h 1 vc (some (vi .i64 ((8 * j : Nat) : Int))) (some (vi .i64 ((min (8 * (j + 1)) c.length : Nat) : Int))) none = some (v', h) := by
        rcases hc with ⟨rfl, e⟩ | ⟨ex, rfl⟩
        · exfalso
          have := congrArg List.length e
          rw [eB_len, List.length_nil] at this; omega
        · obtain ⟨ex', he'⟩ := sl_sl (h := h) (z := 1) (els := eB c) (ex := ex) (k := .i64) (k' := .i64) (a := ((8 * j : Nat) : Int)) (b := ((min (8 * (j + 1)) c.length : Nat) : Int)) (by omega) (by omega) (by rw [eB_len]; omega)
          refine ⟨_, ?_, he'⟩
          rw [Int.toNat_natCast, Int.toNat_natCast, eB_part]
          have e3 : (c.drop (8 * j)).take (min (8 * (j + 1)) c.length - 8 * j) = (c.drop (8 * j)).take 8 := by
            rw [List.take_eq_take_iff, List.length_drop]; omega
          rw [e3]
          exact .inr ⟨_, rfl⟩
      obtain ⟨v13, g13, n13, w13, r13, els13, S13, C13⟩ := chlist (n := 4) (by omega) ((c.drop (8 * j)).take 8) v' sv
      have hf := chL_fits 4 ((c.drop (8 * j)).take 8)
      have hk := chL_len 4 ((c.drop (8 * j)).take 8)
      have hb := chsB_fit _ hf
      obtain ⟨v25, g25, n25, w25, r25, P25⟩ := rparts_f25 (epoch := (epoch : Int)) (n := (j : Int)) S13 C13 (by omega) (by omega)
      rw [partsF_fits he (by omega) hf (by omega)] at P25
      obtain ⟨x, elsx, rfl, Sx, Ex⟩ := P25
      have hfl := frameSec_len epoch j ((c.drop (8 * j)).take 8)
      have hxl := Ex.len
      have hel := hP.len
      have hfs : partsL epoch j (pcs 49 (chsB (chL 4 ((c.drop (8 * j)).take 8)))).length 0 (pcs 49 (chsB (chL 4 ((c.drop (8 * j)).take 8)))) = frameSec epoch j (chL 4 ((c.drop (8 * j)).take 8)) := rfl
      rw [hfs] at Ex hxl
      simp only [go_sem, Nat.reduceLT, Nat.reduceEqDiff, reduceCtorEq, Int.reduceLT, Int.reduceEq, hs, e6, e0, e1, hc.ln, eB_len, c1, c2, bin_quo z8, wq, w8, hmn, svs]
      refine XO_callP (h1 := h) (by simp only [List.map, go_sem, Nat.reduceLT, Nat.reduceEqDiff, reduceCtorEq, Int.reduceLT, Int.reduceEq, hs]; exact sv.clos rfl) n13 r13 ?_
      simp only [go_sem, Nat.reduceLT, Nat.reduceEqDiff, reduceCtorEq, Int.reduceLT, Int.reduceEq, hs]
      refine XO_callP (h1 := h) (by simp only [List.map, go_sem, Nat.reduceLT, Nat.reduceEqDiff, reduceCtorEq, Int.reduceLT, Int.reduceEq, hs]; exact clos_cv (clos_cv (S13.clos rfl))) n25 r25 ?_
      simp only [go_sem, Nat.reduceLT, Nat.reduceEqDiff, reduceCtorEq, Int.reduceLT, Int.reduceEq, hs, e5]
      refine XO_appNB hB (new := elsx) (by simp only [go_sem, Nat.reduceLT, Nat.reduceEqDiff, reduceCtorEq, Int.reduceLT, Int.reduceEq, hs]) (by simp only [go_sem, Nat.reduceLT, Nat.reduceEqDiff, reduceCtorEq, Int.reduceLT, Int.reduceEq, hs]; exact Sx.src) (by omega) (by omega) (fun v2 h' hB' _ _ _ => ?_)
      simp only [go_sem, Nat.reduceLT, Nat.reduceEqDiff, reduceCtorEq, Int.reduceLT, Int.reduceEq, hs, e6, w8]
      refine ih (j + 1) (acc ++ frameSec epoch j (chL 4 ((c.drop (8 * j)).take 8))) _ v2 _ _ Q (by omega) (by omega) (by rw [List.length_append]; omega) hB' (hP.app Ex) (by simp only [slot_len, hs]) (by simp only [go_sem, Nat.reduceLT, Nat.reduceEqDiff, reduceCtorEq, Int.reduceLT, Int.reduceEq, e0]) (by simp only [go_sem, Nat.reduceLT, Nat.reduceEqDiff, reduceCtorEq, Int.reduceLT, Int.reduceEq, e1]) (by simp only [go_sem, Nat.reduceLT, Nat.reduceEqDiff, reduceCtorEq, Int.reduceLT, Int.reduceEq, hs]) (by simp only [go_sem, Nat.reduceLT, Nat.reduceEqDiff, reduceCtorEq, Int.reduceLT, Int.reduceEq, hs]) (fun s' h2 els' v2 a1 a2 a3 a4 => hQ s' h2 els' v2 a1 a2 a3 ?_)
      rw [List.append_assoc] at a4
      exact a4
    · have hd : c.drop (8 * j) = [] := List.drop_eq_nil_of_le (by omega)
      rw [hd] at hQ
      simp only [go_sem, Nat.reduceLT, Nat.reduceEqDiff, reduceCtorEq, Int.reduceLT, Int.reduceEq, hs, e6, e0, hc.ln, eB_len, c1]
      exact hQ _ h els v (by simp only [slot_len, hs]) (by simp only [go_sem, Nat.reduceLT, Nat.reduceEqDiff, reduceCtorEq, Int.reduceLT, Int.reduceEq, e5]) hB (by simpa [chunksC, framesA] using hP)
theorem frames_f14 {epoch : Nat} (he : epoch ≤ 1073741824) {c : List UInt8} {vc : VV} (hc : SlV 1 (eB c) vc) (h : Heap) : Ret F 14 [vc, vi .i64 epoch] h fun v g => ∃ els, NB h g 1 els v ∧ PgE els (framesL epoch c) := by
  refine call_E (fn := f14) rfl ?_
  simp only [f14]
  generalize hs0 : ([vc, vi .i64 epoch] ++ List.replicate _ VV.undef : List VV) = s
  have hs : s.length = 39 := by rw [← hs0]; rfl
  have h0 : s.getD 0 .undef = vc := by rw [← hs0]; rfl
  have h1 : s.getD 1 .undef = vi .i64 epoch := by rw [← hs0]; rfl
  clear hs0
  simp only [go_sem, Nat.reduceLT, Nat.reduceEqDiff, reduceCtorEq, Int.reduceLT, Int.reduceEq, hs]
  refine f14_loop he hc 5 0 [] [] nilS _ _ _ rfl (by omega) (by simp) (NB.nil _ _) .nil (by simp only [slot_len, hs]) (by simp only [go_sem, Nat.reduceLT, Nat.reduceEqDiff, reduceCtorEq, Int.reduceLT, Int.reduceEq, h0]) (by simp only [go_sem, Nat.reduceLT, Nat.reduceEqDiff, reduceCtorEq, Int.reduceLT, Int.reduceEq, h1]) (by simp only [go_sem, Nat.reduceLT, Nat.reduceEqDiff, reduceCtorEq, Int.reduceLT, Int.reduceEq, hs]) (by simp only [go_sem, Nat.reduceLT, Nat.reduceEqDiff, reduceCtorEq, Int.reduceLT, Int.reduceEq, hs]; rfl) (fun s' h' els' v' a1 a2 a3 a4 => ?_)
  simp only [go_sem, Nat.reduceLT, Nat.reduceEqDiff, reduceCtorEq, Int.reduceLT, Int.reduceEq, a1, a2]
  exact ⟨els', a3, by simpa [framesL] using a4⟩
end Go.V07

set_option linter.unusedSimpArgs false
set_option linter.unusedVariables false
namespace Go.V07
open Go Go.Vm

theorem PgE.put' {els : List (List CV)} {k : List (List UInt8)} (h : PgE els k) (i : Nat) {c : CV} {b : List UInt8} (hc : SlV 1 (eB b) (.cv c)) : PgE (els.set i [c]) (k.set i b) := by
  induction h generalizing i with
  | nil => exact .nil
  | cons h t ih =>
    cases i with
    | zero => exact .cons hc t
    | succ i => exact .cons h (ih i)
/-- A slice that grew behind a heap stays when what lies below changes. -/
theorem NB_low {h0 h : Heap} {z : Nat} {els : List (List CV)} {v : VV} (b : NB h0 h z els v) {id : Nat} (hi : id < h0.length) (o : VO) : VF (h.set id o) z els v := by
  rcases b.v with ⟨rfl, rfl⟩ | ⟨id', g, a1, rfl, a2⟩
  · exact VF.nil
  · exact .inr ⟨id', g, 0, false, false, els, rfl, by rw [List.getElem?_set_ne (by omega)]; exact a2, by omega, by simp⟩

theorem XO_mksC {z by_ : Nat} {zero : List CV} {k k' : IntKind} {a : Nat} {x y : Opd} {s : List VV} {h : Heap} {d : Option Nat} {r : List Op1} {Q : Pst} (hx : evalO s x = vi k a) (hy : evalO s y = vi k' a) (h1 : a * by_ ≤ 35184372088832) (h2 : a ≤ 35184372088832)
    (hk : XO F r ⟨putD s d (.cv (.sl z (List.replicate a zero) true)), h⟩ Q) : XO F (⟨none, d, .mks z by_ zero x y false⟩ :: r) ⟨s, h⟩ Q := by
  have hm : maxBytes = 35184372088832 := rfl
  have c1 : (a : Int) * by_ ≤ 35184372088832 := by rw [← Int.natCast_mul]; omega
  have c2 : (a : Int) ≤ 35184372088832 := by omega
  have e : stepI h (evalO s) (.mks z by_ zero x y false) = some (.cv (.sl z (List.replicate a zero) true), h) := by
    simp only [stepI, hx, hy, intV]
    rw [if_pos ⟨by omega, Int.le_refl _, by rw [hm]; exact c1, by rw [hm]; exact c2⟩]
    simp
  rw [XO_ins rfl, e, XV_some]
  exact hk

section
variable {R G : List (List (List CV))} {elsF elsG : List (List CV)} {vf vg : VV} {h : Heap}
theorem f7_loop (hF : FrE elsF R) (hG : FrE elsG G) (vF : VF h 1 elsF vf) (vG : VF h 1 elsG vg) (hp : G <+: R) (hc : ∀ b ∈ R, ∃ kv, ChsE b kv ∧ kv.length ≤ 1000000) (hl : R.length ≤ 1000000) :
    ∀ (m k : Nat) (s : List VV) (Q : Pst), k + m = G.length → s.length = 98 → s.getD 10 .undef = vf → s.getD 15 .undef = vg → s.getD 17 .undef = vi .i64 k → (∀ s', s'.length = 98 → Q (.exit 0) ⟨s', h⟩) → X F (.loop f7_4) ⟨s, h⟩ Q := by
  intro m
  have hfl := hF.len
  have hgl := hG.len
  have hpl := hp.length_le
  induction m with
  | zero =>
    intro k s Q hk hs e10 e15 e17 hQ
    have c : ¬ ((k : Nat) : Int) < (elsG.length : Int) := by omega
    rw [X_loop, X_eq f7_4.eq_1]
    simp only [go_sem, Nat.reduceLT, Nat.reduceEqDiff, reduceCtorEq, Int.reduceLT, Int.reduceEq, hs, e17, e15, vG.ln, c]
    exact hQ _ (by simp only [slot_len, hs])
  | succ m ih =>
    intro k s Q hk hs e10 e15 e17 hQ
    have c : ((k : Nat) : Int) < (elsG.length : Int) := by omega
    obtain ⟨cg, bg, heg, hbg, hcg⟩ := hG.get (i := k) (by omega)
    obtain ⟨cf, bf, hef, hbf, hcf⟩ := hF.get (i := k) (by omega)
    have hbb : bg = bf := by
      obtain ⟨t, rfl⟩ := hp
      rw [List.getElem?_append_left (by omega), hbg] at hbf
      exact Option.some.inj hbf
    subst hbb
    obtain ⟨kv, hkv, hkl⟩ := hc bg (List.mem_of_getElem? hbf)
    obtain ⟨qf, f1, _, _, f3⟩ := vF.cell (k := .i64) hef
    obtain ⟨qg, g1, _, _, g3⟩ := vG.cell (k := .i64) heg
    have f4 := f3 _ _ rfl
    have g4 := g3 _ _ rfl
    have hw : IntKind.i64.wrap ((k : Int) + 1) = ((k + 1 : Nat) : Int) := by rw [IntWalk.i64_in _ (by omega)]; omega
    obtain ⟨v20, h20, n20, e20⟩ := sameC_f20 _ _ kv (.cv cf) (.cv cg) hcf hcg hkv hkv (by omega) []
    have e20' : v20 = vb true := e20
    subst e20'
    rw [X_loop, X_eq f7_4.eq_1]
    simp only [go_sem, Nat.reduceLT, Nat.reduceEqDiff, reduceCtorEq, Int.reduceLT, Int.reduceEq, hs, e17, e15, vG.ln, c]
    refine X_draw rfl ?_
    simp only [go_sem, Nat.reduceLT, Nat.reduceEqDiff, reduceCtorEq, Int.reduceLT, Int.reduceEq, hs, e17, e10, e15, f1, f4, g1, g4]
    refine XD_callP (by simp only [List.map, go_sem, Nat.reduceLT, Nat.reduceEqDiff, reduceCtorEq, Int.reduceLT, Int.reduceEq, hs]; exact hcf.clos (hcg.clos rfl)) n20 rfl ?_
    simp only [go_sem, Nat.reduceLT, Nat.reduceEqDiff, reduceCtorEq, Int.reduceLT, Int.reduceEq, hs, e17, hw]
    exact ih (k + 1) _ Q (by omega) (by simp only [slot_len, hs]) (by simp only [go_sem, Nat.reduceLT, Nat.reduceEqDiff, reduceCtorEq, Int.reduceLT, Int.reduceEq, e10]) (by simp only [go_sem, Nat.reduceLT, Nat.reduceEqDiff, reduceCtorEq, Int.reduceLT, Int.reduceEq, e15]) (by simp only [go_sem, Nat.reduceLT, Nat.reduceEqDiff, reduceCtorEq, Int.reduceLT, Int.reduceEq, hs]) hQ
end

theorem chs_R (c : List UInt8) : ∀ b ∈ (chunksC 5 c).map (fun b => chsCs (chL 4 b)), ∃ kv, ChsE b kv ∧ kv.length ≤ 1000000 := by
  intro b hb
  obtain ⟨x, _, rfl⟩ := List.mem_map.1 hb
  exact ⟨chL 4 x, chCs_E _ (chL_fits 4 x), by have := chL_len 4 x; omega⟩

theorem law_whole {c d : List UInt8} {vc vd : VV} (hc : SlV 1 (eB c) vc) (hd : SlV 1 (eB d) vd) (at_ : Nat) (hat : at_ < 65536) (old : Bool) : ∃ h', call F 7 [vc, vd, vi .u16 at_, vb old] [] = some (.ret (vb true), h') := by
  have : Ret F 7 [vc, vd, vi .u16 at_, vb old] [] fun v h' => v = vb true := by
    refine call_E (fn := f7) rfl ?_
    simp only [f7]
    generalize hs0 : ([vc, vd, vi .u16 at_, vb old] ++ List.replicate _ VV.undef : List VV) = s
    have hs : s.length = 98 := by rw [← hs0]; rfl
    have h0 : s.getD 0 .undef = vc := by rw [← hs0]; rfl
    have h1 : s.getD 1 .undef = vd := by rw [← hs0]; rfl
    have h2 : s.getD 2 .undef = vi .u16 at_ := by rw [← hs0]; rfl
    have h3 : s.getD 3 .undef = vb old := by rw [← hs0]; rfl
    clear hs0
    obtain ⟨h11, n11⟩ := known_f11
    obtain ⟨vx, g1, n14, elsx, Bx, Ex⟩ := frames_f14 (epoch := 5) (by omega) hc []
    have hxl := Ex.len
    have hX := framesA_len 5 (chunksC 5 c) 0
    have hXd : framesA 5 0 (chunksC 5 c) = framesL 5 c := rfl
    rw [hXd] at hX
    have hcl := chunks_len 5 c
    obtain ⟨v23, g2, n23, vf, elsf, rfl, Bf, Ef⟩ := read_f23 Ex Bx.vf (by omega) 5
    have hrf := readF_frames (epoch := 5) (by omega) c
    have hrf' : readF 5 (framesL 5 c) = ((chunksC 5 c).map (fun b => chsCs (chL 4 b)), (framesL 5 c).length) := hrf
    rw [hrf'] at Ef n23
    have hfl := Ef.len
    simp only [List.length_map] at hfl
    have Bx2 := Bx.then Bf.ext
    have k1 : (((framesL 5 c).length : Nat) : Int) = ((elsx.length : Nat) : Int) := by omega
    have k2 : ¬ ((((framesL 5 c).length : Nat) : Int) ≠ ((elsx.length : Nat) : Int)) := fun e => e k1
    have wmn : min (c.length : Int) 40 = ((min c.length 40 : Nat) : Int) := by omega
    have w7 : IntKind.i64.wrap (((min c.length 40 : Nat) : Int) + 7) = ((min c.length 40 + 7 : Nat) : Int) := by rw [IntWalk.i64_in _ (by omega)]; omega
    have z8 : (8 : Int) ≠ 0 := by decide
    have w8 : IntKind.i64.wrap (((min c.length 40 + 7 : Nat) : Int).tdiv 8) = ((elsf.length : Nat) : Int) := by
      have e : ((min c.length 40 + 7 : Nat) : Int).tdiv 8 = (((min c.length 40 + 7) / 8 : Nat) : Int) := rfl
      rw [e, IntWalk.i64_in _ (by omega)]; omega
    have k3 : ¬ (((elsf.length : Nat) : Int) ≠ ((elsf.length : Nat) : Int)) := fun e => e rfl
    simp only [go_sem, Nat.reduceLT, Nat.reduceEqDiff, reduceCtorEq, Int.reduceLT, Int.reduceEq, hs, h0]
    refine XO_callR (by simp only [List.map, go_sem, Nat.reduceLT, Nat.reduceEqDiff, reduceCtorEq, Int.reduceLT, Int.reduceEq, hs]; exact n14) ?_
    simp only [go_sem, Nat.reduceLT, Nat.reduceEqDiff, reduceCtorEq, Int.reduceLT, Int.reduceEq, hs]
    refine XO_callR (by simp only [List.map, go_sem, Nat.reduceLT, Nat.reduceEqDiff, reduceCtorEq, Int.reduceLT, Int.reduceEq, hs]; exact n23) ?_
    simp only [go_sem, Nat.reduceLT, Nat.reduceEqDiff, reduceCtorEq, Int.reduceLT, Int.reduceEq, hs]
    rw [X_eq f7_0.eq_1]
    simp only [go_sem, Nat.reduceLT, Nat.reduceEqDiff, reduceCtorEq, Int.reduceLT, Int.reduceEq, hs, Bx2.ln, Bf.ln, k1, h0, hc.ln, eB_len, wmn, w7, bin_quo z8, w8]
    rw [X_eq f7_1.eq_1]
    by_cases d0 : elsx.length = 0
    · have d0' : ((elsx.length : Nat) : Int) = 0 := by omega
      simp only [go_sem, Nat.reduceLT, Nat.reduceEqDiff, reduceCtorEq, Int.reduceLT, Int.reduceEq, hs, Bx2.ln, d0']
      refine XO_callP (by simp only [List.map, go_sem, Nat.reduceLT, Nat.reduceEqDiff, reduceCtorEq, Int.reduceLT, Int.reduceEq, hs]; rfl) n11 rfl ?_
      simp only [go_sem, Nat.reduceLT, Nat.reduceEqDiff, reduceCtorEq, Int.reduceLT, Int.reduceEq, hs]
    have d0' : ¬ ((elsx.length : Nat) : Int) = 0 := by omega
    have wat : IntKind.i64.wrap (at_ : Int) = (at_ : Int) := IntWalk.i64_in _ (by omega)
    have wrm : (at_ : Int).tmod ((elsx.length : Nat) : Int) = ((at_ % elsx.length : Nat) : Int) := rfl
    have hi : at_ % elsx.length < elsx.length := Nat.mod_lt _ (by omega)
    generalize hid : at_ % elsx.length = i at *
    obtain ⟨vy, g3, n14y, elsy, By, Ey⟩ := frames_f14 (epoch := 4) (by omega) hd g2
    have hyl := Ey.len
    have hY := framesA_len 4 (chunksC 5 d) 0
    have hYd : framesA 4 0 (chunksC 5 d) = framesL 4 d := rfl
    rw [hYd] at hY
    have hdl := chunks_len 5 d
    have mz : List.replicate 64 [CV.sc (.int .u8 0)] = eB (List.replicate 64 0) := eB_replicate 64
    simp only [go_sem, Nat.reduceLT, Nat.reduceEqDiff, reduceCtorEq, Int.reduceLT, Int.reduceEq, hs, Bx2.ln, d0', h2, wat, bin_rem d0', wrm]
    refine XO_mksC (k := .i64) (k' := .i64) (a := 64) (by simp only [go_sem, Nat.reduceLT, Nat.reduceEqDiff, reduceCtorEq, Int.reduceLT, Int.reduceEq]; rfl) (by simp only [go_sem, Nat.reduceLT, Nat.reduceEqDiff, reduceCtorEq, Int.reduceLT, Int.reduceEq]; rfl) (by omega) (by omega) ?_
    rw [mz]
    simp only [go_sem, Nat.reduceLT, Nat.reduceEqDiff, reduceCtorEq, Int.reduceLT, Int.reduceEq, hs, h1]
    refine XO_callR (by simp only [List.map, go_sem, Nat.reduceLT, Nat.reduceEqDiff, reduceCtorEq, Int.reduceLT, Int.reduceEq, hs]; exact n14y) ?_
    simp only [go_sem, Nat.reduceLT, Nat.reduceEqDiff, reduceCtorEq, Int.reduceLT, Int.reduceEq, hs]
    have Bf3 := Bf.then By.ext
    have Bx3 := Bx2.then By.ext
    -- another sector
    refine mid (P := fun st => st.h = g3 ∧ st.s.length = 98 ∧ (∃ cb b, st.s.getD 13 .undef = .cv cb ∧ SlV 1 (eB b) (.cv cb) ∧ Bad 5 b) ∧ st.s.getD 9 .undef = vx ∧ st.s.getD 10 .undef = vf ∧ st.s.getD 12 .undef = vi .i64 i) ?_ ?_
    · rw [X_eq f7_2.eq_1]
      cases old with
      | false =>
        simp only [go_sem, Nat.reduceLT, Nat.reduceEqDiff, reduceCtorEq, Int.reduceLT, Int.reduceEq, hs, h3]
        exact ⟨trivial, trivial, trivial, ⟨_, _, rfl, .inr ⟨true, rfl⟩, bad_zero 5⟩, trivial, trivial, trivial⟩
      | true =>
        by_cases hy : (i : Int) < (elsy.length : Int)
        · obtain ⟨cb, b, heb, hbb, hcb⟩ := Ey.get (i := i) (by omega)
          obtain ⟨q, q1, _, _, q3⟩ := By.vf.cell (k := .i64) heb
          have q4 := q3 _ _ rfl
          simp only [go_sem, Nat.reduceLT, Nat.reduceEqDiff, reduceCtorEq, Int.reduceLT, Int.reduceEq, hs, h3, By.ln, hy, q1, q4]
          exact ⟨trivial, trivial, trivial, ⟨_, b, rfl, hcb, bad_frames (by omega) (by omega) (by omega) d b (List.mem_of_getElem? hbb)⟩, trivial, trivial, trivial⟩
        · simp only [go_sem, Nat.reduceLT, Nat.reduceEqDiff, reduceCtorEq, Int.reduceLT, Int.reduceEq, hs, h3, By.ln, hy]
          exact ⟨trivial, trivial, trivial, ⟨_, _, rfl, .inr ⟨true, rfl⟩, bad_zero 5⟩, trivial, trivial, trivial⟩
    · rintro ⟨s1, g3'⟩ ⟨e, hs1, ⟨cb, b, p13, hcb, hbad⟩, p9, p10, p12⟩
      dsimp only at e hs1 p13 p9 p10 p12
      subst e
      rcases Bx3.v with ⟨e, _⟩ | ⟨idx, gx, _, rfl, a2⟩
      · exact absurd (congrArg List.length e) (by simpa using d0)
      have hidx : idx < g1.length := by
        rcases Bx.v with ⟨e, e'⟩ | ⟨id', g', _, e', a2'⟩
        · cases e'
        · cases e'; exact lt_at a2'
      obtain ⟨cx, bx, hex, hbx, hcx⟩ := Ex.get (i := i) (by omega)
      have ia : iaO g3' 1 (.own idx gx 0 elsx.length false) (vi .i64 (i : Int)) = some (.eptr idx gx (0 + i) 0, g3') := ia_own (by omega) a2 (by simpa using hi)
      rw [Nat.zero_add] at ia
      have st := st_e1 (off := 0) (c := cb) a2 hex (by simp)
      have hset : ([cx] : List CV).set 0 cb = [cb] := rfl
      rw [hset] at st
      have vx4 : VF (g3'.set idx (.arr 1 (elsx.set i [cb]) gx false)) 1 (elsx.set i [cb]) (.own idx gx 0 elsx.length false) :=
        .inr ⟨idx, gx, 0, false, false, elsx.set i [cb], by rw [List.length_set], by rw [List.getElem?_set_self (lt_at a2)], by omega, by rw [List.drop_zero, List.take_length]⟩
      have vf4 := NB_low Bf3 hidx (.arr 1 (elsx.set i [cb]) gx false)
      generalize g3'.set idx (.arr 1 (elsx.set i [cb]) gx false) = g4 at st vx4 vf4
      have E4 := PgE.put' Ex i hcb
      obtain ⟨v23b, g5, n23b, vg, elsg, rfl, Bg, Eg⟩ := read_f23 E4 vx4 (by rw [List.length_set]; omega) 5
      have hrs := readF_set (e := 5) hbad (ss := framesL 5 c) (i := i) (by omega)
      rw [hrf'] at hrs
      have hgl := Eg.len
      have hpl := hrs.2.length_le
      simp only [List.length_map] at hpl
      have vf5 := vf4.ext Bg.ext
      generalize readF 5 ((framesL 5 c).set i b) = RG at *
      have z1 : ¬ ((i : Nat) : Int) < ((RG.2 : Nat) : Int) := by omega
      have z2 : ¬ ((elsf.length : Nat) : Int) < ((elsg.length : Nat) : Int) := by omega
      simp only [go_sem, Nat.reduceLT, Nat.reduceEqDiff, reduceCtorEq, Int.reduceLT, Int.reduceEq, hs1, p9, p12, p13, ia, st]
      refine XO_callR (by simp only [List.map, go_sem, Nat.reduceLT, Nat.reduceEqDiff, reduceCtorEq, Int.reduceLT, Int.reduceEq, hs1]; exact n23b) ?_
      simp only [go_sem, Nat.reduceLT, Nat.reduceEqDiff, reduceCtorEq, Int.reduceLT, Int.reduceEq, hs1]
      rw [X_eq f7_3.eq_1]
      simp only [go_sem, Nat.reduceLT, Nat.reduceEqDiff, reduceCtorEq, Int.reduceLT, Int.reduceEq, hs1, p12, gt_iff_lt, z1, Bg.vf.ln, p10, vf5.ln, z2]
      refine f7_loop Ef Eg vf5 Bg.vf hrs.2 (chs_R c) (by rw [List.length_map]; omega) RG.1.length 0 _ _ (by omega) (by simp only [slot_len, hs1]) (by simp only [go_sem, Nat.reduceLT, Nat.reduceEqDiff, reduceCtorEq, Int.reduceLT, Int.reduceEq, p10]) (by simp only [go_sem, Nat.reduceLT, Nat.reduceEqDiff, reduceCtorEq, Int.reduceLT, Int.reduceEq, hs1]) (by simp only [go_sem, Nat.reduceLT, Nat.reduceEqDiff, reduceCtorEq, Int.reduceLT, Int.reduceEq, hs1]; rfl) (fun s' a1 => ?_)
      simp only [go_sem, Nat.reduceLT, Nat.reduceEqDiff, reduceCtorEq, Int.reduceLT, Int.reduceEq, a1]
      refine XO_callP (by simp only [List.map, go_sem, Nat.reduceLT, Nat.reduceEqDiff, reduceCtorEq, Int.reduceLT, Int.reduceEq, a1]; rfl) n11 rfl ?_
      simp only [go_sem, Nat.reduceLT, Nat.reduceEqDiff, reduceCtorEq, Int.reduceLT, Int.reduceEq, a1]
  obtain ⟨v, h', n1, rfl⟩ := this
  exact ⟨h', n1⟩
theorem whole_in {H : Type} {d0 d1 d2 d3 : DataW H} {u0 u1 u2 u3 : VV} (h0 : DV Proofs.Try.prog 23 d0 u0) (h1 : DV Proofs.Try.prog 23 d1 u1) (h2 : DV Proofs.Try.prog 30 d2 u2) (h3 : DV Proofs.Try.prog 4 d3 u3) :
    ∃ h', call F 7 [u0, u1, u2, u3] [] = some (.ret (vb true), h') := by
  obtain ⟨c, hc, _⟩ := DV_bytes (e := 5) (by kernel_rfl) (by kernel_rfl) (by kernel_rfl) h0
  obtain ⟨d, hd, _⟩ := DV_bytes (e := 5) (by kernel_rfl) (by kernel_rfl) (by kernel_rfl) h1
  obtain ⟨m, rfl, hm⟩ := DV_u16 (by kernel_rfl) h2
  obtain ⟨o, rfl⟩ := DV_bool (by kernel_rfl) h3
  exact law_whole hc hd m hm o
end Go.V07
