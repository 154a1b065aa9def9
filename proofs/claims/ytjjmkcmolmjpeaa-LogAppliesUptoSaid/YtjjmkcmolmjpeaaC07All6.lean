/- Part of a proof: of what it says, and when, each theorem tells itself. -/
import Derived.Test.YtjjmkcmolmjpeaaC07All5
import Derived.Test.YtjjmkcmolmjpeaaRows
set_option linter.unusedSimpArgs false
set_option linter.unusedVariables false
namespace Go.V07
open Go Go.Vm

/-! ### changes of choices -/
theorem chlist {n : Nat} (hn : n ≤ 60) (c : List UInt8) (vc : VV) (hc : SlV 1 (eB c) vc) : RetP F 13 [vc, vi .i64 n] fun w => ∃ els, SlV 3 els w ∧ ChsE els (chL n c) := by
  have : Ret F 13 [vc, vi .i64 n] [] fun v h' => ∃ els, closRes h' v = some (slV 3 els) ∧ ChsE els (chL n c) := by
    refine call_E (fn := f13) rfl ?_
    simp only [f13]
    generalize hs0 : ([vc, vi .i64 n] ++ List.replicate _ VV.undef : List VV) = s
    have hs : s.length = 42 := by rw [← hs0]; rfl
    have h0 : s.getD 0 .undef = vc := by rw [← hs0]; rfl
    have h1 : s.getD 1 .undef = vi .i64 n := by rw [← hs0]; rfl
    clear hs0
    obtain ⟨w1, g1, els, hc1, hr1, hR1⟩ := list_pure c vc hc n hn
    have hf := rowL_fits n c
    have hkl := rowL_len n c
    simp only [go_sem, Nat.reduceLT, Nat.reduceEqDiff, reduceCtorEq, Int.reduceLT, Int.reduceEq, hs, h0, h1]
    refine XO_callP (h1 := []) (by simp only [List.map, go_sem, Nat.reduceLT, Nat.reduceEqDiff, reduceCtorEq, Int.reduceLT, Int.reduceEq, hs]; exact hc.clos (clos_cv clos_nil)) hc1 hr1 ?_
    simp only [go_sem, Nat.reduceLT, Nat.reduceEqDiff, reduceCtorEq, Int.reduceLT, Int.reduceEq, hs]
    refine f13_loop els (rowL n c) (slV 2 els) slV_SlV hR1 (by omega) hf (rowL n c) 0 [] [] [] nilS _ _ rfl (by omega) (by simp only [List.length_nil]; omega) .nil (BufG.nil _ _) (by simp only [slot_len, hs]) (by simp only [go_sem, Nat.reduceLT, Nat.reduceEqDiff, reduceCtorEq, Int.reduceLT, Int.reduceEq, hs]) (by simp only [go_sem, Nat.reduceLT, Nat.reduceEqDiff, reduceCtorEq, Int.reduceLT, Int.reduceEq, hs]) (by simp only [go_sem, Nat.reduceLT, Nat.reduceEqDiff, reduceCtorEq, Int.reduceLT, Int.reduceEq, hs]; rfl) ?_
    intro s' h' v' els' hs' h5' hb' hC'
    simp only [go_sem, Nat.reduceLT, Nat.reduceEqDiff, reduceCtorEq, Int.reduceLT, Int.reduceEq, hs', h5']
    exact ⟨els', hb'.close, by simpa [chL] using hC'⟩
  obtain ⟨v, h', e1, els, e2, e3⟩ := this
  exact ⟨v, h', e1, _, e2, els, slV_SlV, e3⟩
theorem chL_fits (n : Nat) (c : List UInt8) : ChFits (chL n c) := by
  intro p hp
  unfold chL at hp
  obtain ⟨q, hq, rfl⟩ := List.mem_map.1 hp
  obtain ⟨h1, h2⟩ := rowL_fits n c q hq
  unfold chOf
  split
  · exact ⟨h1, by simp, fun _ => rfl⟩
  · exact ⟨h1, h2, fun h => by cases h⟩
theorem chL_len (n : Nat) (c : List UInt8) : (chL n c).length ≤ n := by unfold chL; rw [List.length_map]; exact rowL_len n c
/-! ### the chapter's example -/
def kn0 : List Ch := [([97], [49], false)]
def kn1 : List Ch := [([97], [], true)]
theorem kn_apply : applyF [] kn0 = [([97], [49])] := rfl
theorem kn_diff : diffF [([97], [49])] [] = kn1 := rfl
theorem kn_chs : chsB kn1 = [1, 1, 97, 1] := rfl
theorem kn_parts : partsF 1 0 kn1 = some [partB 1 0 0 1 [1, 1, 97, 1]] := by
  unfold partsF
  rw [kn_chs, if_pos ⟨rfl, rfl, by decide⟩]; rfl
theorem rdA_nil {epoch : Nat} : ∀ (m n : Nat), rdA epoch m n [] = ([], 0)
  | 0, _ => rfl
  | m + 1, n => rfl
theorem kn_read : readF 1 [partB 1 0 0 1 [1, 1, 97, 1]] = ([chsCs kn1], 1) := by
  have hf : ChFits kn1 := by intro p hp; simp [kn1] at hp; subst hp; simp
  have e := frameF_parts (epoch := 1) (n := 0) hf (by decide) (by rw [kn_chs]; decide) []
  rw [kn_chs] at e
  have e' : frameF 1 0 [partB 1 0 0 1 [1, 1, 97, 1]] = (chsCs kn1, 1) := e
  unfold readF
  rw [if_pos (show numOK 1 = true from rfl)]
  show rdA 1 2 0 _ = _
  rw [rdA, e']
  simp only [Nat.one_ne_zero, if_false, List.drop_succ_cons, List.drop_zero, rdA_nil]
theorem known_f11 : ∃ h', call F 11 [] [] = some (.ret (vb true), h') := by
  have : Ret F 11 [] [] fun v h' => v = vb true := by
    refine call_E (fn := f11) rfl ?_
    simp only [f11]
    generalize hs0 : ([] ++ List.replicate _ VV.undef : List VV) = s
    have hs : s.length = 62 := by rw [← hs0]; rfl
    clear hs0
    have hC0 : ChsE [[CV.sc (.string ⟨#[97]⟩), .sl 1 [[.sc (.int .u8 49)]] true, .sc (.bool false)]] kn0 := .cons ⟨_, rfl, .inr ⟨true, rfl⟩⟩ .nil
    obtain ⟨v1, g1, n1, w1, r1, els1, S1, R1⟩ := apply_f18 (G := False) insC_end (u := nilS) (.inl ⟨rfl, rfl⟩) .nil (by simp) hC0 (uc := .cv (.sl 3 [[CV.sc (.string ⟨#[97]⟩), .sl 1 [[.sc (.int .u8 49)]] true, .sc (.bool false)]] true)) (.inr ⟨true, rfl⟩) (by simp [kn0]) (by intro x hx; simp [kn0] at hx; subst hx; simp) (by
      refine .inr fun c1 x c2 e _ => ?_
      cases c1 with
      | nil => rfl
      | cons y c1 =>
        have := congrArg List.length e
        simp [kn0] at this)
    rw [kn_apply] at R1
    obtain ⟨v2, g2, n2, w2, r2, els2, S2, C2⟩ := diff_f21 R1 .nil S1 (ub := nilS) (.inl ⟨rfl, rfl⟩) (by intro r hr; simp at hr; subst hr; simp) (by intro r hr; simp at hr) (by simp)
    rw [kn_diff] at C2
    obtain ⟨v3, g3, n3, w3, r3, P3⟩ := parts_f24 (epoch := 1) (n := 0) S2 C2 (by rw [kn_chs]; simp) (by simp [kn1])
    rw [kn_parts] at P3
    obtain ⟨x3, els3, rfl, S3, P3⟩ := P3
    obtain ⟨v4, g4, n4, w4, r4, P4⟩ := read_pure P3 S3 (by simp) 1
    rw [kn_read] at P4
    obtain ⟨x4, els4, rfl, S4, P4⟩ := P4
    have l1 := R1.len
    have l2 := C2.len
    have l3 := P3.len
    have l4 := P4.len
    obtain ⟨e1, p1, he1, hp1, cc1, rfl, _⟩ := R1.get (i := 0) (by simp)
    simp at hp1; subst hp1
    obtain ⟨e2, p2, he2, hp2, cc2, rfl, _⟩ := C2.get (i := 0) (by simp [kn1])
    simp [kn1] at hp2; subst hp2
    have ia1 : ∀ g : Heap, iaO g 2 w1 (vi .i64 0) = some (.rptr [.sc (.string ⟨#[97]⟩), cc1], g) := fun g => S1.ia (by omega) he1
    have ia2 : ∀ g : Heap, iaO g 3 w2 (vi .i64 0) = some (.rptr [.sc (.string ⟨#[97]⟩), cc2, .sc (.bool true)], g) := fun g => S2.ia (by omega) he2
    have k1 : ((els1.length : Nat) : Int) = 1 := by rw [l1]; rfl
    have k2 : ((els2.length : Nat) : Int) = 1 := by rw [l2]; rfl
    have k3 : ((els3.length : Nat) : Int) = 1 := by rw [l3]; rfl
    have k4 : ((els4.length : Nat) : Int) = 1 := by rw [l4]; rfl
    have mk0 : mkoO ([] : Heap) 1 1 [.cv (.sc (.int .u8 0))] [(0, 1, .cv (.sc (.int .u8 49)))] = some (.own 0 0 0 1 true, [.arr 1 [[.sc (.int .u8 49)]] 0 false]) := rfl
    have bd : bdO [.cv (.sc (.string ⟨#[]⟩)), .cv (.sc (.slice none 0 0)), .cv (.sc (.bool false))] [(0, 1, .cv (.sc (.string ⟨#[97]⟩))), (1, 1, .own 0 0 0 1 true)] = some (.agg [.cv (.sc (.string ⟨#[97]⟩)), .own 0 0 0 1 true, .cv (.sc (.bool false))]) := rfl
    have mk : mkO ([.arr 1 [[.sc (.int .u8 49)]] 0 false] : Heap) 3 1 [.cv (.sc (.string ⟨#[]⟩)), .cv (.sc (.slice none 0 0)), .cv (.sc (.bool false))] [(0, 3, .agg [.cv (.sc (.string ⟨#[97]⟩)), .own 0 0 0 1 true, .cv (.sc (.bool false))])] = some (.cv (.sl 3 [[CV.sc (.string ⟨#[97]⟩), .sl 1 [[.sc (.int .u8 49)]] true, .sc (.bool false)]] true), [.arr 1 [[.sc (.int .u8 49)]] 0 true]) := rfl
    have mr : mrO ([.arr 1 [[.sc (.int .u8 49)]] 0 false] : Heap) (.own 0 0 0 1 true) = some (.own 0 0 0 1 true, [.arr 1 [[.sc (.int .u8 49)]] 0 false]) := rfl
    have fs : binO .eql (.cv (.sc (.string ⟨#[97]⟩))) (.cv (.sc (.string ⟨#[97]⟩))) = some (vb true) := by
      have := bo_eql (a := [97]) (b := [97])
      rw [this]; rfl
    simp only [go_sem, Nat.reduceLT, Nat.reduceEqDiff, reduceCtorEq, Int.reduceLT, Int.reduceEq, hs, mk0, mr, bd, mk]
    refine XO_callP (by simp only [List.map, go_sem, Nat.reduceLT, Nat.reduceEqDiff, reduceCtorEq, Int.reduceLT, Int.reduceEq, hs]; rfl) n1 r1 ?_
    simp only [go_sem, Nat.reduceLT, Nat.reduceEqDiff, reduceCtorEq, Int.reduceLT, Int.reduceEq, hs]
    refine XO_callP (by simp only [List.map, go_sem, Nat.reduceLT, Nat.reduceEqDiff, reduceCtorEq, Int.reduceLT, Int.reduceEq, hs]; exact S1.clos rfl) n2 r2 ?_
    simp only [go_sem, Nat.reduceLT, Nat.reduceEqDiff, reduceCtorEq, Int.reduceLT, Int.reduceEq, hs]
    refine XO_callP (by simp only [List.map, go_sem, Nat.reduceLT, Nat.reduceEqDiff, reduceCtorEq, Int.reduceLT, Int.reduceEq, hs]; exact clos_cv (clos_cv (S2.clos rfl))) n3 r3 ?_
    simp only [go_sem, Nat.reduceLT, Nat.reduceEqDiff, reduceCtorEq, Int.reduceLT, Int.reduceEq, hs]
    refine XO_callP (by simp only [List.map, go_sem, Nat.reduceLT, Nat.reduceEqDiff, reduceCtorEq, Int.reduceLT, Int.reduceEq, hs]; exact clos_cv (S3.clos rfl)) n4 r4 ?_
    simp only [go_sem, Nat.reduceLT, Nat.reduceEqDiff, reduceCtorEq, Int.reduceLT, Int.reduceEq, hs, S1.ln, S2.ln, S3.ln, S4.ln, k1, k2, k3, k4, ia1, ia2, fs]
    rfl
  obtain ⟨v, h', n1, rfl⟩ := this
  exact ⟨h', n1⟩
end Go.V07

set_option linter.unusedSimpArgs false
set_option linter.unusedVariables false
namespace Go.V07
open Go Go.Vm

/-! ### the same rows, or not -/
end Go.V07

set_option linter.unusedSimpArgs false
set_option linter.unusedVariables false
namespace Go.V07
open Go Go.Vm

/-! ### changes from some rows to others -/
def Under (k : List UInt8) (l : List KV) : Prop := ∀ r ∈ l, Op.bytesLess k r.1 = true
structure DiffOK (a b : List KV) (x : List Ch) : Prop where
  dis : x.Pairwise fun p q => p.1 ≠ q.1
  key : ∀ c ∈ x, (∃ r ∈ a, r.1 = c.1) ∨ (∃ r ∈ b, r.1 = c.1)
  gone : ∀ c ∈ x, c.2.2 = true → (∃ v, (c.1, v) ∈ a) ∧ ∀ v, (c.1, v) ∉ b
  new : ∀ c ∈ x, c.2.2 = false → (c.1, c.2.1) ∈ b ∧ (c.1, c.2.1) ∉ a
  rest : ∀ r : KV, (∀ c ∈ x, c.1 ≠ r.1) → (r ∈ a ↔ r ∈ b)

theorem Under.not {k : List UInt8} {l : List KV} (h : Under k l) (v : List UInt8) : (k, v) ∉ l := fun e => by
  have := h _ e; rw [bl_irrefl] at this; cases this

section
variable {a b : List KV} {R : List Ch}
theorem DiffOK.ne (h : DiffOK a b R) {k : List UInt8} (ha : Under k a) (hb : Under k b) : ∀ c ∈ R, k ≠ c.1 := by
  intro c hc
  rcases h.key c hc with ⟨r, hr, e⟩ | ⟨r, hr, e⟩
  · rw [← e]; exact bl_ne (ha r hr)
  · rw [← e]; exact bl_ne (hb r hr)

theorem DiffOK.less (h : DiffOK a b R) {x : KV} (ha : Under x.1 a) (hb : Under x.1 b) : DiffOK (x :: a) b ((x.1, [], true) :: R) := by
  have hn := h.ne ha hb
  refine ⟨List.pairwise_cons.2 ⟨hn, h.dis⟩, fun c hc => ?_, fun c hc hg => ?_, fun c hc hg => ?_, fun r hr => ?_⟩
  · rcases List.mem_cons.1 hc with rfl | hc
    · exact .inl ⟨x, by simp, rfl⟩
    · rcases h.key c hc with ⟨r, h1, h2⟩ | h1
      · exact .inl ⟨r, List.mem_cons_of_mem _ h1, h2⟩
      · exact .inr h1
  · rcases List.mem_cons.1 hc with rfl | hc
    · exact ⟨⟨x.2, by simp⟩, fun v => hb.not v⟩
    · obtain ⟨⟨v, h1⟩, h2⟩ := h.gone c hc hg
      exact ⟨⟨v, List.mem_cons_of_mem _ h1⟩, h2⟩
  · rcases List.mem_cons.1 hc with rfl | hc
    · cases hg
    · obtain ⟨h1, h2⟩ := h.new c hc hg
      refine ⟨h1, fun h3 => ?_⟩
      rcases List.mem_cons.1 h3 with e | h3
      · exact hn c hc (by rw [← e])
      · exact h2 h3
  · have h1 : x.1 ≠ r.1 := hr (x.1, [], true) (by simp)
    rw [← h.rest r fun c hc => hr c (List.mem_cons_of_mem _ hc), List.mem_cons]
    exact ⟨fun e => e.resolve_left (fun e => h1 (by rw [e])), .inr⟩

theorem DiffOK.more (h : DiffOK a b R) {y : KV} (ha : Under y.1 a) (hb : Under y.1 b) : DiffOK a (y :: b) ((y.1, y.2, false) :: R) := by
  have hn := h.ne ha hb
  refine ⟨List.pairwise_cons.2 ⟨hn, h.dis⟩, fun c hc => ?_, fun c hc hg => ?_, fun c hc hg => ?_, fun r hr => ?_⟩
  · rcases List.mem_cons.1 hc with rfl | hc
    · exact .inr ⟨y, by simp, rfl⟩
    · rcases h.key c hc with h1 | ⟨r, h1, h2⟩
      · exact .inl h1
      · exact .inr ⟨r, List.mem_cons_of_mem _ h1, h2⟩
  · rcases List.mem_cons.1 hc with rfl | hc
    · cases hg
    · obtain ⟨h1, h2⟩ := h.gone c hc hg
      refine ⟨h1, fun v h3 => ?_⟩
      rcases List.mem_cons.1 h3 with e | h3
      · exact hn c hc (by rw [← e])
      · exact h2 v h3
  · rcases List.mem_cons.1 hc with rfl | hc
    · exact ⟨by simp, ha.not _⟩
    · obtain ⟨h1, h2⟩ := h.new c hc hg
      exact ⟨List.mem_cons_of_mem _ h1, h2⟩
  · have h1 : y.1 ≠ r.1 := hr (y.1, y.2, false) (by simp)
    rw [h.rest r fun c hc => hr c (List.mem_cons_of_mem _ hc), List.mem_cons]
    exact ⟨.inr, fun e => e.resolve_left (fun e => h1 (by rw [e]))⟩

theorem DiffOK.same (h : DiffOK a b R) {x : KV} (ha : Under x.1 a) (hb : Under x.1 b) : DiffOK (x :: a) (x :: b) R := by
  have hn := h.ne ha hb
  refine ⟨h.dis, fun c hc => ?_, fun c hc hg => ?_, fun c hc hg => ?_, fun r hr => ?_⟩
  · rcases h.key c hc with ⟨r, h1, h2⟩ | ⟨r, h1, h2⟩
    · exact .inl ⟨r, List.mem_cons_of_mem _ h1, h2⟩
    · exact .inr ⟨r, List.mem_cons_of_mem _ h1, h2⟩
  · obtain ⟨⟨v, h1⟩, h2⟩ := h.gone c hc hg
    refine ⟨⟨v, List.mem_cons_of_mem _ h1⟩, fun v h3 => ?_⟩
    rcases List.mem_cons.1 h3 with e | h3
    · exact hn c hc (by rw [← e])
    · exact h2 v h3
  · obtain ⟨h1, h2⟩ := h.new c hc hg
    refine ⟨List.mem_cons_of_mem _ h1, fun h3 => ?_⟩
    rcases List.mem_cons.1 h3 with e | h3
    · exact hn c hc (by rw [← e])
    · exact h2 h3
  · rw [List.mem_cons, List.mem_cons, h.rest r hr]

theorem DiffOK.other (h : DiffOK a b R) {x y : KV} (hk : x.1 = y.1) (hv : x.2 ≠ y.2) (ha : Under y.1 a) (hb : Under y.1 b) : DiffOK (x :: a) (y :: b) ((y.1, y.2, false) :: R) := by
  have hn := h.ne ha hb
  refine ⟨List.pairwise_cons.2 ⟨hn, h.dis⟩, fun c hc => ?_, fun c hc hg => ?_, fun c hc hg => ?_, fun r hr => ?_⟩
  · rcases List.mem_cons.1 hc with rfl | hc
    · exact .inr ⟨y, by simp, rfl⟩
    · rcases h.key c hc with ⟨r, h1, h2⟩ | ⟨r, h1, h2⟩
      · exact .inl ⟨r, List.mem_cons_of_mem _ h1, h2⟩
      · exact .inr ⟨r, List.mem_cons_of_mem _ h1, h2⟩
  · rcases List.mem_cons.1 hc with rfl | hc
    · cases hg
    · obtain ⟨⟨v, h1⟩, h2⟩ := h.gone c hc hg
      refine ⟨⟨v, List.mem_cons_of_mem _ h1⟩, fun v h3 => ?_⟩
      rcases List.mem_cons.1 h3 with e | h3
      · exact hn c hc (by rw [← e])
      · exact h2 v h3
  · rcases List.mem_cons.1 hc with rfl | hc
    · refine ⟨by simp, fun h3 => ?_⟩
      rcases List.mem_cons.1 h3 with e | h3
      · exact hv (by rw [← e])
      · exact ha.not _ h3
    · obtain ⟨h1, h2⟩ := h.new c hc hg
      refine ⟨List.mem_cons_of_mem _ h1, fun h3 => ?_⟩
      rcases List.mem_cons.1 h3 with e | h3
      · exact hn c hc (by rw [← hk, ← e])
      · exact h2 h3
  · have h1 : y.1 ≠ r.1 := hr (y.1, y.2, false) (by simp)
    have h2 := h.rest r fun c hc => hr c (List.mem_cons_of_mem _ hc)
    rw [List.mem_cons, List.mem_cons]
    constructor
    · rintro (e | e)
      · exact absurd (by rw [e, hk]) h1
      · exact .inr (h2.1 e)
    · rintro (e | e)
      · exact absurd (by rw [e]) h1
      · exact .inr (h2.2 e)
end

theorem Under.cons {k : List UInt8} {x : KV} {l : List KV} (h : Op.bytesLess k x.1 = true) (hl : Under x.1 l) : Under k (x :: l) := by
  intro r hr
  rcases List.mem_cons.1 hr with rfl | hr
  · exact h
  · exact bl_trans h (hl r hr)

theorem diffP_ok : ∀ (n : Nat) (a b : List KV), a.length + b.length ≤ n → Srt a → Srt b → DiffOK a b (diffP n a b)
  | n, [], [], _, _, _ => by
    have e : diffP n [] [] = [] := by cases n <;> rfl
    rw [e]
    exact ⟨.nil, by simp, by simp, by simp, by simp⟩
  | 0, _ :: _, _, h, _, _ => by simp at h
  | 0, [], _ :: _, h, _, _ => by simp at h
  | n + 1, x :: a, [], h, ha, hb => by
    obtain ⟨a1, a2⟩ := List.pairwise_cons.1 ha
    exact (diffP_ok n a [] (by simp at h ⊢; omega) a2 .nil).less a1 (fun r hr => by cases hr)
  | n + 1, [], y :: b, h, ha, hb => by
    obtain ⟨b1, b2⟩ := List.pairwise_cons.1 hb
    exact (diffP_ok n [] b (by simp at h ⊢; omega) .nil b2).more (fun r hr => by cases hr) b1
  | n + 1, x :: a, y :: b, h, ha, hb => by
    obtain ⟨a1, a2⟩ := List.pairwise_cons.1 ha
    obtain ⟨b1, b2⟩ := List.pairwise_cons.1 hb
    simp only [List.length_cons] at h
    show DiffOK _ _ (if bl_le x.1 y.1 = true then (if y.1 = x.1 then delta (some x) (some y) ++ diffP n a b else delta (some x) none ++ diffP n a (y :: b)) else delta none (some y) ++ diffP n (x :: a) b)
    by_cases c1 : bl_le x.1 y.1 = true
    · rw [if_pos c1]
      by_cases c2 : y.1 = x.1
      · rw [if_pos c2]
        have ih := diffP_ok n a b (by omega) a2 b2
        have a1' : Under y.1 a := by rw [c2]; exact a1
        by_cases c3 : x.2 = y.2
        · have e : delta (some x) (some y) = [] := by unfold delta; simp [c3]
          have exy : x = y := Prod.ext c2.symm c3
          rw [e, List.nil_append]
          subst exy
          exact ih.same a1 b1
        · have e : delta (some x) (some y) = [(y.1, y.2, false)] := by unfold delta; simp [c3, c2]
          rw [e]
          exact ih.other c2.symm c3 a1' b1
      · rw [if_neg c2]
        have hlt : Op.bytesLess x.1 y.1 = true := by
          rcases bl_total x.1 y.1 with h | h | h
          · exact h
          · exact absurd h.symm c2
          · rw [bl_le_iff, h] at c1; cases c1
        exact (diffP_ok n a (y :: b) (by simp only [List.length_cons]; omega) a2 hb).less a1 (Under.cons hlt b1)
    · rw [if_neg c1]
      have hlt : Op.bytesLess y.1 x.1 = true := by
        rw [Bool.not_eq_true, bl_not_le] at c1; exact c1
      exact (diffP_ok n (x :: a) b (by simp only [List.length_cons]; omega) ha b2).more (Under.cons hlt a1) b1

theorem diffF_ok {a b : List KV} (ha : Srt a) (hb : Srt b) : DiffOK a b (diffF a b) := diffP_ok _ a b (Nat.le_refl _) ha hb

end Go.V07

set_option linter.unusedSimpArgs false
set_option linter.unusedVariables false
namespace Go.V07
open Go Go.Vm

end Go.V07

set_option linter.unusedSimpArgs false
set_option linter.unusedVariables false
namespace Go.V07
open Go Go.Vm
open Go.Proofs.Ytjjmkcmolmjpeaa

/-! ### what the bound says -/

theorem bulk_one {H : Type} (d : DataW H) : 1 ≤ Rows.uptoBulk d := by
  cases d with
  | lit l => cases l <;> simp [Rows.uptoBulk]
  | nil => simp [Rows.uptoBulk]
  | ptr d => simp [Rows.uptoBulk]
  | slice elems spare => simp [Rows.uptoBulk]
  | agg parts => simp [Rows.uptoBulk]
  | iface t d => simp [Rows.uptoBulk]
  | map entries => simp [Rows.uptoBulk]
  | held h => simp [Rows.uptoBulk]
theorem bulk_len {H : Type} (l : List (DataW H)) : l.length ≤ Rows.uptoBulkAll l := by
  induction l with
  | nil => simp [Rows.uptoBulkAll]
  | cons x r ih => have := bulk_one x; simp only [Rows.uptoBulkAll, List.length_cons]; omega
theorem bulk_part {H : Type} {d : DataW H} {l : List (DataW H)} (h : d ∈ l) : Rows.uptoBulk d ≤ Rows.uptoBulkAll l := by
  induction l with
  | nil => cases h
  | cons x r ih =>
    simp only [Rows.uptoBulkAll]
    cases List.mem_cons.1 h with
    | inl e => subst e; omega
    | inr e => have := ih e; omega

theorem DR_bytesB {H : Type} {P : Program} {t e n : Nat} {d : DataW H} {cs : List CV} (hu : P.underlying t = some (.slice e)) (he : P.underlying e = some (.int .u8)) (hc : P.cellsOf e = 1) (h : DR P (n + 2) t d cs) :
    ∃ (l : List UInt8) (c : CV), cs = [c] ∧ SlV 1 (eB l) (.cv c) ∧ l.length + 1 ≤ Rows.uptoBulk d := by
  obtain ⟨l, c, h1, h2, _, ⟨rfl, rfl⟩ | ⟨ds, rest, rfl, hl⟩⟩ := DR_bytes hu he hc h
  · exact ⟨[], c, h1, h2, by simp [Rows.uptoBulk]⟩
  · refine ⟨l, c, h1, h2, ?_⟩
    have := bulk_len ds
    simp only [Rows.uptoBulk]; omega

set_option maxRecDepth 100000 in
theorem ch_of {H : Type} {d : DataW H} {el : List CV} (h : DR Proofs.Try.prog 7 51 d el) (hlen : el.length = 3) : ∃ p, chE el p ∧ p.1.length + p.2.1.length + 1 ≤ Rows.uptoBulk d := by
  obtain ⟨ds, rfl, hd, hc, hf⟩ := DR_struct Proofs.Try.underlying51 h
  match ds, hd with
  | [d1, d2, d3], _ =>
    match el, hlen with
    | [c1, c2, c3], _ =>
      have f1 : DR Proofs.Try.prog 6 9 d1 (([c1, c2, c3].drop 0).take (Proofs.Try.prog.cellsOf 9)) := hf 0 _ d1 rfl rfl
      have f2 : DR Proofs.Try.prog 6 23 d2 (([c1, c2, c3].drop 1).take (Proofs.Try.prog.cellsOf 23)) := hf 1 _ d2 rfl rfl
      have f3 : DR Proofs.Try.prog 6 4 d3 (([c1, c2, c3].drop 2).take (Proofs.Try.prog.cellsOf 4)) := hf 2 _ d3 rfl rfl
      have k1 : Proofs.Try.prog.cellsOf 9 = 1 := by kernel_rfl
      have k2 : Proofs.Try.prog.cellsOf 23 = 1 := by kernel_rfl
      have k3 : Proofs.Try.prog.cellsOf 4 = 1 := by kernel_rfl
      rw [k1] at f1
      rw [k2] at f2
      rw [k3] at f3
      obtain ⟨s, rfl, e1, _⟩ := DR_string Proofs.Try.underlying9 f1
      obtain ⟨l, c, e2, hl, hb⟩ := DR_bytesB Proofs.Try.underlying23 Proofs.Try.underlying5 (by kernel_rfl) f2
      obtain ⟨g, rfl, e3⟩ := DR_bool Proofs.Try.underlying4 f3
      simp at e1 e2 e3
      subst e1 e2 e3
      refine ⟨(s.data.toList, l, g), ⟨_, rfl, hl⟩, ?_⟩
      simp only [Rows.uptoBulk, Rows.uptoBulkAll]; omega

set_option maxRecDepth 100000 in
theorem chs_of {H : Type} {d : DataW H} {u : VV} (h : DV Proofs.Try.prog 22 d u) : ∃ els kv, SlV 3 els u ∧ ChsE els kv ∧ sumC kv + 1 ≤ Rows.uptoBulk d := by
  obtain ⟨c, h1, rfl⟩ := DV_plain (by simp only [isStr, Proofs.Try.underlying22]) h
  have k2 : Proofs.Try.prog.cellsOf 51 = 3 := by kernel_rfl
  rcases DR_slice Proofs.Try.underlying22 h1 with ⟨rfl, e⟩ | ⟨ds, rest, els, rfl, e, h2, h3, h4⟩
  · cases e
    exact ⟨[], [], .inl ⟨rfl, rfl⟩, .nil, by simp [sumC, Rows.uptoBulk]⟩
  · cases e
    rw [k2] at h4 ⊢
    have key : ∀ (els : List (List CV)) (ds : List (DataW H)), els.length = ds.length → (∀ (i : Nat) (el : List CV) (y : DataW H), els[i]? = some el → ds[i]? = some y → el.length = 3 ∧ DR Proofs.Try.prog 7 51 y el) → ∃ kv, ChsE els kv ∧ sumC kv ≤ Rows.uptoBulkAll ds := by
      intro els
      induction els with
      | nil => intro ds _ _; exact ⟨[], .nil, by simp [sumC]⟩
      | cons el r ih =>
        intro ds hl hh
        match ds, hl with
        | y :: ys, hl =>
          obtain ⟨a1, a2⟩ := hh 0 el y rfl rfl
          obtain ⟨p, b1, b2⟩ := ch_of a2 a1
          obtain ⟨kv, c1, c2⟩ := ih ys (by simpa using hl) (fun i el y h1 h2 => hh (i + 1) el y (by simpa using h1) (by simpa using h2))
          exact ⟨p :: kv, .cons b1 c1, by rw [sumC_cons]; simp only [Rows.uptoBulkAll]; omega⟩
    obtain ⟨kv, c1, c2⟩ := key els ds h2 h4
    exact ⟨els, kv, .inr ⟨false, rfl⟩, c1, by simp only [Rows.uptoBulk]; omega⟩

/-! ### LogParts -/
theorem f10_loop (l : List (List CV)) (k : List Ch) (vl : VV) (hl : SlV 3 l vl) (hR : ChsE l k) (h : Heap) : ∀ (rest : List Ch) (i n : Nat) (s : List VV) (Q : Pst),
    k.drop i = rest → i ≤ k.length → k.length ≤ 2000000 → n + sumC rest ≤ 4000000 → s.length = 30 → s.getD 0 .undef = vl → s.getD 3 .undef = vi .i64 n → s.getD 4 .undef = vi .i64 i →
    (∀ s', s'.length = 30 → s'.getD 3 .undef = vi .i64 ((n + (sumC rest - rest.length) : Nat) : Int) → Q (.exit 0) ⟨s', h⟩) → X F (.loop f10_0) ⟨s, h⟩ Q := by
  intro rest
  have hkl := hR.len
  induction rest with
  | nil =>
    intro i n s Q hd hi hk hn hs h0 h3 h4 hQ
    rw [X_loop, X_eq f10_0.eq_1]
    have hlt : ¬ (i : Int) < (l.length : Int) := by
      have := congrArg List.length hd
      rw [List.length_drop, List.length_nil] at this
      omega
    simp only [go_sem, Nat.reduceLT, Nat.reduceEqDiff, reduceCtorEq, Int.reduceLT, Int.reduceEq, hs, h0, h4, hl.ln, hlt]
    exact hQ _ (by simp only [slot_len, hs]) (by simp only [go_sem, Nat.reduceLT, Nat.reduceEqDiff, reduceCtorEq, Int.reduceLT, Int.reduceEq, h3]; rfl)
  | cons p rest ih =>
    intro i n s Q hd hi hk hn hs h0 h3 h4 hQ
    have hget : k[i]? = some p := by
      have := congrArg (fun x => x[0]?) hd
      simpa using this
    have hilt : i < k.length := (List.getElem?_eq_some_iff.1 hget).1
    have hd' : k.drop (i + 1) = rest := by
      rw [← List.drop_drop, hd]; rfl
    obtain ⟨e, p', g1, g2, c, rfl, hc⟩ := hR.get (i := i) hilt
    rw [hget] at g2; cases g2
    have hlt : (i : Int) < (l.length : Int) := by omega
    have hia : ∀ h : Heap, iaO h 3 vl (vi .i64 (i : Int)) = some (.rptr [.sc (.string ⟨p.1.toArray⟩), c, .sc (.bool p.2.2)], h) := fun h => hl.ia (by omega) (by exact g1)
    have e5 : IntKind.i64.wrap ((i : Int) + 1) = ((i + 1 : Nat) : Int) := by rw [IntWalk.i64_in _ (by omega)]; omega
    rw [sumC_cons] at hn
    have hsl := sumC_le rest
    have e6 : IntKind.i64.wrap ((p.1.length : Int) + (p.2.1.length : Int)) = ((p.1.length + p.2.1.length : Nat) : Int) := by rw [IntWalk.i64_in _ (by omega)]; omega
    have e7 : IntKind.i64.wrap ((n : Int) + ((p.1.length + p.2.1.length : Nat) : Int)) = ((n + (p.1.length + p.2.1.length) : Nat) : Int) := by rw [IntWalk.i64_in _ (by omega)]; omega
    rw [X_loop, X_eq f10_0.eq_1]
    simp only [go_sem, Nat.reduceLT, Nat.reduceEqDiff, reduceCtorEq, Int.reduceLT, Int.reduceEq, hs, h0, h4, hl.ln, hlt]
    refine X_draw rfl ?_
    simp only [go_sem, Nat.reduceLT, Nat.reduceEqDiff, reduceCtorEq, Int.reduceLT, Int.reduceEq, hs, h0, h3, h4, hia, hc.ln, eB_len, e6, e7, e5]
    refine ih (i + 1) (n + (p.1.length + p.2.1.length)) _ Q hd' (by omega) hk (by omega) (by simp only [slot_len, hs]) (by simp only [go_sem, Nat.reduceLT, Nat.reduceEqDiff, reduceCtorEq, Int.reduceLT, Int.reduceEq, h0]) (by simp only [go_sem, Nat.reduceLT, Nat.reduceEqDiff, reduceCtorEq, Int.reduceLT, Int.reduceEq, hs]) (by simp only [go_sem, Nat.reduceLT, Nat.reduceEqDiff, reduceCtorEq, Int.reduceLT, Int.reduceEq, hs]) (fun s' a1 a2 => hQ s' a1 ?_)
    have e9 : n + (p.1.length + p.2.1.length) + (sumC rest - rest.length) = n + (sumC (p :: rest) - (p :: rest).length) := by rw [sumC_cons, List.length_cons]; omega
    rw [a2, e9]
theorem much_f10 {l : List (List CV)} {k : List Ch} {vl : VV} (hl : SlV 3 l vl) (hR : ChsE l k) (hk : sumC k ≤ 1048576) : ∃ h', call F 10 [vl] [] = some (.ret (vb (decide ((1500 : Int) < (sumC k : Int)))), h') := by
  have : Ret F 10 [vl] [] fun v h' => v = vb (decide ((1500 : Int) < (sumC k : Int))) := by
    refine call_E (fn := f10) rfl ?_
    simp only [f10]
    generalize hs0 : ([vl] ++ List.replicate _ VV.undef : List VV) = s
    have hs : s.length = 30 := by rw [← hs0]; rfl
    have h0 : s.getD 0 .undef = vl := by rw [← hs0]; rfl
    clear hs0
    have hkl := hR.len
    have hsl := sumC_le k
    simp only [go_sem, Nat.reduceLT, Nat.reduceEqDiff, reduceCtorEq, Int.reduceLT, Int.reduceEq, hs, h0, hl.ln]
    refine f10_loop l k vl hl hR [] k 0 l.length _ _ rfl (by omega) (by omega) (by omega) (by simp only [slot_len, hs]) (by simp only [go_sem, Nat.reduceLT, Nat.reduceEqDiff, reduceCtorEq, Int.reduceLT, Int.reduceEq, h0]) (by simp only [go_sem, Nat.reduceLT, Nat.reduceEqDiff, reduceCtorEq, Int.reduceLT, Int.reduceEq, hs]) (by simp only [go_sem, Nat.reduceLT, Nat.reduceEqDiff, reduceCtorEq, Int.reduceLT, Int.reduceEq, hs]; rfl) (fun s' a1 a2 => ?_)
    have e : l.length + (sumC k - k.length) = sumC k := by omega
    rw [e] at a2
    simp only [go_sem, Nat.reduceLT, Nat.reduceEqDiff, reduceCtorEq, Int.reduceLT, Int.reduceEq, a1, a2, gt_iff_lt]
  obtain ⟨v, h', n1, rfl⟩ := this
  exact ⟨h', n1⟩
end Go.V07
