/- Part of a proof: of what it says, and when, each theorem tells itself. -/
import Derived.Test.YtjjmkcmolmjpeaaC07Ir
import Derived.Test.YtjjmkcmolmjpeaaVmAll2

set_option linter.unusedSimpArgs false
namespace Go.V07
open Go Go.Vm

def u8 (n : Nat) : UInt8 := UInt8.ofNat n
/-- A number's bytes, seven bits each. -/
def numF : Nat → Nat → List UInt8
  | 0, n => [u8 n]
  | k + 1, n => if 127 < n then u8 (128 + n % 128) :: numF k (n / 128) else [u8 n]
def num (n : Nat) : List UInt8 := numF 8 n

theorem eB_append (a b : List UInt8) : eB (a ++ b) = eB a ++ eB b := by simp [eB]
theorem eB_u8 (n : Nat) (h : n < 256) : eB [u8 n] = [[.sc (.int .u8 n)]] := by
  simp only [eB, List.map, byteCell, u8]
  rw [UInt8.toNat_ofNat']
  simp only [Nat.reducePow]
  rw [Nat.mod_eq_of_lt h]

theorem u8_or128 (m : Nat) (h : m < 256) : bits .or .u8 (m : Int) 128 = ((128 + m % 128 : Nat) : Int) := by
  have : ∀ m : Fin 256, bits .or .u8 ((m.val : Nat) : Int) 128 = ((128 + m.val % 128 : Nat) : Int) := by decide +kernel
  exact this ⟨m, h⟩

theorem f57_loop : ∀ (k n : Nat) (out : List UInt8) (h0 : Heap) (s : List VV) (h : Heap) (v : VV) (Q : Pst), n < 128 ^ (k + 1) → n < 9223372036854775808 → out.length + k ≤ 100 → s.length = 22 →
    s.getD 0 .undef = vi .i64 n → s.getD 3 .undef = v → Buf h0 1 (eB out) v h →
    (∀ (n' : Nat) (out' : List UInt8) s' h' v', s'.length = 22 → s'.getD 0 .undef = vi .i64 n' → n' ≤ 127 → s'.getD 3 .undef = v' → Buf h0 1 (eB out') v' h' → out' ++ [u8 n'] = out ++ numF k n → Q (.exit 0) ⟨s', h'⟩) →
    X F (.loop f57_0) ⟨s, h⟩ Q := by
  intro k
  induction k with
  | zero =>
    intro n out h0 s h v Q hn hn2 hlen hs h1 h2 hb hQ
    rw [X_loop, X_eq f57_0.eq_1]
    simp only [X_skip, X_seq, X_reg, X_block, X_scope, X_exit, X_goto, X_ret, X_label, XO_mv, XO_g, XG_tt, XG_tf, XG_ft, XG_ff, XO_bin, XO_cvI, XO_pick, XO_ext, XO_len, XO_mnmx, XD_mv, XD_g, XGD_tt, XGD_tf, XGD_ft, XGD_ff, XD_bin, XD_cvI, XD_pick, XD_ext, XD_len, XD_mnmx, XD_mksl, XD_iadL, XD_ld, XD_fad, XD_nil, XWD_some, XVD_same, XVD_k, XO_alloc, XO_st, XD_st, XO_box, XO_mkslo, XD_mkslo, XO_mrk, XD_mrk, mr_0, XO_build, st_0_2, st_0_3, st_l_2, st_l_3, ld_l_2, ld_l_3, ld_r_2, ld_r_3, ld_l_at, Nat.zero_add, bd_nil, bd_2, bd_3, XD_build, XO_fld, XD_fld, XO_cvBS, XD_cvBS, bs_sl, bs_nil, XO_cvSB, XD_cvSB, sb_txt, XO_slL, XD_slL, Option.map_some, Option.map_none, XO_mksl, XO_iadL, XO_ld, XO_fad, ld_rptr, fd_r, fd_p, fd_e, List.drop_zero, List.drop_succ_cons, mkParts_nil, mkParts_cons, mkO_1, mkO_2, mk_agg2, mk_agg3, src_sl, mmO_min, mmO_max, XW_some, XV_some, ln_nil, ln_sl, ln_own, ln_str, cvO_eq, pkO_t, pkO_f, exO_eq, evalO_t, evalO_c, putD_some, putD_none, slot_len, slot_eq, slot_ne, ne_eq, Nat.reduceLT, Nat.reduceEqDiff, not_false_eq_true, not_true_eq_false, reduceCtorEq, XO_nil, RQ_0, RQ_0n, RQ_1, RQ_2, RQ_3, K_norm, K_exit, K_goto, K_ret, K_pan, B_norm, B_exit, B_goto, B_ret, B_pan, S_norm, S_exit, S_ret, S_pan, X_cnd, XB_true, XB_false, bin_add, bin_sub, bin_mul, bin_and, bin_or, bin_shr, bin_shl, bin_quo, bin_rem, Int.reduceLT, Int.reduceEq, bin_eql, bin_neq, bin_lss, bin_leq, bin_gtr, bin_geq, bin_seql, bin_sneq, decide_true, decide_false, eq_self, if_true, if_false, List.getElem?_cons_zero, List.getElem?_cons_succ, hs, h1]
    refine XB_dec (fun hc => ?_) (fun hc => ?_)
    · omega
    · simp only [X_skip, X_seq, X_reg, X_block, X_scope, X_exit, X_goto, X_ret, X_label, XO_mv, XO_g, XG_tt, XG_tf, XG_ft, XG_ff, XO_bin, XO_cvI, XO_pick, XO_ext, XO_len, XO_mnmx, XD_mv, XD_g, XGD_tt, XGD_tf, XGD_ft, XGD_ff, XD_bin, XD_cvI, XD_pick, XD_ext, XD_len, XD_mnmx, XD_mksl, XD_iadL, XD_ld, XD_fad, XD_nil, XWD_some, XVD_same, XVD_k, XO_alloc, XO_st, XD_st, XO_box, XO_mkslo, XD_mkslo, XO_mrk, XD_mrk, mr_0, XO_build, st_0_2, st_0_3, st_l_2, st_l_3, ld_l_2, ld_l_3, ld_r_2, ld_r_3, ld_l_at, Nat.zero_add, bd_nil, bd_2, bd_3, XD_build, XO_fld, XD_fld, XO_cvBS, XD_cvBS, bs_sl, bs_nil, XO_cvSB, XD_cvSB, sb_txt, XO_slL, XD_slL, Option.map_some, Option.map_none, XO_mksl, XO_iadL, XO_ld, XO_fad, ld_rptr, fd_r, fd_p, fd_e, List.drop_zero, List.drop_succ_cons, mkParts_nil, mkParts_cons, mkO_1, mkO_2, mk_agg2, mk_agg3, src_sl, mmO_min, mmO_max, XW_some, XV_some, ln_nil, ln_sl, ln_own, ln_str, cvO_eq, pkO_t, pkO_f, exO_eq, evalO_t, evalO_c, putD_some, putD_none, slot_len, slot_eq, slot_ne, ne_eq, Nat.reduceLT, Nat.reduceEqDiff, not_false_eq_true, not_true_eq_false, reduceCtorEq, XO_nil, RQ_0, RQ_0n, RQ_1, RQ_2, RQ_3, K_norm, K_exit, K_goto, K_ret, K_pan, B_norm, B_exit, B_goto, B_ret, B_pan, S_norm, S_exit, S_ret, S_pan, X_cnd, XB_true, XB_false, bin_add, bin_sub, bin_mul, bin_and, bin_or, bin_shr, bin_shl, bin_quo, bin_rem, Int.reduceLT, Int.reduceEq, bin_eql, bin_neq, bin_lss, bin_leq, bin_gtr, bin_geq, bin_seql, bin_sneq, decide_true, decide_false, eq_self, if_true, if_false, List.getElem?_cons_zero, List.getElem?_cons_succ]
      refine hQ n out _ h v (by simp only [slot_len, hs]) ?_ (by omega) ?_ hb ?_
      · simp only [slot_ne, ne_eq, Nat.reduceEqDiff, not_false_eq_true, h1]
      · simp only [X_skip, X_seq, X_reg, X_block, X_scope, X_exit, X_goto, X_ret, X_label, XO_mv, XO_g, XG_tt, XG_tf, XG_ft, XG_ff, XO_bin, XO_cvI, XO_pick, XO_ext, XO_len, XO_mnmx, XD_mv, XD_g, XGD_tt, XGD_tf, XGD_ft, XGD_ff, XD_bin, XD_cvI, XD_pick, XD_ext, XD_len, XD_mnmx, XD_mksl, XD_iadL, XD_ld, XD_fad, XD_nil, XWD_some, XVD_same, XVD_k, XO_alloc, XO_st, XD_st, XO_box, XO_mkslo, XD_mkslo, XO_mrk, XD_mrk, mr_0, XO_build, st_0_2, st_0_3, st_l_2, st_l_3, ld_l_2, ld_l_3, ld_r_2, ld_r_3, ld_l_at, Nat.zero_add, bd_nil, bd_2, bd_3, XD_build, XO_fld, XD_fld, XO_cvBS, XD_cvBS, bs_sl, bs_nil, XO_cvSB, XD_cvSB, sb_txt, XO_slL, XD_slL, Option.map_some, Option.map_none, XO_mksl, XO_iadL, XO_ld, XO_fad, ld_rptr, fd_r, fd_p, fd_e, List.drop_zero, List.drop_succ_cons, mkParts_nil, mkParts_cons, mkO_1, mkO_2, mk_agg2, mk_agg3, src_sl, mmO_min, mmO_max, XW_some, XV_some, ln_nil, ln_sl, ln_own, ln_str, cvO_eq, pkO_t, pkO_f, exO_eq, evalO_t, evalO_c, putD_some, putD_none, slot_len, slot_eq, slot_ne, ne_eq, Nat.reduceLT, Nat.reduceEqDiff, not_false_eq_true, not_true_eq_false, reduceCtorEq, XO_nil, RQ_0, RQ_0n, RQ_1, RQ_2, RQ_3, K_norm, K_exit, K_goto, K_ret, K_pan, B_norm, B_exit, B_goto, B_ret, B_pan, S_norm, S_exit, S_ret, S_pan, X_cnd, XB_true, XB_false, bin_add, bin_sub, bin_mul, bin_and, bin_or, bin_shr, bin_shl, bin_quo, bin_rem, Int.reduceLT, Int.reduceEq, bin_eql, bin_neq, bin_lss, bin_leq, bin_gtr, bin_geq, bin_seql, bin_sneq, decide_true, decide_false, eq_self, if_true, if_false, List.getElem?_cons_zero, List.getElem?_cons_succ, hs, h2]
      · rfl
  | succ k ih =>
    intro n out h0 s h v Q hn hn2 hlen hs h1 h2 hb hQ
    rw [X_loop, X_eq f57_0.eq_1]
    simp only [X_skip, X_seq, X_reg, X_block, X_scope, X_exit, X_goto, X_ret, X_label, XO_mv, XO_g, XG_tt, XG_tf, XG_ft, XG_ff, XO_bin, XO_cvI, XO_pick, XO_ext, XO_len, XO_mnmx, XD_mv, XD_g, XGD_tt, XGD_tf, XGD_ft, XGD_ff, XD_bin, XD_cvI, XD_pick, XD_ext, XD_len, XD_mnmx, XD_mksl, XD_iadL, XD_ld, XD_fad, XD_nil, XWD_some, XVD_same, XVD_k, XO_alloc, XO_st, XD_st, XO_box, XO_mkslo, XD_mkslo, XO_mrk, XD_mrk, mr_0, XO_build, st_0_2, st_0_3, st_l_2, st_l_3, ld_l_2, ld_l_3, ld_r_2, ld_r_3, ld_l_at, Nat.zero_add, bd_nil, bd_2, bd_3, XD_build, XO_fld, XD_fld, XO_cvBS, XD_cvBS, bs_sl, bs_nil, XO_cvSB, XD_cvSB, sb_txt, XO_slL, XD_slL, Option.map_some, Option.map_none, XO_mksl, XO_iadL, XO_ld, XO_fad, ld_rptr, fd_r, fd_p, fd_e, List.drop_zero, List.drop_succ_cons, mkParts_nil, mkParts_cons, mkO_1, mkO_2, mk_agg2, mk_agg3, src_sl, mmO_min, mmO_max, XW_some, XV_some, ln_nil, ln_sl, ln_own, ln_str, cvO_eq, pkO_t, pkO_f, exO_eq, evalO_t, evalO_c, putD_some, putD_none, slot_len, slot_eq, slot_ne, ne_eq, Nat.reduceLT, Nat.reduceEqDiff, not_false_eq_true, not_true_eq_false, reduceCtorEq, XO_nil, RQ_0, RQ_0n, RQ_1, RQ_2, RQ_3, K_norm, K_exit, K_goto, K_ret, K_pan, B_norm, B_exit, B_goto, B_ret, B_pan, S_norm, S_exit, S_ret, S_pan, X_cnd, XB_true, XB_false, bin_add, bin_sub, bin_mul, bin_and, bin_or, bin_shr, bin_shl, bin_quo, bin_rem, Int.reduceLT, Int.reduceEq, bin_eql, bin_neq, bin_lss, bin_leq, bin_gtr, bin_geq, bin_seql, bin_sneq, decide_true, decide_false, eq_self, if_true, if_false, List.getElem?_cons_zero, List.getElem?_cons_succ, hs, h1]
    refine XB_dec (fun hc => ?_) (fun hc => ?_)
    · simp only [X_skip, X_seq, X_reg, X_block, X_scope, X_exit, X_goto, X_ret, X_label, XO_mv, XO_g, XG_tt, XG_tf, XG_ft, XG_ff, XO_bin, XO_cvI, XO_pick, XO_ext, XO_len, XO_mnmx, XD_mv, XD_g, XGD_tt, XGD_tf, XGD_ft, XGD_ff, XD_bin, XD_cvI, XD_pick, XD_ext, XD_len, XD_mnmx, XD_mksl, XD_iadL, XD_ld, XD_fad, XD_nil, XWD_some, XVD_same, XVD_k, XO_alloc, XO_st, XD_st, XO_box, XO_mkslo, XD_mkslo, XO_mrk, XD_mrk, mr_0, XO_build, st_0_2, st_0_3, st_l_2, st_l_3, ld_l_2, ld_l_3, ld_r_2, ld_r_3, ld_l_at, Nat.zero_add, bd_nil, bd_2, bd_3, XD_build, XO_fld, XD_fld, XO_cvBS, XD_cvBS, bs_sl, bs_nil, XO_cvSB, XD_cvSB, sb_txt, XO_slL, XD_slL, Option.map_some, Option.map_none, XO_mksl, XO_iadL, XO_ld, XO_fad, ld_rptr, fd_r, fd_p, fd_e, List.drop_zero, List.drop_succ_cons, mkParts_nil, mkParts_cons, mkO_1, mkO_2, mk_agg2, mk_agg3, src_sl, mmO_min, mmO_max, XW_some, XV_some, ln_nil, ln_sl, ln_own, ln_str, cvO_eq, pkO_t, pkO_f, exO_eq, evalO_t, evalO_c, putD_some, putD_none, slot_len, slot_eq, slot_ne, ne_eq, Nat.reduceLT, Nat.reduceEqDiff, not_false_eq_true, not_true_eq_false, reduceCtorEq, XO_nil, RQ_0, RQ_0n, RQ_1, RQ_2, RQ_3, K_norm, K_exit, K_goto, K_ret, K_pan, B_norm, B_exit, B_goto, B_ret, B_pan, S_norm, S_exit, S_ret, S_pan, X_cnd, XB_true, XB_false, bin_add, bin_sub, bin_mul, bin_and, bin_or, bin_shr, bin_shl, bin_quo, bin_rem, Int.reduceLT, Int.reduceEq, bin_eql, bin_neq, bin_lss, bin_leq, bin_gtr, bin_geq, bin_seql, bin_sneq, decide_true, decide_false, eq_self, if_true, if_false, List.getElem?_cons_zero, List.getElem?_cons_succ, hs, h1, h2]
      have e1 : bits .or .u8 (IntKind.u8.wrap n) 128 = ((128 + n % 128 : Nat) : Int) := by
        rw [IntKind.wrap_u8]
        have hm : ((n : Int) % 256) = ((n % 256 : Nat) : Int) := by omega
        rw [hm]
        have := u8_or128 (n % 256) (by omega)
        rw [this]
        omega
      rw [e1]
      refine XO_app (new := eB [u8 (128 + n % 128)]) hb (by simp only [X_skip, X_seq, X_reg, X_block, X_scope, X_exit, X_goto, X_ret, X_label, XO_mv, XO_g, XG_tt, XG_tf, XG_ft, XG_ff, XO_bin, XO_cvI, XO_pick, XO_ext, XO_len, XO_mnmx, XD_mv, XD_g, XGD_tt, XGD_tf, XGD_ft, XGD_ff, XD_bin, XD_cvI, XD_pick, XD_ext, XD_len, XD_mnmx, XD_mksl, XD_iadL, XD_ld, XD_fad, XD_nil, XWD_some, XVD_same, XVD_k, XO_alloc, XO_st, XD_st, XO_box, XO_mkslo, XD_mkslo, XO_mrk, XD_mrk, mr_0, XO_build, st_0_2, st_0_3, st_l_2, st_l_3, ld_l_2, ld_l_3, ld_r_2, ld_r_3, ld_l_at, Nat.zero_add, bd_nil, bd_2, bd_3, XD_build, XO_fld, XD_fld, XO_cvBS, XD_cvBS, bs_sl, bs_nil, XO_cvSB, XD_cvSB, sb_txt, XO_slL, XD_slL, Option.map_some, Option.map_none, XO_mksl, XO_iadL, XO_ld, XO_fad, ld_rptr, fd_r, fd_p, fd_e, List.drop_zero, List.drop_succ_cons, mkParts_nil, mkParts_cons, mkO_1, mkO_2, mk_agg2, mk_agg3, src_sl, mmO_min, mmO_max, XW_some, XV_some, ln_nil, ln_sl, ln_own, ln_str, cvO_eq, pkO_t, pkO_f, exO_eq, evalO_t, evalO_c, putD_some, putD_none, slot_len, slot_eq, slot_ne, ne_eq, Nat.reduceLT, Nat.reduceEqDiff, not_false_eq_true, not_true_eq_false, reduceCtorEq, XO_nil, RQ_0, RQ_0n, RQ_1, RQ_2, RQ_3, K_norm, K_exit, K_goto, K_ret, K_pan, B_norm, B_exit, B_goto, B_ret, B_pan, S_norm, S_exit, S_ret, S_pan, X_cnd, XB_true, XB_false, bin_add, bin_sub, bin_mul, bin_and, bin_or, bin_shr, bin_shl, bin_quo, bin_rem, Int.reduceLT, Int.reduceEq, bin_eql, bin_neq, bin_lss, bin_leq, bin_gtr, bin_geq, bin_seql, bin_sneq, decide_true, decide_false, eq_self, if_true, if_false, List.getElem?_cons_zero, List.getElem?_cons_succ, hs]) ?_ ?_ ?_ (fun v' h' hb' => ?_)
      · simp only [X_skip, X_seq, X_reg, X_block, X_scope, X_exit, X_goto, X_ret, X_label, XO_mv, XO_g, XG_tt, XG_tf, XG_ft, XG_ff, XO_bin, XO_cvI, XO_pick, XO_ext, XO_len, XO_mnmx, XD_mv, XD_g, XGD_tt, XGD_tf, XGD_ft, XGD_ff, XD_bin, XD_cvI, XD_pick, XD_ext, XD_len, XD_mnmx, XD_mksl, XD_iadL, XD_ld, XD_fad, XD_nil, XWD_some, XVD_same, XVD_k, XO_alloc, XO_st, XD_st, XO_box, XO_mkslo, XD_mkslo, XO_mrk, XD_mrk, mr_0, XO_build, st_0_2, st_0_3, st_l_2, st_l_3, ld_l_2, ld_l_3, ld_r_2, ld_r_3, ld_l_at, Nat.zero_add, bd_nil, bd_2, bd_3, XD_build, XO_fld, XD_fld, XO_cvBS, XD_cvBS, bs_sl, bs_nil, XO_cvSB, XD_cvSB, sb_txt, XO_slL, XD_slL, Option.map_some, Option.map_none, XO_mksl, XO_iadL, XO_ld, XO_fad, ld_rptr, fd_r, fd_p, fd_e, List.drop_zero, List.drop_succ_cons, mkParts_nil, mkParts_cons, mkO_1, mkO_2, mk_agg2, mk_agg3, src_sl, mmO_min, mmO_max, XW_some, XV_some, ln_nil, ln_sl, ln_own, ln_str, cvO_eq, pkO_t, pkO_f, exO_eq, evalO_t, evalO_c, putD_some, putD_none, slot_len, slot_eq, slot_ne, ne_eq, Nat.reduceLT, Nat.reduceEqDiff, not_false_eq_true, not_true_eq_false, reduceCtorEq, XO_nil, RQ_0, RQ_0n, RQ_1, RQ_2, RQ_3, K_norm, K_exit, K_goto, K_ret, K_pan, B_norm, B_exit, B_goto, B_ret, B_pan, S_norm, S_exit, S_ret, S_pan, X_cnd, XB_true, XB_false, bin_add, bin_sub, bin_mul, bin_and, bin_or, bin_shr, bin_shl, bin_quo, bin_rem, Int.reduceLT, Int.reduceEq, bin_eql, bin_neq, bin_lss, bin_leq, bin_gtr, bin_geq, bin_seql, bin_sneq, decide_true, decide_false, eq_self, if_true, if_false, List.getElem?_cons_zero, List.getElem?_cons_succ, hs]
        rw [eB_u8 _ (by omega)]
      · simp [eB]; omega
      · simp [eB]; omega
      · simp only [X_skip, X_seq, X_reg, X_block, X_scope, X_exit, X_goto, X_ret, X_label, XO_mv, XO_g, XG_tt, XG_tf, XG_ft, XG_ff, XO_bin, XO_cvI, XO_pick, XO_ext, XO_len, XO_mnmx, XD_mv, XD_g, XGD_tt, XGD_tf, XGD_ft, XGD_ff, XD_bin, XD_cvI, XD_pick, XD_ext, XD_len, XD_mnmx, XD_mksl, XD_iadL, XD_ld, XD_fad, XD_nil, XWD_some, XVD_same, XVD_k, XO_alloc, XO_st, XD_st, XO_box, XO_mkslo, XD_mkslo, XO_mrk, XD_mrk, mr_0, XO_build, st_0_2, st_0_3, st_l_2, st_l_3, ld_l_2, ld_l_3, ld_r_2, ld_r_3, ld_l_at, Nat.zero_add, bd_nil, bd_2, bd_3, XD_build, XO_fld, XD_fld, XO_cvBS, XD_cvBS, bs_sl, bs_nil, XO_cvSB, XD_cvSB, sb_txt, XO_slL, XD_slL, Option.map_some, Option.map_none, XO_mksl, XO_iadL, XO_ld, XO_fad, ld_rptr, fd_r, fd_p, fd_e, List.drop_zero, List.drop_succ_cons, mkParts_nil, mkParts_cons, mkO_1, mkO_2, mk_agg2, mk_agg3, src_sl, mmO_min, mmO_max, XW_some, XV_some, ln_nil, ln_sl, ln_own, ln_str, cvO_eq, pkO_t, pkO_f, exO_eq, evalO_t, evalO_c, putD_some, putD_none, slot_len, slot_eq, slot_ne, ne_eq, Nat.reduceLT, Nat.reduceEqDiff, not_false_eq_true, not_true_eq_false, reduceCtorEq, XO_nil, RQ_0, RQ_0n, RQ_1, RQ_2, RQ_3, K_norm, K_exit, K_goto, K_ret, K_pan, B_norm, B_exit, B_goto, B_ret, B_pan, S_norm, S_exit, S_ret, S_pan, X_cnd, XB_true, XB_false, bin_add, bin_sub, bin_mul, bin_and, bin_or, bin_shr, bin_shl, bin_quo, bin_rem, Int.reduceLT, Int.reduceEq, bin_eql, bin_neq, bin_lss, bin_leq, bin_gtr, bin_geq, bin_seql, bin_sneq, decide_true, decide_false, eq_self, if_true, if_false, List.getElem?_cons_zero, List.getElem?_cons_succ, hs, h1, bin_shr, not_false_eq_true]
        have e2 : ((n : Int).fdiv (2 ^ min (7 : Int).toNat IntKind.i64.bits)) = ((n / 128 : Nat) : Int) := by
          have : (2 : Int) ^ min (7 : Int).toNat IntKind.i64.bits = 128 := by decide
          rw [this, Int.fdiv_eq_ediv_of_nonneg _ (by decide)]
          omega
        rw [e2]
        rw [← eB_append] at hb'
        refine ih (n / 128) (out ++ [u8 (128 + n % 128)]) h0 _ h' v' Q ?_ ?_ ?_ ?_ ?_ ?_ hb' ?_
        · rw [Nat.pow_succ] at hn
          omega
        · omega
        · simp; omega
        · simp only [X_skip, X_seq, X_reg, X_block, X_scope, X_exit, X_goto, X_ret, X_label, XO_mv, XO_g, XG_tt, XG_tf, XG_ft, XG_ff, XO_bin, XO_cvI, XO_pick, XO_ext, XO_len, XO_mnmx, XD_mv, XD_g, XGD_tt, XGD_tf, XGD_ft, XGD_ff, XD_bin, XD_cvI, XD_pick, XD_ext, XD_len, XD_mnmx, XD_mksl, XD_iadL, XD_ld, XD_fad, XD_nil, XWD_some, XVD_same, XVD_k, XO_alloc, XO_st, XD_st, XO_box, XO_mkslo, XD_mkslo, XO_mrk, XD_mrk, mr_0, XO_build, st_0_2, st_0_3, st_l_2, st_l_3, ld_l_2, ld_l_3, ld_r_2, ld_r_3, ld_l_at, Nat.zero_add, bd_nil, bd_2, bd_3, XD_build, XO_fld, XD_fld, XO_cvBS, XD_cvBS, bs_sl, bs_nil, XO_cvSB, XD_cvSB, sb_txt, XO_slL, XD_slL, Option.map_some, Option.map_none, XO_mksl, XO_iadL, XO_ld, XO_fad, ld_rptr, fd_r, fd_p, fd_e, List.drop_zero, List.drop_succ_cons, mkParts_nil, mkParts_cons, mkO_1, mkO_2, mk_agg2, mk_agg3, src_sl, mmO_min, mmO_max, XW_some, XV_some, ln_nil, ln_sl, ln_own, ln_str, cvO_eq, pkO_t, pkO_f, exO_eq, evalO_t, evalO_c, putD_some, putD_none, slot_len, slot_eq, slot_ne, ne_eq, Nat.reduceLT, Nat.reduceEqDiff, not_false_eq_true, not_true_eq_false, reduceCtorEq, XO_nil, RQ_0, RQ_0n, RQ_1, RQ_2, RQ_3, K_norm, K_exit, K_goto, K_ret, K_pan, B_norm, B_exit, B_goto, B_ret, B_pan, S_norm, S_exit, S_ret, S_pan, X_cnd, XB_true, XB_false, bin_add, bin_sub, bin_mul, bin_and, bin_or, bin_shr, bin_shl, bin_quo, bin_rem, Int.reduceLT, Int.reduceEq, bin_eql, bin_neq, bin_lss, bin_leq, bin_gtr, bin_geq, bin_seql, bin_sneq, decide_true, decide_false, eq_self, if_true, if_false, List.getElem?_cons_zero, List.getElem?_cons_succ, hs]
        · simp only [X_skip, X_seq, X_reg, X_block, X_scope, X_exit, X_goto, X_ret, X_label, XO_mv, XO_g, XG_tt, XG_tf, XG_ft, XG_ff, XO_bin, XO_cvI, XO_pick, XO_ext, XO_len, XO_mnmx, XD_mv, XD_g, XGD_tt, XGD_tf, XGD_ft, XGD_ff, XD_bin, XD_cvI, XD_pick, XD_ext, XD_len, XD_mnmx, XD_mksl, XD_iadL, XD_ld, XD_fad, XD_nil, XWD_some, XVD_same, XVD_k, XO_alloc, XO_st, XD_st, XO_box, XO_mkslo, XD_mkslo, XO_mrk, XD_mrk, mr_0, XO_build, st_0_2, st_0_3, st_l_2, st_l_3, ld_l_2, ld_l_3, ld_r_2, ld_r_3, ld_l_at, Nat.zero_add, bd_nil, bd_2, bd_3, XD_build, XO_fld, XD_fld, XO_cvBS, XD_cvBS, bs_sl, bs_nil, XO_cvSB, XD_cvSB, sb_txt, XO_slL, XD_slL, Option.map_some, Option.map_none, XO_mksl, XO_iadL, XO_ld, XO_fad, ld_rptr, fd_r, fd_p, fd_e, List.drop_zero, List.drop_succ_cons, mkParts_nil, mkParts_cons, mkO_1, mkO_2, mk_agg2, mk_agg3, src_sl, mmO_min, mmO_max, XW_some, XV_some, ln_nil, ln_sl, ln_own, ln_str, cvO_eq, pkO_t, pkO_f, exO_eq, evalO_t, evalO_c, putD_some, putD_none, slot_len, slot_eq, slot_ne, ne_eq, Nat.reduceLT, Nat.reduceEqDiff, not_false_eq_true, not_true_eq_false, reduceCtorEq, XO_nil, RQ_0, RQ_0n, RQ_1, RQ_2, RQ_3, K_norm, K_exit, K_goto, K_ret, K_pan, B_norm, B_exit, B_goto, B_ret, B_pan, S_norm, S_exit, S_ret, S_pan, X_cnd, XB_true, XB_false, bin_add, bin_sub, bin_mul, bin_and, bin_or, bin_shr, bin_shl, bin_quo, bin_rem, Int.reduceLT, Int.reduceEq, bin_eql, bin_neq, bin_lss, bin_leq, bin_gtr, bin_geq, bin_seql, bin_sneq, decide_true, decide_false, eq_self, if_true, if_false, List.getElem?_cons_zero, List.getElem?_cons_succ, hs]
        · simp only [X_skip, X_seq, X_reg, X_block, X_scope, X_exit, X_goto, X_ret, X_label, XO_mv, XO_g, XG_tt, XG_tf, XG_ft, XG_ff, XO_bin, XO_cvI, XO_pick, XO_ext, XO_len, XO_mnmx, XD_mv, XD_g, XGD_tt, XGD_tf, XGD_ft, XGD_ff, XD_bin, XD_cvI, XD_pick, XD_ext, XD_len, XD_mnmx, XD_mksl, XD_iadL, XD_ld, XD_fad, XD_nil, XWD_some, XVD_same, XVD_k, XO_alloc, XO_st, XD_st, XO_box, XO_mkslo, XD_mkslo, XO_mrk, XD_mrk, mr_0, XO_build, st_0_2, st_0_3, st_l_2, st_l_3, ld_l_2, ld_l_3, ld_r_2, ld_r_3, ld_l_at, Nat.zero_add, bd_nil, bd_2, bd_3, XD_build, XO_fld, XD_fld, XO_cvBS, XD_cvBS, bs_sl, bs_nil, XO_cvSB, XD_cvSB, sb_txt, XO_slL, XD_slL, Option.map_some, Option.map_none, XO_mksl, XO_iadL, XO_ld, XO_fad, ld_rptr, fd_r, fd_p, fd_e, List.drop_zero, List.drop_succ_cons, mkParts_nil, mkParts_cons, mkO_1, mkO_2, mk_agg2, mk_agg3, src_sl, mmO_min, mmO_max, XW_some, XV_some, ln_nil, ln_sl, ln_own, ln_str, cvO_eq, pkO_t, pkO_f, exO_eq, evalO_t, evalO_c, putD_some, putD_none, slot_len, slot_eq, slot_ne, ne_eq, Nat.reduceLT, Nat.reduceEqDiff, not_false_eq_true, not_true_eq_false, reduceCtorEq, XO_nil, RQ_0, RQ_0n, RQ_1, RQ_2, RQ_3, K_norm, K_exit, K_goto, K_ret, K_pan, B_norm, B_exit, B_goto, B_ret, B_pan, S_norm, S_exit, S_ret, S_pan, X_cnd, XB_true, XB_false, bin_add, bin_sub, bin_mul, bin_and, bin_or, bin_shr, bin_shl, bin_quo, bin_rem, Int.reduceLT, Int.reduceEq, bin_eql, bin_neq, bin_lss, bin_leq, bin_gtr, bin_geq, bin_seql, bin_sneq, decide_true, decide_false, eq_self, if_true, if_false, List.getElem?_cons_zero, List.getElem?_cons_succ, hs]
        · intro n' out' s' h'' v'' a1 a2 a3 a4 a5 a6
          refine hQ n' out' s' h'' v'' a1 a2 a3 a4 a5 ?_
          rw [a6]
          have : 127 < n := by omega
          simp [numF, this]
    · simp only [X_skip, X_seq, X_reg, X_block, X_scope, X_exit, X_goto, X_ret, X_label, XO_mv, XO_g, XG_tt, XG_tf, XG_ft, XG_ff, XO_bin, XO_cvI, XO_pick, XO_ext, XO_len, XO_mnmx, XD_mv, XD_g, XGD_tt, XGD_tf, XGD_ft, XGD_ff, XD_bin, XD_cvI, XD_pick, XD_ext, XD_len, XD_mnmx, XD_mksl, XD_iadL, XD_ld, XD_fad, XD_nil, XWD_some, XVD_same, XVD_k, XO_alloc, XO_st, XD_st, XO_box, XO_mkslo, XD_mkslo, XO_mrk, XD_mrk, mr_0, XO_build, st_0_2, st_0_3, st_l_2, st_l_3, ld_l_2, ld_l_3, ld_r_2, ld_r_3, ld_l_at, Nat.zero_add, bd_nil, bd_2, bd_3, XD_build, XO_fld, XD_fld, XO_cvBS, XD_cvBS, bs_sl, bs_nil, XO_cvSB, XD_cvSB, sb_txt, XO_slL, XD_slL, Option.map_some, Option.map_none, XO_mksl, XO_iadL, XO_ld, XO_fad, ld_rptr, fd_r, fd_p, fd_e, List.drop_zero, List.drop_succ_cons, mkParts_nil, mkParts_cons, mkO_1, mkO_2, mk_agg2, mk_agg3, src_sl, mmO_min, mmO_max, XW_some, XV_some, ln_nil, ln_sl, ln_own, ln_str, cvO_eq, pkO_t, pkO_f, exO_eq, evalO_t, evalO_c, putD_some, putD_none, slot_len, slot_eq, slot_ne, ne_eq, Nat.reduceLT, Nat.reduceEqDiff, not_false_eq_true, not_true_eq_false, reduceCtorEq, XO_nil, RQ_0, RQ_0n, RQ_1, RQ_2, RQ_3, K_norm, K_exit, K_goto, K_ret, K_pan, B_norm, B_exit, B_goto, B_ret, B_pan, S_norm, S_exit, S_ret, S_pan, X_cnd, XB_true, XB_false, bin_add, bin_sub, bin_mul, bin_and, bin_or, bin_shr, bin_shl, bin_quo, bin_rem, Int.reduceLT, Int.reduceEq, bin_eql, bin_neq, bin_lss, bin_leq, bin_gtr, bin_geq, bin_seql, bin_sneq, decide_true, decide_false, eq_self, if_true, if_false, List.getElem?_cons_zero, List.getElem?_cons_succ]
      refine hQ n out _ h v (by simp only [slot_len, hs]) ?_ (by omega) ?_ hb ?_
      · simp only [X_skip, X_seq, X_reg, X_block, X_scope, X_exit, X_goto, X_ret, X_label, XO_mv, XO_g, XG_tt, XG_tf, XG_ft, XG_ff, XO_bin, XO_cvI, XO_pick, XO_ext, XO_len, XO_mnmx, XD_mv, XD_g, XGD_tt, XGD_tf, XGD_ft, XGD_ff, XD_bin, XD_cvI, XD_pick, XD_ext, XD_len, XD_mnmx, XD_mksl, XD_iadL, XD_ld, XD_fad, XD_nil, XWD_some, XVD_same, XVD_k, XO_alloc, XO_st, XD_st, XO_box, XO_mkslo, XD_mkslo, XO_mrk, XD_mrk, mr_0, XO_build, st_0_2, st_0_3, st_l_2, st_l_3, ld_l_2, ld_l_3, ld_r_2, ld_r_3, ld_l_at, Nat.zero_add, bd_nil, bd_2, bd_3, XD_build, XO_fld, XD_fld, XO_cvBS, XD_cvBS, bs_sl, bs_nil, XO_cvSB, XD_cvSB, sb_txt, XO_slL, XD_slL, Option.map_some, Option.map_none, XO_mksl, XO_iadL, XO_ld, XO_fad, ld_rptr, fd_r, fd_p, fd_e, List.drop_zero, List.drop_succ_cons, mkParts_nil, mkParts_cons, mkO_1, mkO_2, mk_agg2, mk_agg3, src_sl, mmO_min, mmO_max, XW_some, XV_some, ln_nil, ln_sl, ln_own, ln_str, cvO_eq, pkO_t, pkO_f, exO_eq, evalO_t, evalO_c, putD_some, putD_none, slot_len, slot_eq, slot_ne, ne_eq, Nat.reduceLT, Nat.reduceEqDiff, not_false_eq_true, not_true_eq_false, reduceCtorEq, XO_nil, RQ_0, RQ_0n, RQ_1, RQ_2, RQ_3, K_norm, K_exit, K_goto, K_ret, K_pan, B_norm, B_exit, B_goto, B_ret, B_pan, S_norm, S_exit, S_ret, S_pan, X_cnd, XB_true, XB_false, bin_add, bin_sub, bin_mul, bin_and, bin_or, bin_shr, bin_shl, bin_quo, bin_rem, Int.reduceLT, Int.reduceEq, bin_eql, bin_neq, bin_lss, bin_leq, bin_gtr, bin_geq, bin_seql, bin_sneq, decide_true, decide_false, eq_self, if_true, if_false, List.getElem?_cons_zero, List.getElem?_cons_succ, hs, h1]
      · simp only [X_skip, X_seq, X_reg, X_block, X_scope, X_exit, X_goto, X_ret, X_label, XO_mv, XO_g, XG_tt, XG_tf, XG_ft, XG_ff, XO_bin, XO_cvI, XO_pick, XO_ext, XO_len, XO_mnmx, XD_mv, XD_g, XGD_tt, XGD_tf, XGD_ft, XGD_ff, XD_bin, XD_cvI, XD_pick, XD_ext, XD_len, XD_mnmx, XD_mksl, XD_iadL, XD_ld, XD_fad, XD_nil, XWD_some, XVD_same, XVD_k, XO_alloc, XO_st, XD_st, XO_box, XO_mkslo, XD_mkslo, XO_mrk, XD_mrk, mr_0, XO_build, st_0_2, st_0_3, st_l_2, st_l_3, ld_l_2, ld_l_3, ld_r_2, ld_r_3, ld_l_at, Nat.zero_add, bd_nil, bd_2, bd_3, XD_build, XO_fld, XD_fld, XO_cvBS, XD_cvBS, bs_sl, bs_nil, XO_cvSB, XD_cvSB, sb_txt, XO_slL, XD_slL, Option.map_some, Option.map_none, XO_mksl, XO_iadL, XO_ld, XO_fad, ld_rptr, fd_r, fd_p, fd_e, List.drop_zero, List.drop_succ_cons, mkParts_nil, mkParts_cons, mkO_1, mkO_2, mk_agg2, mk_agg3, src_sl, mmO_min, mmO_max, XW_some, XV_some, ln_nil, ln_sl, ln_own, ln_str, cvO_eq, pkO_t, pkO_f, exO_eq, evalO_t, evalO_c, putD_some, putD_none, slot_len, slot_eq, slot_ne, ne_eq, Nat.reduceLT, Nat.reduceEqDiff, not_false_eq_true, not_true_eq_false, reduceCtorEq, XO_nil, RQ_0, RQ_0n, RQ_1, RQ_2, RQ_3, K_norm, K_exit, K_goto, K_ret, K_pan, B_norm, B_exit, B_goto, B_ret, B_pan, S_norm, S_exit, S_ret, S_pan, X_cnd, XB_true, XB_false, bin_add, bin_sub, bin_mul, bin_and, bin_or, bin_shr, bin_shl, bin_quo, bin_rem, Int.reduceLT, Int.reduceEq, bin_eql, bin_neq, bin_lss, bin_leq, bin_gtr, bin_geq, bin_seql, bin_sneq, decide_true, decide_false, eq_self, if_true, if_false, List.getElem?_cons_zero, List.getElem?_cons_succ, hs, h2]
      · have : ¬ 127 < n := by omega
        simp only [numF, if_neg this]

def clamp (n : Int) : Nat := (max 0 (min n 9007199254740992)).toNat

theorem numF_le : ∀ k n, (numF k n).length ≤ k + 1
  | 0, _ => by simp [numF]
  | k + 1, n => by
    simp only [numF]
    split
    · simp only [List.length_cons]
      have := numF_le k (n / 128)
      omega
    · simp

theorem num_f57 (n : Int) (h : Heap) : ∃ v h', call F 57 [vi .i64 n] h = some (.ret v, h') ∧ Buf h 1 (eB (num (clamp n))) v h' := by
  refine call_E (fn := f57) rfl ?_
  simp only [f57, List.length_cons, List.length_nil, List.cons_append, List.nil_append]
  generalize hs0 : (vi .i64 n :: List.replicate (22 - (0 + 1)) VV.undef) = s
  have hs : s.length = 22 := by rw [← hs0]; rfl
  have h0 : s.getD 0 .undef = vi .i64 n := by rw [← hs0]; rfl
  clear hs0
  simp only [X_skip, X_seq, X_reg, X_block, X_scope, X_exit, X_goto, X_ret, X_label, XO_mv, XO_g, XG_tt, XG_tf, XG_ft, XG_ff, XO_bin, XO_cvI, XO_pick, XO_ext, XO_len, XO_mnmx, XD_mv, XD_g, XGD_tt, XGD_tf, XGD_ft, XGD_ff, XD_bin, XD_cvI, XD_pick, XD_ext, XD_len, XD_mnmx, XD_mksl, XD_iadL, XD_ld, XD_fad, XD_nil, XWD_some, XVD_same, XVD_k, XO_alloc, XO_st, XD_st, XO_box, XO_mkslo, XD_mkslo, XO_mrk, XD_mrk, mr_0, XO_build, st_0_2, st_0_3, st_l_2, st_l_3, ld_l_2, ld_l_3, ld_r_2, ld_r_3, ld_l_at, Nat.zero_add, bd_nil, bd_2, bd_3, XD_build, XO_fld, XD_fld, XO_cvBS, XD_cvBS, bs_sl, bs_nil, XO_cvSB, XD_cvSB, sb_txt, XO_slL, XD_slL, Option.map_some, Option.map_none, XO_mksl, XO_iadL, XO_ld, XO_fad, ld_rptr, fd_r, fd_p, fd_e, List.drop_zero, List.drop_succ_cons, mkParts_nil, mkParts_cons, mkO_1, mkO_2, mk_agg2, mk_agg3, src_sl, mmO_min, mmO_max, XW_some, XV_some, ln_nil, ln_sl, ln_own, ln_str, cvO_eq, pkO_t, pkO_f, exO_eq, evalO_t, evalO_c, putD_some, putD_none, slot_len, slot_eq, slot_ne, ne_eq, Nat.reduceLT, Nat.reduceEqDiff, not_false_eq_true, not_true_eq_false, reduceCtorEq, XO_nil, RQ_0, RQ_0n, RQ_1, RQ_2, RQ_3, K_norm, K_exit, K_goto, K_ret, K_pan, B_norm, B_exit, B_goto, B_ret, B_pan, S_norm, S_exit, S_ret, S_pan, X_cnd, XB_true, XB_false, bin_add, bin_sub, bin_mul, bin_and, bin_or, bin_shr, bin_shl, bin_quo, bin_rem, Int.reduceLT, Int.reduceEq, bin_eql, bin_neq, bin_lss, bin_leq, bin_gtr, bin_geq, bin_seql, bin_sneq, decide_true, decide_false, eq_self, if_true, if_false, List.getElem?_cons_zero, List.getElem?_cons_succ, hs, h0]
  have ec : max 0 (min n 9007199254740992) = ((clamp n : Nat) : Int) := by unfold clamp; omega
  have hc : clamp n ≤ 9007199254740992 := by unfold clamp; omega
  refine f57_loop 8 (clamp n) [] h _ h nilS _ ?_ ?_ ?_ ?_ ?_ ?_ (Buf.nil _ _) ?_
  · have : (128 : Nat) ^ (8 + 1) = 9223372036854775808 := by decide
    omega
  · omega
  · decide
  · simp only [X_skip, X_seq, X_reg, X_block, X_scope, X_exit, X_goto, X_ret, X_label, XO_mv, XO_g, XG_tt, XG_tf, XG_ft, XG_ff, XO_bin, XO_cvI, XO_pick, XO_ext, XO_len, XO_mnmx, XD_mv, XD_g, XGD_tt, XGD_tf, XGD_ft, XGD_ff, XD_bin, XD_cvI, XD_pick, XD_ext, XD_len, XD_mnmx, XD_mksl, XD_iadL, XD_ld, XD_fad, XD_nil, XWD_some, XVD_same, XVD_k, XO_alloc, XO_st, XD_st, XO_box, XO_mkslo, XD_mkslo, XO_mrk, XD_mrk, mr_0, XO_build, st_0_2, st_0_3, st_l_2, st_l_3, ld_l_2, ld_l_3, ld_r_2, ld_r_3, ld_l_at, Nat.zero_add, bd_nil, bd_2, bd_3, XD_build, XO_fld, XD_fld, XO_cvBS, XD_cvBS, bs_sl, bs_nil, XO_cvSB, XD_cvSB, sb_txt, XO_slL, XD_slL, Option.map_some, Option.map_none, XO_mksl, XO_iadL, XO_ld, XO_fad, ld_rptr, fd_r, fd_p, fd_e, List.drop_zero, List.drop_succ_cons, mkParts_nil, mkParts_cons, mkO_1, mkO_2, mk_agg2, mk_agg3, src_sl, mmO_min, mmO_max, XW_some, XV_some, ln_nil, ln_sl, ln_own, ln_str, cvO_eq, pkO_t, pkO_f, exO_eq, evalO_t, evalO_c, putD_some, putD_none, slot_len, slot_eq, slot_ne, ne_eq, Nat.reduceLT, Nat.reduceEqDiff, not_false_eq_true, not_true_eq_false, reduceCtorEq, XO_nil, RQ_0, RQ_0n, RQ_1, RQ_2, RQ_3, K_norm, K_exit, K_goto, K_ret, K_pan, B_norm, B_exit, B_goto, B_ret, B_pan, S_norm, S_exit, S_ret, S_pan, X_cnd, XB_true, XB_false, bin_add, bin_sub, bin_mul, bin_and, bin_or, bin_shr, bin_shl, bin_quo, bin_rem, Int.reduceLT, Int.reduceEq, bin_eql, bin_neq, bin_lss, bin_leq, bin_gtr, bin_geq, bin_seql, bin_sneq, decide_true, decide_false, eq_self, if_true, if_false, List.getElem?_cons_zero, List.getElem?_cons_succ, hs]
  · simp only [X_skip, X_seq, X_reg, X_block, X_scope, X_exit, X_goto, X_ret, X_label, XO_mv, XO_g, XG_tt, XG_tf, XG_ft, XG_ff, XO_bin, XO_cvI, XO_pick, XO_ext, XO_len, XO_mnmx, XD_mv, XD_g, XGD_tt, XGD_tf, XGD_ft, XGD_ff, XD_bin, XD_cvI, XD_pick, XD_ext, XD_len, XD_mnmx, XD_mksl, XD_iadL, XD_ld, XD_fad, XD_nil, XWD_some, XVD_same, XVD_k, XO_alloc, XO_st, XD_st, XO_box, XO_mkslo, XD_mkslo, XO_mrk, XD_mrk, mr_0, XO_build, st_0_2, st_0_3, st_l_2, st_l_3, ld_l_2, ld_l_3, ld_r_2, ld_r_3, ld_l_at, Nat.zero_add, bd_nil, bd_2, bd_3, XD_build, XO_fld, XD_fld, XO_cvBS, XD_cvBS, bs_sl, bs_nil, XO_cvSB, XD_cvSB, sb_txt, XO_slL, XD_slL, Option.map_some, Option.map_none, XO_mksl, XO_iadL, XO_ld, XO_fad, ld_rptr, fd_r, fd_p, fd_e, List.drop_zero, List.drop_succ_cons, mkParts_nil, mkParts_cons, mkO_1, mkO_2, mk_agg2, mk_agg3, src_sl, mmO_min, mmO_max, XW_some, XV_some, ln_nil, ln_sl, ln_own, ln_str, cvO_eq, pkO_t, pkO_f, exO_eq, evalO_t, evalO_c, putD_some, putD_none, slot_len, slot_eq, slot_ne, ne_eq, Nat.reduceLT, Nat.reduceEqDiff, not_false_eq_true, not_true_eq_false, reduceCtorEq, XO_nil, RQ_0, RQ_0n, RQ_1, RQ_2, RQ_3, K_norm, K_exit, K_goto, K_ret, K_pan, B_norm, B_exit, B_goto, B_ret, B_pan, S_norm, S_exit, S_ret, S_pan, X_cnd, XB_true, XB_false, bin_add, bin_sub, bin_mul, bin_and, bin_or, bin_shr, bin_shl, bin_quo, bin_rem, Int.reduceLT, Int.reduceEq, bin_eql, bin_neq, bin_lss, bin_leq, bin_gtr, bin_geq, bin_seql, bin_sneq, decide_true, decide_false, eq_self, if_true, if_false, List.getElem?_cons_zero, List.getElem?_cons_succ, hs, ec]
  · simp only [X_skip, X_seq, X_reg, X_block, X_scope, X_exit, X_goto, X_ret, X_label, XO_mv, XO_g, XG_tt, XG_tf, XG_ft, XG_ff, XO_bin, XO_cvI, XO_pick, XO_ext, XO_len, XO_mnmx, XD_mv, XD_g, XGD_tt, XGD_tf, XGD_ft, XGD_ff, XD_bin, XD_cvI, XD_pick, XD_ext, XD_len, XD_mnmx, XD_mksl, XD_iadL, XD_ld, XD_fad, XD_nil, XWD_some, XVD_same, XVD_k, XO_alloc, XO_st, XD_st, XO_box, XO_mkslo, XD_mkslo, XO_mrk, XD_mrk, mr_0, XO_build, st_0_2, st_0_3, st_l_2, st_l_3, ld_l_2, ld_l_3, ld_r_2, ld_r_3, ld_l_at, Nat.zero_add, bd_nil, bd_2, bd_3, XD_build, XO_fld, XD_fld, XO_cvBS, XD_cvBS, bs_sl, bs_nil, XO_cvSB, XD_cvSB, sb_txt, XO_slL, XD_slL, Option.map_some, Option.map_none, XO_mksl, XO_iadL, XO_ld, XO_fad, ld_rptr, fd_r, fd_p, fd_e, List.drop_zero, List.drop_succ_cons, mkParts_nil, mkParts_cons, mkO_1, mkO_2, mk_agg2, mk_agg3, src_sl, mmO_min, mmO_max, XW_some, XV_some, ln_nil, ln_sl, ln_own, ln_str, cvO_eq, pkO_t, pkO_f, exO_eq, evalO_t, evalO_c, putD_some, putD_none, slot_len, slot_eq, slot_ne, ne_eq, Nat.reduceLT, Nat.reduceEqDiff, not_false_eq_true, not_true_eq_false, reduceCtorEq, XO_nil, RQ_0, RQ_0n, RQ_1, RQ_2, RQ_3, K_norm, K_exit, K_goto, K_ret, K_pan, B_norm, B_exit, B_goto, B_ret, B_pan, S_norm, S_exit, S_ret, S_pan, X_cnd, XB_true, XB_false, bin_add, bin_sub, bin_mul, bin_and, bin_or, bin_shr, bin_shl, bin_quo, bin_rem, Int.reduceLT, Int.reduceEq, bin_eql, bin_neq, bin_lss, bin_leq, bin_gtr, bin_geq, bin_seql, bin_sneq, decide_true, decide_false, eq_self, if_true, if_false, List.getElem?_cons_zero, List.getElem?_cons_succ, hs]
  · intro n' out' s' h' v' a1 a2 a3 a4 a5 a6
    simp only [X_skip, X_seq, X_reg, X_block, X_scope, X_exit, X_goto, X_ret, X_label, XO_mv, XO_g, XG_tt, XG_tf, XG_ft, XG_ff, XO_bin, XO_cvI, XO_pick, XO_ext, XO_len, XO_mnmx, XD_mv, XD_g, XGD_tt, XGD_tf, XGD_ft, XGD_ff, XD_bin, XD_cvI, XD_pick, XD_ext, XD_len, XD_mnmx, XD_mksl, XD_iadL, XD_ld, XD_fad, XD_nil, XWD_some, XVD_same, XVD_k, XO_alloc, XO_st, XD_st, XO_box, XO_mkslo, XD_mkslo, XO_mrk, XD_mrk, mr_0, XO_build, st_0_2, st_0_3, st_l_2, st_l_3, ld_l_2, ld_l_3, ld_r_2, ld_r_3, ld_l_at, Nat.zero_add, bd_nil, bd_2, bd_3, XD_build, XO_fld, XD_fld, XO_cvBS, XD_cvBS, bs_sl, bs_nil, XO_cvSB, XD_cvSB, sb_txt, XO_slL, XD_slL, Option.map_some, Option.map_none, XO_mksl, XO_iadL, XO_ld, XO_fad, ld_rptr, fd_r, fd_p, fd_e, List.drop_zero, List.drop_succ_cons, mkParts_nil, mkParts_cons, mkO_1, mkO_2, mk_agg2, mk_agg3, src_sl, mmO_min, mmO_max, XW_some, XV_some, ln_nil, ln_sl, ln_own, ln_str, cvO_eq, pkO_t, pkO_f, exO_eq, evalO_t, evalO_c, putD_some, putD_none, slot_len, slot_eq, slot_ne, ne_eq, Nat.reduceLT, Nat.reduceEqDiff, not_false_eq_true, not_true_eq_false, reduceCtorEq, XO_nil, RQ_0, RQ_0n, RQ_1, RQ_2, RQ_3, K_norm, K_exit, K_goto, K_ret, K_pan, B_norm, B_exit, B_goto, B_ret, B_pan, S_norm, S_exit, S_ret, S_pan, X_cnd, XB_true, XB_false, bin_add, bin_sub, bin_mul, bin_and, bin_or, bin_shr, bin_shl, bin_quo, bin_rem, Int.reduceLT, Int.reduceEq, bin_eql, bin_neq, bin_lss, bin_leq, bin_gtr, bin_geq, bin_seql, bin_sneq, decide_true, decide_false, eq_self, if_true, if_false, List.getElem?_cons_zero, List.getElem?_cons_succ, a1, a2, a4]
    have e1 : IntKind.u8.wrap (n' : Int) = n' := IntWalk.u8_in _ (by omega)
    rw [e1]
    have hl : (out' ++ [u8 n']).length ≤ 20 := by rw [a6]; simp only [List.nil_append]; have := numF_le 8 (clamp n); omega
    simp at hl
    refine XO_app (new := eB [u8 n']) a5 (by simp only [X_skip, X_seq, X_reg, X_block, X_scope, X_exit, X_goto, X_ret, X_label, XO_mv, XO_g, XG_tt, XG_tf, XG_ft, XG_ff, XO_bin, XO_cvI, XO_pick, XO_ext, XO_len, XO_mnmx, XD_mv, XD_g, XGD_tt, XGD_tf, XGD_ft, XGD_ff, XD_bin, XD_cvI, XD_pick, XD_ext, XD_len, XD_mnmx, XD_mksl, XD_iadL, XD_ld, XD_fad, XD_nil, XWD_some, XVD_same, XVD_k, XO_alloc, XO_st, XD_st, XO_box, XO_mkslo, XD_mkslo, XO_mrk, XD_mrk, mr_0, XO_build, st_0_2, st_0_3, st_l_2, st_l_3, ld_l_2, ld_l_3, ld_r_2, ld_r_3, ld_l_at, Nat.zero_add, bd_nil, bd_2, bd_3, XD_build, XO_fld, XD_fld, XO_cvBS, XD_cvBS, bs_sl, bs_nil, XO_cvSB, XD_cvSB, sb_txt, XO_slL, XD_slL, Option.map_some, Option.map_none, XO_mksl, XO_iadL, XO_ld, XO_fad, ld_rptr, fd_r, fd_p, fd_e, List.drop_zero, List.drop_succ_cons, mkParts_nil, mkParts_cons, mkO_1, mkO_2, mk_agg2, mk_agg3, src_sl, mmO_min, mmO_max, XW_some, XV_some, ln_nil, ln_sl, ln_own, ln_str, cvO_eq, pkO_t, pkO_f, exO_eq, evalO_t, evalO_c, putD_some, putD_none, slot_len, slot_eq, slot_ne, ne_eq, Nat.reduceLT, Nat.reduceEqDiff, not_false_eq_true, not_true_eq_false, reduceCtorEq, XO_nil, RQ_0, RQ_0n, RQ_1, RQ_2, RQ_3, K_norm, K_exit, K_goto, K_ret, K_pan, B_norm, B_exit, B_goto, B_ret, B_pan, S_norm, S_exit, S_ret, S_pan, X_cnd, XB_true, XB_false, bin_add, bin_sub, bin_mul, bin_and, bin_or, bin_shr, bin_shl, bin_quo, bin_rem, Int.reduceLT, Int.reduceEq, bin_eql, bin_neq, bin_lss, bin_leq, bin_gtr, bin_geq, bin_seql, bin_sneq, decide_true, decide_false, eq_self, if_true, if_false, List.getElem?_cons_zero, List.getElem?_cons_succ, a1]) ?_ ?_ ?_ (fun v' h' hb' => ?_)
    · simp only [X_skip, X_seq, X_reg, X_block, X_scope, X_exit, X_goto, X_ret, X_label, XO_mv, XO_g, XG_tt, XG_tf, XG_ft, XG_ff, XO_bin, XO_cvI, XO_pick, XO_ext, XO_len, XO_mnmx, XD_mv, XD_g, XGD_tt, XGD_tf, XGD_ft, XGD_ff, XD_bin, XD_cvI, XD_pick, XD_ext, XD_len, XD_mnmx, XD_mksl, XD_iadL, XD_ld, XD_fad, XD_nil, XWD_some, XVD_same, XVD_k, XO_alloc, XO_st, XD_st, XO_box, XO_mkslo, XD_mkslo, XO_mrk, XD_mrk, mr_0, XO_build, st_0_2, st_0_3, st_l_2, st_l_3, ld_l_2, ld_l_3, ld_r_2, ld_r_3, ld_l_at, Nat.zero_add, bd_nil, bd_2, bd_3, XD_build, XO_fld, XD_fld, XO_cvBS, XD_cvBS, bs_sl, bs_nil, XO_cvSB, XD_cvSB, sb_txt, XO_slL, XD_slL, Option.map_some, Option.map_none, XO_mksl, XO_iadL, XO_ld, XO_fad, ld_rptr, fd_r, fd_p, fd_e, List.drop_zero, List.drop_succ_cons, mkParts_nil, mkParts_cons, mkO_1, mkO_2, mk_agg2, mk_agg3, src_sl, mmO_min, mmO_max, XW_some, XV_some, ln_nil, ln_sl, ln_own, ln_str, cvO_eq, pkO_t, pkO_f, exO_eq, evalO_t, evalO_c, putD_some, putD_none, slot_len, slot_eq, slot_ne, ne_eq, Nat.reduceLT, Nat.reduceEqDiff, not_false_eq_true, not_true_eq_false, reduceCtorEq, XO_nil, RQ_0, RQ_0n, RQ_1, RQ_2, RQ_3, K_norm, K_exit, K_goto, K_ret, K_pan, B_norm, B_exit, B_goto, B_ret, B_pan, S_norm, S_exit, S_ret, S_pan, X_cnd, XB_true, XB_false, bin_add, bin_sub, bin_mul, bin_and, bin_or, bin_shr, bin_shl, bin_quo, bin_rem, Int.reduceLT, Int.reduceEq, bin_eql, bin_neq, bin_lss, bin_leq, bin_gtr, bin_geq, bin_seql, bin_sneq, decide_true, decide_false, eq_self, if_true, if_false, List.getElem?_cons_zero, List.getElem?_cons_succ, a1]
      rw [eB_u8 _ (by omega)]
    · simp [eB]; omega
    · simp [eB]; omega
    · simp only [X_skip, X_seq, X_reg, X_block, X_scope, X_exit, X_goto, X_ret, X_label, XO_mv, XO_g, XG_tt, XG_tf, XG_ft, XG_ff, XO_bin, XO_cvI, XO_pick, XO_ext, XO_len, XO_mnmx, XD_mv, XD_g, XGD_tt, XGD_tf, XGD_ft, XGD_ff, XD_bin, XD_cvI, XD_pick, XD_ext, XD_len, XD_mnmx, XD_mksl, XD_iadL, XD_ld, XD_fad, XD_nil, XWD_some, XVD_same, XVD_k, XO_alloc, XO_st, XD_st, XO_box, XO_mkslo, XD_mkslo, XO_mrk, XD_mrk, mr_0, XO_build, st_0_2, st_0_3, st_l_2, st_l_3, ld_l_2, ld_l_3, ld_r_2, ld_r_3, ld_l_at, Nat.zero_add, bd_nil, bd_2, bd_3, XD_build, XO_fld, XD_fld, XO_cvBS, XD_cvBS, bs_sl, bs_nil, XO_cvSB, XD_cvSB, sb_txt, XO_slL, XD_slL, Option.map_some, Option.map_none, XO_mksl, XO_iadL, XO_ld, XO_fad, ld_rptr, fd_r, fd_p, fd_e, List.drop_zero, List.drop_succ_cons, mkParts_nil, mkParts_cons, mkO_1, mkO_2, mk_agg2, mk_agg3, src_sl, mmO_min, mmO_max, XW_some, XV_some, ln_nil, ln_sl, ln_own, ln_str, cvO_eq, pkO_t, pkO_f, exO_eq, evalO_t, evalO_c, putD_some, putD_none, slot_len, slot_eq, slot_ne, ne_eq, Nat.reduceLT, Nat.reduceEqDiff, not_false_eq_true, not_true_eq_false, reduceCtorEq, XO_nil, RQ_0, RQ_0n, RQ_1, RQ_2, RQ_3, K_norm, K_exit, K_goto, K_ret, K_pan, B_norm, B_exit, B_goto, B_ret, B_pan, S_norm, S_exit, S_ret, S_pan, X_cnd, XB_true, XB_false, bin_add, bin_sub, bin_mul, bin_and, bin_or, bin_shr, bin_shl, bin_quo, bin_rem, Int.reduceLT, Int.reduceEq, bin_eql, bin_neq, bin_lss, bin_leq, bin_gtr, bin_geq, bin_seql, bin_sneq, decide_true, decide_false, eq_self, if_true, if_false, List.getElem?_cons_zero, List.getElem?_cons_succ, a1]
      rw [← eB_append, a6] at hb'
      exact hb'

def text (l : List UInt8) : List UInt8 := num (clamp l.length) ++ l

theorem text_f58 (l : List UInt8) (h : Heap) (hl : l.length ≤ 1000000000) : ∃ v h', call F 58 [txt l] h = some (.ret v, h') ∧ Buf h 1 (eB (text l)) v h' := by
  refine call_E (fn := f58) rfl ?_
  simp only [f58]
  generalize hs0 : ([txt l] ++ List.replicate _ VV.undef : List VV) = s
  have hs : s.length = 8 := by rw [← hs0]; rfl
  have h0 : s.getD 0 .undef = txt l := by rw [← hs0]; rfl
  clear hs0
  simp only [X_skip, X_seq, X_reg, X_block, X_scope, X_exit, X_goto, X_ret, X_label, XO_mv, XO_g, XG_tt, XG_tf, XG_ft, XG_ff, XO_bin, XO_cvI, XO_pick, XO_ext, XO_len, XO_mnmx, XD_mv, XD_g, XGD_tt, XGD_tf, XGD_ft, XGD_ff, XD_bin, XD_cvI, XD_pick, XD_ext, XD_len, XD_mnmx, XD_mksl, XD_iadL, XD_ld, XD_fad, XD_nil, XWD_some, XVD_same, XVD_k, XO_alloc, XO_st, XD_st, XO_box, XO_mkslo, XD_mkslo, XO_mrk, XD_mrk, mr_0, XO_build, st_0_2, st_0_3, st_l_2, st_l_3, ld_l_2, ld_l_3, ld_r_2, ld_r_3, ld_l_at, Nat.zero_add, bd_nil, bd_2, bd_3, XD_build, XO_fld, XD_fld, XO_cvBS, XD_cvBS, bs_sl, bs_nil, XO_cvSB, XD_cvSB, sb_txt, XO_slL, XD_slL, Option.map_some, Option.map_none, XO_mksl, XO_iadL, XO_ld, XO_fad, ld_rptr, fd_r, fd_p, fd_e, List.drop_zero, List.drop_succ_cons, mkParts_nil, mkParts_cons, mkO_1, mkO_2, mk_agg2, mk_agg3, src_sl, mmO_min, mmO_max, XW_some, XV_some, ln_nil, ln_sl, ln_own, ln_str, cvO_eq, pkO_t, pkO_f, exO_eq, evalO_t, evalO_c, putD_some, putD_none, slot_len, slot_eq, slot_ne, ne_eq, Nat.reduceLT, Nat.reduceEqDiff, not_false_eq_true, not_true_eq_false, reduceCtorEq, XO_nil, RQ_0, RQ_0n, RQ_1, RQ_2, RQ_3, K_norm, K_exit, K_goto, K_ret, K_pan, B_norm, B_exit, B_goto, B_ret, B_pan, S_norm, S_exit, S_ret, S_pan, X_cnd, XB_true, XB_false, bin_add, bin_sub, bin_mul, bin_and, bin_or, bin_shr, bin_shl, bin_quo, bin_rem, Int.reduceLT, Int.reduceEq, bin_eql, bin_neq, bin_lss, bin_leq, bin_gtr, bin_geq, bin_seql, bin_sneq, decide_true, decide_false, eq_self, if_true, if_false, List.getElem?_cons_zero, List.getElem?_cons_succ, hs, h0]
  obtain ⟨v, h', hc, hb⟩ := num_f57 l.length h
  refine XO_callR (v := v) (h' := h') (by simp only [List.map, X_skip, X_seq, X_reg, X_block, X_scope, X_exit, X_goto, X_ret, X_label, XO_mv, XO_g, XG_tt, XG_tf, XG_ft, XG_ff, XO_bin, XO_cvI, XO_pick, XO_ext, XO_len, XO_mnmx, XD_mv, XD_g, XGD_tt, XGD_tf, XGD_ft, XGD_ff, XD_bin, XD_cvI, XD_pick, XD_ext, XD_len, XD_mnmx, XD_mksl, XD_iadL, XD_ld, XD_fad, XD_nil, XWD_some, XVD_same, XVD_k, XO_alloc, XO_st, XD_st, XO_box, XO_mkslo, XD_mkslo, XO_mrk, XD_mrk, mr_0, XO_build, st_0_2, st_0_3, st_l_2, st_l_3, ld_l_2, ld_l_3, ld_r_2, ld_r_3, ld_l_at, Nat.zero_add, bd_nil, bd_2, bd_3, XD_build, XO_fld, XD_fld, XO_cvBS, XD_cvBS, bs_sl, bs_nil, XO_cvSB, XD_cvSB, sb_txt, XO_slL, XD_slL, Option.map_some, Option.map_none, XO_mksl, XO_iadL, XO_ld, XO_fad, ld_rptr, fd_r, fd_p, fd_e, List.drop_zero, List.drop_succ_cons, mkParts_nil, mkParts_cons, mkO_1, mkO_2, mk_agg2, mk_agg3, src_sl, mmO_min, mmO_max, XW_some, XV_some, ln_nil, ln_sl, ln_own, ln_str, cvO_eq, pkO_t, pkO_f, exO_eq, evalO_t, evalO_c, putD_some, putD_none, slot_len, slot_eq, slot_ne, ne_eq, Nat.reduceLT, Nat.reduceEqDiff, not_false_eq_true, not_true_eq_false, reduceCtorEq, XO_nil, RQ_0, RQ_0n, RQ_1, RQ_2, RQ_3, K_norm, K_exit, K_goto, K_ret, K_pan, B_norm, B_exit, B_goto, B_ret, B_pan, S_norm, S_exit, S_ret, S_pan, X_cnd, XB_true, XB_false, bin_add, bin_sub, bin_mul, bin_and, bin_or, bin_shr, bin_shl, bin_quo, bin_rem, Int.reduceLT, Int.reduceEq, bin_eql, bin_neq, bin_lss, bin_leq, bin_gtr, bin_geq, bin_seql, bin_sneq, decide_true, decide_false, eq_self, if_true, if_false, List.getElem?_cons_zero, List.getElem?_cons_succ, hs]; exact hc) ?_
  simp only [X_skip, X_seq, X_reg, X_block, X_scope, X_exit, X_goto, X_ret, X_label, XO_mv, XO_g, XG_tt, XG_tf, XG_ft, XG_ff, XO_bin, XO_cvI, XO_pick, XO_ext, XO_len, XO_mnmx, XD_mv, XD_g, XGD_tt, XGD_tf, XGD_ft, XGD_ff, XD_bin, XD_cvI, XD_pick, XD_ext, XD_len, XD_mnmx, XD_mksl, XD_iadL, XD_ld, XD_fad, XD_nil, XWD_some, XVD_same, XVD_k, XO_alloc, XO_st, XD_st, XO_box, XO_mkslo, XD_mkslo, XO_mrk, XD_mrk, mr_0, XO_build, st_0_2, st_0_3, st_l_2, st_l_3, ld_l_2, ld_l_3, ld_r_2, ld_r_3, ld_l_at, Nat.zero_add, bd_nil, bd_2, bd_3, XD_build, XO_fld, XD_fld, XO_cvBS, XD_cvBS, bs_sl, bs_nil, XO_cvSB, XD_cvSB, sb_txt, XO_slL, XD_slL, Option.map_some, Option.map_none, XO_mksl, XO_iadL, XO_ld, XO_fad, ld_rptr, fd_r, fd_p, fd_e, List.drop_zero, List.drop_succ_cons, mkParts_nil, mkParts_cons, mkO_1, mkO_2, mk_agg2, mk_agg3, src_sl, mmO_min, mmO_max, XW_some, XV_some, ln_nil, ln_sl, ln_own, ln_str, cvO_eq, pkO_t, pkO_f, exO_eq, evalO_t, evalO_c, putD_some, putD_none, slot_len, slot_eq, slot_ne, ne_eq, Nat.reduceLT, Nat.reduceEqDiff, not_false_eq_true, not_true_eq_false, reduceCtorEq, XO_nil, RQ_0, RQ_0n, RQ_1, RQ_2, RQ_3, K_norm, K_exit, K_goto, K_ret, K_pan, B_norm, B_exit, B_goto, B_ret, B_pan, S_norm, S_exit, S_ret, S_pan, X_cnd, XB_true, XB_false, bin_add, bin_sub, bin_mul, bin_and, bin_or, bin_shr, bin_shl, bin_quo, bin_rem, Int.reduceLT, Int.reduceEq, bin_eql, bin_neq, bin_lss, bin_leq, bin_gtr, bin_geq, bin_seql, bin_sneq, decide_true, decide_false, eq_self, if_true, if_false, List.getElem?_cons_zero, List.getElem?_cons_succ, hs, h0]
  have hn : (num (clamp l.length)).length ≤ 9 := numF_le 8 _
  refine XO_app hb (new := eB l) (by simp only [X_skip, X_seq, X_reg, X_block, X_scope, X_exit, X_goto, X_ret, X_label, XO_mv, XO_g, XG_tt, XG_tf, XG_ft, XG_ff, XO_bin, XO_cvI, XO_pick, XO_ext, XO_len, XO_mnmx, XD_mv, XD_g, XGD_tt, XGD_tf, XGD_ft, XGD_ff, XD_bin, XD_cvI, XD_pick, XD_ext, XD_len, XD_mnmx, XD_mksl, XD_iadL, XD_ld, XD_fad, XD_nil, XWD_some, XVD_same, XVD_k, XO_alloc, XO_st, XD_st, XO_box, XO_mkslo, XD_mkslo, XO_mrk, XD_mrk, mr_0, XO_build, st_0_2, st_0_3, st_l_2, st_l_3, ld_l_2, ld_l_3, ld_r_2, ld_r_3, ld_l_at, Nat.zero_add, bd_nil, bd_2, bd_3, XD_build, XO_fld, XD_fld, XO_cvBS, XD_cvBS, bs_sl, bs_nil, XO_cvSB, XD_cvSB, sb_txt, XO_slL, XD_slL, Option.map_some, Option.map_none, XO_mksl, XO_iadL, XO_ld, XO_fad, ld_rptr, fd_r, fd_p, fd_e, List.drop_zero, List.drop_succ_cons, mkParts_nil, mkParts_cons, mkO_1, mkO_2, mk_agg2, mk_agg3, src_sl, mmO_min, mmO_max, XW_some, XV_some, ln_nil, ln_sl, ln_own, ln_str, cvO_eq, pkO_t, pkO_f, exO_eq, evalO_t, evalO_c, putD_some, putD_none, slot_len, slot_eq, slot_ne, ne_eq, Nat.reduceLT, Nat.reduceEqDiff, not_false_eq_true, not_true_eq_false, reduceCtorEq, XO_nil, RQ_0, RQ_0n, RQ_1, RQ_2, RQ_3, K_norm, K_exit, K_goto, K_ret, K_pan, B_norm, B_exit, B_goto, B_ret, B_pan, S_norm, S_exit, S_ret, S_pan, X_cnd, XB_true, XB_false, bin_add, bin_sub, bin_mul, bin_and, bin_or, bin_shr, bin_shl, bin_quo, bin_rem, Int.reduceLT, Int.reduceEq, bin_eql, bin_neq, bin_lss, bin_leq, bin_gtr, bin_geq, bin_seql, bin_sneq, decide_true, decide_false, eq_self, if_true, if_false, List.getElem?_cons_zero, List.getElem?_cons_succ, hs]) (by simp only [X_skip, X_seq, X_reg, X_block, X_scope, X_exit, X_goto, X_ret, X_label, XO_mv, XO_g, XG_tt, XG_tf, XG_ft, XG_ff, XO_bin, XO_cvI, XO_pick, XO_ext, XO_len, XO_mnmx, XD_mv, XD_g, XGD_tt, XGD_tf, XGD_ft, XGD_ff, XD_bin, XD_cvI, XD_pick, XD_ext, XD_len, XD_mnmx, XD_mksl, XD_iadL, XD_ld, XD_fad, XD_nil, XWD_some, XVD_same, XVD_k, XO_alloc, XO_st, XD_st, XO_box, XO_mkslo, XD_mkslo, XO_mrk, XD_mrk, mr_0, XO_build, st_0_2, st_0_3, st_l_2, st_l_3, ld_l_2, ld_l_3, ld_r_2, ld_r_3, ld_l_at, Nat.zero_add, bd_nil, bd_2, bd_3, XD_build, XO_fld, XD_fld, XO_cvBS, XD_cvBS, bs_sl, bs_nil, XO_cvSB, XD_cvSB, sb_txt, XO_slL, XD_slL, Option.map_some, Option.map_none, XO_mksl, XO_iadL, XO_ld, XO_fad, ld_rptr, fd_r, fd_p, fd_e, List.drop_zero, List.drop_succ_cons, mkParts_nil, mkParts_cons, mkO_1, mkO_2, mk_agg2, mk_agg3, src_sl, mmO_min, mmO_max, XW_some, XV_some, ln_nil, ln_sl, ln_own, ln_str, cvO_eq, pkO_t, pkO_f, exO_eq, evalO_t, evalO_c, putD_some, putD_none, slot_len, slot_eq, slot_ne, ne_eq, Nat.reduceLT, Nat.reduceEqDiff, not_false_eq_true, not_true_eq_false, reduceCtorEq, XO_nil, RQ_0, RQ_0n, RQ_1, RQ_2, RQ_3, K_norm, K_exit, K_goto, K_ret, K_pan, B_norm, B_exit, B_goto, B_ret, B_pan, S_norm, S_exit, S_ret, S_pan, X_cnd, XB_true, XB_false, bin_add, bin_sub, bin_mul, bin_and, bin_or, bin_shr, bin_shl, bin_quo, bin_rem, Int.reduceLT, Int.reduceEq, bin_eql, bin_neq, bin_lss, bin_leq, bin_gtr, bin_geq, bin_seql, bin_sneq, decide_true, decide_false, eq_self, if_true, if_false, List.getElem?_cons_zero, List.getElem?_cons_succ, hs]; exact src_txt) (by simp only [eB_len]; omega) (by simp only [eB_len]; omega) (fun v' h' hb' => ?_)
  simp only [X_skip, X_seq, X_reg, X_block, X_scope, X_exit, X_goto, X_ret, X_label, XO_mv, XO_g, XG_tt, XG_tf, XG_ft, XG_ff, XO_bin, XO_cvI, XO_pick, XO_ext, XO_len, XO_mnmx, XD_mv, XD_g, XGD_tt, XGD_tf, XGD_ft, XGD_ff, XD_bin, XD_cvI, XD_pick, XD_ext, XD_len, XD_mnmx, XD_mksl, XD_iadL, XD_ld, XD_fad, XD_nil, XWD_some, XVD_same, XVD_k, XO_alloc, XO_st, XD_st, XO_box, XO_mkslo, XD_mkslo, XO_mrk, XD_mrk, mr_0, XO_build, st_0_2, st_0_3, st_l_2, st_l_3, ld_l_2, ld_l_3, ld_r_2, ld_r_3, ld_l_at, Nat.zero_add, bd_nil, bd_2, bd_3, XD_build, XO_fld, XD_fld, XO_cvBS, XD_cvBS, bs_sl, bs_nil, XO_cvSB, XD_cvSB, sb_txt, XO_slL, XD_slL, Option.map_some, Option.map_none, XO_mksl, XO_iadL, XO_ld, XO_fad, ld_rptr, fd_r, fd_p, fd_e, List.drop_zero, List.drop_succ_cons, mkParts_nil, mkParts_cons, mkO_1, mkO_2, mk_agg2, mk_agg3, src_sl, mmO_min, mmO_max, XW_some, XV_some, ln_nil, ln_sl, ln_own, ln_str, cvO_eq, pkO_t, pkO_f, exO_eq, evalO_t, evalO_c, putD_some, putD_none, slot_len, slot_eq, slot_ne, ne_eq, Nat.reduceLT, Nat.reduceEqDiff, not_false_eq_true, not_true_eq_false, reduceCtorEq, XO_nil, RQ_0, RQ_0n, RQ_1, RQ_2, RQ_3, K_norm, K_exit, K_goto, K_ret, K_pan, B_norm, B_exit, B_goto, B_ret, B_pan, S_norm, S_exit, S_ret, S_pan, X_cnd, XB_true, XB_false, bin_add, bin_sub, bin_mul, bin_and, bin_or, bin_shr, bin_shl, bin_quo, bin_rem, Int.reduceLT, Int.reduceEq, bin_eql, bin_neq, bin_lss, bin_leq, bin_gtr, bin_geq, bin_seql, bin_sneq, decide_true, decide_false, eq_self, if_true, if_false, List.getElem?_cons_zero, List.getElem?_cons_succ, hs]
  rw [← eB_append] at hb'
  exact hb'

/-- A number, from its bytes. -/
def getN : Nat → List UInt8 → Nat → Nat → Nat → Nat × Nat × Nat
  | 0, _, _, _, _ => (0, 0, 11)
  | _ + 1, [], _, _, _ => (0, 0, 10)
  | k + 1, c :: r, at_, i, n =>
    let m := n + c.toNat % 128 * 128 ^ i
    if c.toNat < 128 then (if (c.toNat = 0 ∧ 0 < i) ∨ 9007199254740992 < m then (0, 0, 11) else (m, at_ + i + 1, 0)) else getN k r at_ (i + 1) m
def getNum (b : List UInt8) (at_ : Int) : Nat × Nat × Nat := if at_ < 0 ∨ (b.length : Int) < at_ then (0, 0, 10) else getN 8 (b.drop at_.toNat) at_.toNat 0 0

theorem u8_and128 (m : Nat) (h : m < 256) : bits .and .u8 (m : Int) 128 = if m < 128 then 0 else 128 := by
  have : ∀ m : Fin 256, bits .and .u8 ((m.val : Nat) : Int) 128 = if m.val < 128 then 0 else 128 := by decide +kernel
  exact this ⟨m, h⟩
theorem u8_and127' (m : Nat) (h : m < 256) : bits .and .u8 (m : Int) 127 = ((m % 128 : Nat) : Int) := by
  have : ∀ m : Fin 256, bits .and .u8 ((m.val : Nat) : Int) 127 = ((m.val % 128 : Nat) : Int) := by decide +kernel
  exact this ⟨m, h⟩

theorem pow_le (i : Nat) (h : i ≤ 7) : 128 ^ (i + 1) ≤ 72057594037927936 ∧ 0 < 128 ^ i := by
  have : ∀ i : Fin 8, 128 ^ (i.val + 1) ≤ 72057594037927936 ∧ 0 < 128 ^ i.val := by decide +kernel
  exact this ⟨i, by omega⟩
theorem shl_i64 (i c : Nat) (hi : i ≤ 7) (hc : c < 128) : IntKind.i64.wrap ((c : Int) * 2 ^ min (7 * (i : Int)).toNat IntKind.i64.bits) = ((c * 128 ^ i : Nat) : Int) := by
  have h1 : min (7 * (i : Int)).toNat IntKind.i64.bits = 7 * i := by
    have : IntKind.i64.bits = 64 := rfl
    omega
  have h2 : (2 : Int) ^ (7 * i) = ((128 ^ i : Nat) : Int) := by
    rw [Int.pow_mul]; simp
  rw [h1, h2, ← Int.natCast_mul]
  have h3 : c * 128 ^ i ≤ 127 * 128 ^ i := Nat.mul_le_mul_right _ (by omega)
  have h4 := (pow_le i hi).1
  rw [Nat.pow_succ] at h4
  exact IntWalk.i64_in _ (by omega)
theorem or_i64 (i n c : Nat) (hi : i ≤ 7) (hn : n < 128 ^ i) (hc : c < 128) : bits .or .i64 (n : Int) ((c * 128 ^ i : Nat) : Int) = ((n + c * 128 ^ i : Nat) : Int) := by
  have h3 : c * 128 ^ i ≤ 127 * 128 ^ i := Nat.mul_le_mul_right _ (by omega)
  have h4 := (pow_le i hi).1
  rw [Nat.pow_succ] at h4
  have h63 : (2 : Nat) ^ 63 = 9223372036854775808 := by decide
  rw [(bits_nat .i64 63 (by decide) (fun n a b => IntWalk.i64_in _ (by have : (2 : Int) ^ 63 = 9223372036854775808 := by decide
                                                                       omega)) n (c * 128 ^ i) (by omega) (by omega)).2]
  congr 1
  have h5 : 128 ^ i = 2 ^ (7 * i) := by rw [Nat.pow_mul]
  rw [h5] at hn ⊢
  rw [Nat.mul_comm c, Nat.or_comm, ← Nat.two_pow_add_eq_or_of_lt hn c]
  omega

/-- How the loop of GetNum ends. -/
def GN (x : Nat × Nat × Nat) (o : Out) (s : List VV) : Prop :=
  (x = (0, 0, 11) ∧ (o = .exit 0 ∨ o = .goto 1)) ∨ (x = (0, 0, 10) ∧ o = .goto 0) ∨
  (∃ m j, x = (m, j, 0) ∧ o = .ret ∧ s.getD 4 .undef = vi .i64 m ∧ s.getD 5 .undef = vi .i64 j ∧ s.getD 6 .undef = vi .u16 0)

theorem f76_loop (b : List UInt8) (v : VV) (hv : SlV 1 (eB b) v) (at_ : Nat) (h : Heap) (Q : Pst) (hat : at_ ≤ b.length) (hb : b.length ≤ 1000000000) : ∀ (k i n : Nat) (s : List VV), i + k = 8 → n < 128 ^ i → s.length = 60 →
    s.getD 0 .undef = v → s.getD 1 .undef = vi .i64 at_ → s.getD 7 .undef = vi .i64 n → s.getD 8 .undef = vi .i64 i → at_ + i ≤ b.length →
    (∀ o s', s'.length = 60 → GN (getN k (b.drop (at_ + i)) at_ i n) o s' → Q o ⟨s', h⟩) →
    X F (.loop f76_0) ⟨s, h⟩ Q := by
  intro k
  induction k with
  | zero =>
    intro i n s hi hn hs h0 h1 h7 h8 hai hQ
    have hlt : ¬ (i : Int) < 8 := by omega
    rw [X_loop, X_eq f76_0.eq_1]
    simp only [X_skip, X_seq, X_reg, X_block, X_scope, X_exit, X_goto, X_ret, X_label, XO_mv, XO_g, XG_tt, XG_tf, XG_ft, XG_ff, XO_bin, XO_cvI, XO_pick, XO_ext, XO_len, XO_mnmx, XD_mv, XD_g, XGD_tt, XGD_tf, XGD_ft, XGD_ff, XD_bin, XD_cvI, XD_pick, XD_ext, XD_len, XD_mnmx, XD_mksl, XD_iadL, XD_ld, XD_fad, XD_nil, XWD_some, XVD_same, XVD_k, XO_alloc, XO_st, XD_st, XO_box, XO_mkslo, XD_mkslo, XO_mrk, XD_mrk, mr_0, XO_build, st_0_2, st_0_3, st_l_2, st_l_3, ld_l_2, ld_l_3, ld_r_2, ld_r_3, ld_l_at, Nat.zero_add, bd_nil, bd_2, bd_3, XD_build, XO_fld, XD_fld, XO_cvBS, XD_cvBS, bs_sl, bs_nil, XO_cvSB, XD_cvSB, sb_txt, XO_slL, XD_slL, Option.map_some, Option.map_none, XO_mksl, XO_iadL, XO_ld, XO_fad, ld_rptr, fd_r, fd_p, fd_e, List.drop_zero, List.drop_succ_cons, mkParts_nil, mkParts_cons, mkO_1, mkO_2, mk_agg2, mk_agg3, src_sl, mmO_min, mmO_max, XW_some, XV_some, ln_nil, ln_sl, ln_own, ln_str, cvO_eq, pkO_t, pkO_f, exO_eq, evalO_t, evalO_c, putD_some, putD_none, slot_len, slot_eq, slot_ne, ne_eq, Nat.reduceLT, Nat.reduceEqDiff, not_false_eq_true, not_true_eq_false, reduceCtorEq, XO_nil, RQ_0, RQ_0n, RQ_1, RQ_2, RQ_3, K_norm, K_exit, K_goto, K_ret, K_pan, B_norm, B_exit, B_goto, B_ret, B_pan, S_norm, S_exit, S_ret, S_pan, X_cnd, XB_true, XB_false, bin_add, bin_sub, bin_mul, bin_and, bin_or, bin_shr, bin_shl, bin_quo, bin_rem, Int.reduceLT, Int.reduceEq, bin_eql, bin_neq, bin_lss, bin_leq, bin_gtr, bin_geq, bin_seql, bin_sneq, decide_true, decide_false, eq_self, if_true, if_false, List.getElem?_cons_zero, List.getElem?_cons_succ, hs, h8, hlt]
    refine hQ _ _ (by simp only [slot_len, hs]) (.inl ⟨?_, .inl rfl⟩)
    simp only [getN]
  | succ k ih =>
    intro i n s hi hn hs h0 h1 h7 h8 hai hQ
    have hlt : (i : Int) < 8 := by omega
    rw [X_loop, X_eq f76_0.eq_1]
    have ea : IntKind.i64.wrap ((at_ : Int) + (i : Int)) = ((at_ + i : Nat) : Int) := by rw [IntWalk.i64_in _ (by omega)]; omega
    simp only [X_skip, X_seq, X_reg, X_block, X_scope, X_exit, X_goto, X_ret, X_label, XO_mv, XO_g, XG_tt, XG_tf, XG_ft, XG_ff, XO_bin, XO_cvI, XO_pick, XO_ext, XO_len, XO_mnmx, XD_mv, XD_g, XGD_tt, XGD_tf, XGD_ft, XGD_ff, XD_bin, XD_cvI, XD_pick, XD_ext, XD_len, XD_mnmx, XD_mksl, XD_iadL, XD_ld, XD_fad, XD_nil, XWD_some, XVD_same, XVD_k, XO_alloc, XO_st, XD_st, XO_box, XO_mkslo, XD_mkslo, XO_mrk, XD_mrk, mr_0, XO_build, st_0_2, st_0_3, st_l_2, st_l_3, ld_l_2, ld_l_3, ld_r_2, ld_r_3, ld_l_at, Nat.zero_add, bd_nil, bd_2, bd_3, XD_build, XO_fld, XD_fld, XO_cvBS, XD_cvBS, bs_sl, bs_nil, XO_cvSB, XD_cvSB, sb_txt, XO_slL, XD_slL, Option.map_some, Option.map_none, XO_mksl, XO_iadL, XO_ld, XO_fad, ld_rptr, fd_r, fd_p, fd_e, List.drop_zero, List.drop_succ_cons, mkParts_nil, mkParts_cons, mkO_1, mkO_2, mk_agg2, mk_agg3, src_sl, mmO_min, mmO_max, XW_some, XV_some, ln_nil, ln_sl, ln_own, ln_str, cvO_eq, pkO_t, pkO_f, exO_eq, evalO_t, evalO_c, putD_some, putD_none, slot_len, slot_eq, slot_ne, ne_eq, Nat.reduceLT, Nat.reduceEqDiff, not_false_eq_true, not_true_eq_false, reduceCtorEq, XO_nil, RQ_0, RQ_0n, RQ_1, RQ_2, RQ_3, K_norm, K_exit, K_goto, K_ret, K_pan, B_norm, B_exit, B_goto, B_ret, B_pan, S_norm, S_exit, S_ret, S_pan, X_cnd, XB_true, XB_false, bin_add, bin_sub, bin_mul, bin_and, bin_or, bin_shr, bin_shl, bin_quo, bin_rem, Int.reduceLT, Int.reduceEq, bin_eql, bin_neq, bin_lss, bin_leq, bin_gtr, bin_geq, bin_seql, bin_sneq, decide_true, decide_false, eq_self, if_true, if_false, List.getElem?_cons_zero, List.getElem?_cons_succ, hs, h0, h1, h7, h8, hlt, ea, eB_len, hv.ln]
    refine XB_dec (fun hc => ?_) (fun hc => ?_)
    · simp only [X_skip, X_seq, X_reg, X_block, X_scope, X_exit, X_goto, X_ret, X_label, XO_mv, XO_g, XG_tt, XG_tf, XG_ft, XG_ff, XO_bin, XO_cvI, XO_pick, XO_ext, XO_len, XO_mnmx, XD_mv, XD_g, XGD_tt, XGD_tf, XGD_ft, XGD_ff, XD_bin, XD_cvI, XD_pick, XD_ext, XD_len, XD_mnmx, XD_mksl, XD_iadL, XD_ld, XD_fad, XD_nil, XWD_some, XVD_same, XVD_k, XO_alloc, XO_st, XD_st, XO_box, XO_mkslo, XD_mkslo, XO_mrk, XD_mrk, mr_0, XO_build, st_0_2, st_0_3, st_l_2, st_l_3, ld_l_2, ld_l_3, ld_r_2, ld_r_3, ld_l_at, Nat.zero_add, bd_nil, bd_2, bd_3, XD_build, XO_fld, XD_fld, XO_cvBS, XD_cvBS, bs_sl, bs_nil, XO_cvSB, XD_cvSB, sb_txt, XO_slL, XD_slL, Option.map_some, Option.map_none, XO_mksl, XO_iadL, XO_ld, XO_fad, ld_rptr, fd_r, fd_p, fd_e, List.drop_zero, List.drop_succ_cons, mkParts_nil, mkParts_cons, mkO_1, mkO_2, mk_agg2, mk_agg3, src_sl, mmO_min, mmO_max, XW_some, XV_some, ln_nil, ln_sl, ln_own, ln_str, cvO_eq, pkO_t, pkO_f, exO_eq, evalO_t, evalO_c, putD_some, putD_none, slot_len, slot_eq, slot_ne, ne_eq, Nat.reduceLT, Nat.reduceEqDiff, not_false_eq_true, not_true_eq_false, reduceCtorEq, XO_nil, RQ_0, RQ_0n, RQ_1, RQ_2, RQ_3, K_norm, K_exit, K_goto, K_ret, K_pan, B_norm, B_exit, B_goto, B_ret, B_pan, S_norm, S_exit, S_ret, S_pan, X_cnd, XB_true, XB_false, bin_add, bin_sub, bin_mul, bin_and, bin_or, bin_shr, bin_shl, bin_quo, bin_rem, Int.reduceLT, Int.reduceEq, bin_eql, bin_neq, bin_lss, bin_leq, bin_gtr, bin_geq, bin_seql, bin_sneq, decide_true, decide_false, eq_self, if_true, if_false, List.getElem?_cons_zero, List.getElem?_cons_succ]
      refine hQ _ _ (by simp only [slot_len, hs]) (.inr (.inl ⟨?_, rfl⟩))
      rw [List.drop_eq_nil_of_le (by omega)]
      simp only [getN]
    · have hlt2 : at_ + i < b.length := by omega
      obtain ⟨c, hget⟩ : ∃ c, b[at_ + i]? = some c := ⟨_, List.getElem?_eq_getElem hlt2⟩
      have hd : b.drop (at_ + i) = c :: b.drop (at_ + i + 1) := by
        rw [List.drop_eq_getElem_cons hlt2]
        rw [List.getElem?_eq_getElem hlt2] at hget
        cases hget; rfl
      have hc256 : c.toNat < 256 := c.toNat_lt
      simp only [X_skip, X_seq, X_reg, X_block, X_scope, X_exit, X_goto, X_ret, X_label, XO_mv, XO_g, XG_tt, XG_tf, XG_ft, XG_ff, XO_bin, XO_cvI, XO_pick, XO_ext, XO_len, XO_mnmx, XD_mv, XD_g, XGD_tt, XGD_tf, XGD_ft, XGD_ff, XD_bin, XD_cvI, XD_pick, XD_ext, XD_len, XD_mnmx, XD_mksl, XD_iadL, XD_ld, XD_fad, XD_nil, XWD_some, XVD_same, XVD_k, XO_alloc, XO_st, XD_st, XO_box, XO_mkslo, XD_mkslo, XO_mrk, XD_mrk, mr_0, XO_build, st_0_2, st_0_3, st_l_2, st_l_3, ld_l_2, ld_l_3, ld_r_2, ld_r_3, ld_l_at, Nat.zero_add, bd_nil, bd_2, bd_3, XD_build, XO_fld, XD_fld, XO_cvBS, XD_cvBS, bs_sl, bs_nil, XO_cvSB, XD_cvSB, sb_txt, XO_slL, XD_slL, Option.map_some, Option.map_none, XO_mksl, XO_iadL, XO_ld, XO_fad, ld_rptr, fd_r, fd_p, fd_e, List.drop_zero, List.drop_succ_cons, mkParts_nil, mkParts_cons, mkO_1, mkO_2, mk_agg2, mk_agg3, src_sl, mmO_min, mmO_max, XW_some, XV_some, ln_nil, ln_sl, ln_own, ln_str, cvO_eq, pkO_t, pkO_f, exO_eq, evalO_t, evalO_c, putD_some, putD_none, slot_len, slot_eq, slot_ne, ne_eq, Nat.reduceLT, Nat.reduceEqDiff, not_false_eq_true, not_true_eq_false, reduceCtorEq, XO_nil, RQ_0, RQ_0n, RQ_1, RQ_2, RQ_3, K_norm, K_exit, K_goto, K_ret, K_pan, B_norm, B_exit, B_goto, B_ret, B_pan, S_norm, S_exit, S_ret, S_pan, X_cnd, XB_true, XB_false, bin_add, bin_sub, bin_mul, bin_and, bin_or, bin_shr, bin_shl, bin_quo, bin_rem, Int.reduceLT, Int.reduceEq, bin_eql, bin_neq, bin_lss, bin_leq, bin_gtr, bin_geq, bin_seql, bin_sneq, decide_true, decide_false, eq_self, if_true, if_false, List.getElem?_cons_zero, List.getElem?_cons_succ, hs, h0, h1, h7, h8, ea]
      rw [hv.ia (e := byteCell c) (by omega) (by rw [show ((at_ + i : Nat) : Int).toNat = at_ + i from rfl]; exact eB_get hget)]
      simp only [X_skip, X_seq, X_reg, X_block, X_scope, X_exit, X_goto, X_ret, X_label, XO_mv, XO_g, XG_tt, XG_tf, XG_ft, XG_ff, XO_bin, XO_cvI, XO_pick, XO_ext, XO_len, XO_mnmx, XD_mv, XD_g, XGD_tt, XGD_tf, XGD_ft, XGD_ff, XD_bin, XD_cvI, XD_pick, XD_ext, XD_len, XD_mnmx, XD_mksl, XD_iadL, XD_ld, XD_fad, XD_nil, XWD_some, XVD_same, XVD_k, XO_alloc, XO_st, XD_st, XO_box, XO_mkslo, XD_mkslo, XO_mrk, XD_mrk, mr_0, XO_build, st_0_2, st_0_3, st_l_2, st_l_3, ld_l_2, ld_l_3, ld_r_2, ld_r_3, ld_l_at, Nat.zero_add, bd_nil, bd_2, bd_3, XD_build, XO_fld, XD_fld, XO_cvBS, XD_cvBS, bs_sl, bs_nil, XO_cvSB, XD_cvSB, sb_txt, XO_slL, XD_slL, Option.map_some, Option.map_none, XO_mksl, XO_iadL, XO_ld, XO_fad, ld_rptr, fd_r, fd_p, fd_e, List.drop_zero, List.drop_succ_cons, mkParts_nil, mkParts_cons, mkO_1, mkO_2, mk_agg2, mk_agg3, src_sl, mmO_min, mmO_max, XW_some, XV_some, ln_nil, ln_sl, ln_own, ln_str, cvO_eq, pkO_t, pkO_f, exO_eq, evalO_t, evalO_c, putD_some, putD_none, slot_len, slot_eq, slot_ne, ne_eq, Nat.reduceLT, Nat.reduceEqDiff, not_false_eq_true, not_true_eq_false, reduceCtorEq, XO_nil, RQ_0, RQ_0n, RQ_1, RQ_2, RQ_3, K_norm, K_exit, K_goto, K_ret, K_pan, B_norm, B_exit, B_goto, B_ret, B_pan, S_norm, S_exit, S_ret, S_pan, X_cnd, XB_true, XB_false, bin_add, bin_sub, bin_mul, bin_and, bin_or, bin_shr, bin_shl, bin_quo, bin_rem, Int.reduceLT, Int.reduceEq, bin_eql, bin_neq, bin_lss, bin_leq, bin_gtr, bin_geq, bin_seql, bin_sneq, decide_true, decide_false, eq_self, if_true, if_false, List.getElem?_cons_zero, List.getElem?_cons_succ, hs, h0, h1, h7, h8, byteCell, u8_and127' c.toNat hc256, u8_and128 c.toNat hc256]
      have e1 : IntKind.i64.wrap ((c.toNat % 128 : Nat) : Int) = ((c.toNat % 128 : Nat) : Int) := IntWalk.i64_in _ (by omega)
      have e2 : IntKind.i64.wrap (7 * (i : Int)) = 7 * (i : Int) := IntWalk.i64_in _ (by omega)
      have e3 : ¬ (7 * (i : Int)) < 0 := by omega
      simp only [X_skip, X_seq, X_reg, X_block, X_scope, X_exit, X_goto, X_ret, X_label, XO_mv, XO_g, XG_tt, XG_tf, XG_ft, XG_ff, XO_bin, XO_cvI, XO_pick, XO_ext, XO_len, XO_mnmx, XD_mv, XD_g, XGD_tt, XGD_tf, XGD_ft, XGD_ff, XD_bin, XD_cvI, XD_pick, XD_ext, XD_len, XD_mnmx, XD_mksl, XD_iadL, XD_ld, XD_fad, XD_nil, XWD_some, XVD_same, XVD_k, XO_alloc, XO_st, XD_st, XO_box, XO_mkslo, XD_mkslo, XO_mrk, XD_mrk, mr_0, XO_build, st_0_2, st_0_3, st_l_2, st_l_3, ld_l_2, ld_l_3, ld_r_2, ld_r_3, ld_l_at, Nat.zero_add, bd_nil, bd_2, bd_3, XD_build, XO_fld, XD_fld, XO_cvBS, XD_cvBS, bs_sl, bs_nil, XO_cvSB, XD_cvSB, sb_txt, XO_slL, XD_slL, Option.map_some, Option.map_none, XO_mksl, XO_iadL, XO_ld, XO_fad, ld_rptr, fd_r, fd_p, fd_e, List.drop_zero, List.drop_succ_cons, mkParts_nil, mkParts_cons, mkO_1, mkO_2, mk_agg2, mk_agg3, src_sl, mmO_min, mmO_max, XW_some, XV_some, ln_nil, ln_sl, ln_own, ln_str, cvO_eq, pkO_t, pkO_f, exO_eq, evalO_t, evalO_c, putD_some, putD_none, slot_len, slot_eq, slot_ne, ne_eq, Nat.reduceLT, Nat.reduceEqDiff, not_false_eq_true, not_true_eq_false, reduceCtorEq, XO_nil, RQ_0, RQ_0n, RQ_1, RQ_2, RQ_3, K_norm, K_exit, K_goto, K_ret, K_pan, B_norm, B_exit, B_goto, B_ret, B_pan, S_norm, S_exit, S_ret, S_pan, X_cnd, XB_true, XB_false, bin_add, bin_sub, bin_mul, bin_and, bin_or, bin_shr, bin_shl, bin_quo, bin_rem, Int.reduceLT, Int.reduceEq, bin_eql, bin_neq, bin_lss, bin_leq, bin_gtr, bin_geq, bin_seql, bin_sneq, decide_true, decide_false, eq_self, if_true, if_false, List.getElem?_cons_zero, List.getElem?_cons_succ, hs, h0, h1, h7, h8, e1, e2, e3, shl_i64 i _ (by omega) (Nat.mod_lt _ (by decide : 128 > 0)), or_i64 i n _ (by omega) hn (Nat.mod_lt _ (by decide : 128 > 0))]
      have hm : n + c.toNat % 128 * 128 ^ i < 128 ^ (i + 1) := by
        have : c.toNat % 128 * 128 ^ i ≤ 127 * 128 ^ i := Nat.mul_le_mul_right _ (by omega)
        rw [Nat.pow_succ]; omega
      have hp := (pow_le i (by omega)).1
      rw [hd] at hQ
      simp only [getN] at hQ
      generalize n + c.toNat % 128 * 128 ^ i = m at hm hQ ⊢
      by_cases hcm : c.toNat < 128
      · simp only [hcm, if_true] at hQ
        have e4 : bits .and .u8 (c.toNat : Int) 128 = 0 := by rw [u8_and128 _ hc256, if_pos hcm]
        have e5 : IntKind.i64.wrap (((at_ + i : Nat) : Int) + 1) = ((at_ + i + 1 : Nat) : Int) := by rw [IntWalk.i64_in _ (by omega)]; omega
        have ret : ∀ s', s'.length = 60 → ¬ ((c.toNat = 0 ∧ 0 < i) ∨ 9007199254740992 < m) → s'.getD 4 .undef = vi .i64 m → s'.getD 5 .undef = vi .i64 ((at_ + i + 1 : Nat) : Int) → s'.getD 6 .undef = vi .u16 0 → Q .ret ⟨s', h⟩ := by
          intro s' a1 a2 a3 a4 a5
          refine hQ _ _ a1 ?_
          rw [if_neg a2]
          exact .inr (.inr ⟨_, _, rfl, rfl, a3, a4, a5⟩)
        have bad : ∀ s', s'.length = 60 → ((c.toNat = 0 ∧ 0 < i) ∨ 9007199254740992 < m) → Q (.goto 1) ⟨s', h⟩ := by
          intro s' a1 a2
          refine hQ _ _ a1 ?_
          rw [if_pos a2]
          exact .inl ⟨rfl, .inr rfl⟩
        clear hQ ih
        by_cases hM : 9007199254740992 < (m : Int)
        · by_cases hz : (c.toNat : Int) = 0
          · by_cases hi0 : (0 : Int) < i
            · simp only [X_skip, X_seq, X_reg, X_block, X_scope, X_exit, X_goto, X_ret, X_label, XO_mv, XO_g, XG_tt, XG_tf, XG_ft, XG_ff, XO_bin, XO_cvI, XO_pick, XO_ext, XO_len, XO_mnmx, XD_mv, XD_g, XGD_tt, XGD_tf, XGD_ft, XGD_ff, XD_bin, XD_cvI, XD_pick, XD_ext, XD_len, XD_mnmx, XD_mksl, XD_iadL, XD_ld, XD_fad, XD_nil, XWD_some, XVD_same, XVD_k, XO_alloc, XO_st, XD_st, XO_box, XO_mkslo, XD_mkslo, XO_mrk, XD_mrk, mr_0, XO_build, st_0_2, st_0_3, st_l_2, st_l_3, ld_l_2, ld_l_3, ld_r_2, ld_r_3, ld_l_at, Nat.zero_add, bd_nil, bd_2, bd_3, XD_build, XO_fld, XD_fld, XO_cvBS, XD_cvBS, bs_sl, bs_nil, XO_cvSB, XD_cvSB, sb_txt, XO_slL, XD_slL, Option.map_some, Option.map_none, XO_mksl, XO_iadL, XO_ld, XO_fad, ld_rptr, fd_r, fd_p, fd_e, List.drop_zero, List.drop_succ_cons, mkParts_nil, mkParts_cons, mkO_1, mkO_2, mk_agg2, mk_agg3, src_sl, mmO_min, mmO_max, XW_some, XV_some, ln_nil, ln_sl, ln_own, ln_str, cvO_eq, pkO_t, pkO_f, exO_eq, evalO_t, evalO_c, putD_some, putD_none, slot_len, slot_eq, slot_ne, ne_eq, Nat.reduceLT, Nat.reduceEqDiff, not_false_eq_true, not_true_eq_false, reduceCtorEq, XO_nil, RQ_0, RQ_0n, RQ_1, RQ_2, RQ_3, K_norm, K_exit, K_goto, K_ret, K_pan, B_norm, B_exit, B_goto, B_ret, B_pan, S_norm, S_exit, S_ret, S_pan, X_cnd, XB_true, XB_false, bin_add, bin_sub, bin_mul, bin_and, bin_or, bin_shr, bin_shl, bin_quo, bin_rem, Int.reduceLT, Int.reduceEq, bin_eql, bin_neq, bin_lss, bin_leq, bin_gtr, bin_geq, bin_seql, bin_sneq, decide_true, decide_false, eq_self, if_true, if_false, List.getElem?_cons_zero, List.getElem?_cons_succ, hs, h1, h8, e4, e5, ea, eq_true hz, hi0, hM]
              exact bad _ (by simp only [slot_len, hs]) (by omega)
            · simp only [X_skip, X_seq, X_reg, X_block, X_scope, X_exit, X_goto, X_ret, X_label, XO_mv, XO_g, XG_tt, XG_tf, XG_ft, XG_ff, XO_bin, XO_cvI, XO_pick, XO_ext, XO_len, XO_mnmx, XD_mv, XD_g, XGD_tt, XGD_tf, XGD_ft, XGD_ff, XD_bin, XD_cvI, XD_pick, XD_ext, XD_len, XD_mnmx, XD_mksl, XD_iadL, XD_ld, XD_fad, XD_nil, XWD_some, XVD_same, XVD_k, XO_alloc, XO_st, XD_st, XO_box, XO_mkslo, XD_mkslo, XO_mrk, XD_mrk, mr_0, XO_build, st_0_2, st_0_3, st_l_2, st_l_3, ld_l_2, ld_l_3, ld_r_2, ld_r_3, ld_l_at, Nat.zero_add, bd_nil, bd_2, bd_3, XD_build, XO_fld, XD_fld, XO_cvBS, XD_cvBS, bs_sl, bs_nil, XO_cvSB, XD_cvSB, sb_txt, XO_slL, XD_slL, Option.map_some, Option.map_none, XO_mksl, XO_iadL, XO_ld, XO_fad, ld_rptr, fd_r, fd_p, fd_e, List.drop_zero, List.drop_succ_cons, mkParts_nil, mkParts_cons, mkO_1, mkO_2, mk_agg2, mk_agg3, src_sl, mmO_min, mmO_max, XW_some, XV_some, ln_nil, ln_sl, ln_own, ln_str, cvO_eq, pkO_t, pkO_f, exO_eq, evalO_t, evalO_c, putD_some, putD_none, slot_len, slot_eq, slot_ne, ne_eq, Nat.reduceLT, Nat.reduceEqDiff, not_false_eq_true, not_true_eq_false, reduceCtorEq, XO_nil, RQ_0, RQ_0n, RQ_1, RQ_2, RQ_3, K_norm, K_exit, K_goto, K_ret, K_pan, B_norm, B_exit, B_goto, B_ret, B_pan, S_norm, S_exit, S_ret, S_pan, X_cnd, XB_true, XB_false, bin_add, bin_sub, bin_mul, bin_and, bin_or, bin_shr, bin_shl, bin_quo, bin_rem, Int.reduceLT, Int.reduceEq, bin_eql, bin_neq, bin_lss, bin_leq, bin_gtr, bin_geq, bin_seql, bin_sneq, decide_true, decide_false, eq_self, if_true, if_false, List.getElem?_cons_zero, List.getElem?_cons_succ, hs, h1, h8, e4, e5, ea, eq_true hz, hi0, hM]
              exact bad _ (by simp only [slot_len, hs]) (by omega)
          · simp only [X_skip, X_seq, X_reg, X_block, X_scope, X_exit, X_goto, X_ret, X_label, XO_mv, XO_g, XG_tt, XG_tf, XG_ft, XG_ff, XO_bin, XO_cvI, XO_pick, XO_ext, XO_len, XO_mnmx, XD_mv, XD_g, XGD_tt, XGD_tf, XGD_ft, XGD_ff, XD_bin, XD_cvI, XD_pick, XD_ext, XD_len, XD_mnmx, XD_mksl, XD_iadL, XD_ld, XD_fad, XD_nil, XWD_some, XVD_same, XVD_k, XO_alloc, XO_st, XD_st, XO_box, XO_mkslo, XD_mkslo, XO_mrk, XD_mrk, mr_0, XO_build, st_0_2, st_0_3, st_l_2, st_l_3, ld_l_2, ld_l_3, ld_r_2, ld_r_3, ld_l_at, Nat.zero_add, bd_nil, bd_2, bd_3, XD_build, XO_fld, XD_fld, XO_cvBS, XD_cvBS, bs_sl, bs_nil, XO_cvSB, XD_cvSB, sb_txt, XO_slL, XD_slL, Option.map_some, Option.map_none, XO_mksl, XO_iadL, XO_ld, XO_fad, ld_rptr, fd_r, fd_p, fd_e, List.drop_zero, List.drop_succ_cons, mkParts_nil, mkParts_cons, mkO_1, mkO_2, mk_agg2, mk_agg3, src_sl, mmO_min, mmO_max, XW_some, XV_some, ln_nil, ln_sl, ln_own, ln_str, cvO_eq, pkO_t, pkO_f, exO_eq, evalO_t, evalO_c, putD_some, putD_none, slot_len, slot_eq, slot_ne, ne_eq, Nat.reduceLT, Nat.reduceEqDiff, not_false_eq_true, not_true_eq_false, reduceCtorEq, XO_nil, RQ_0, RQ_0n, RQ_1, RQ_2, RQ_3, K_norm, K_exit, K_goto, K_ret, K_pan, B_norm, B_exit, B_goto, B_ret, B_pan, S_norm, S_exit, S_ret, S_pan, X_cnd, XB_true, XB_false, bin_add, bin_sub, bin_mul, bin_and, bin_or, bin_shr, bin_shl, bin_quo, bin_rem, Int.reduceLT, Int.reduceEq, bin_eql, bin_neq, bin_lss, bin_leq, bin_gtr, bin_geq, bin_seql, bin_sneq, decide_true, decide_false, eq_self, if_true, if_false, List.getElem?_cons_zero, List.getElem?_cons_succ, hs, h1, h8, e4, e5, ea, hz, hM]
            exact bad _ (by simp only [slot_len, hs]) (by omega)
        · by_cases hz : (c.toNat : Int) = 0
          · by_cases hi0 : (0 : Int) < i
            · simp only [X_skip, X_seq, X_reg, X_block, X_scope, X_exit, X_goto, X_ret, X_label, XO_mv, XO_g, XG_tt, XG_tf, XG_ft, XG_ff, XO_bin, XO_cvI, XO_pick, XO_ext, XO_len, XO_mnmx, XD_mv, XD_g, XGD_tt, XGD_tf, XGD_ft, XGD_ff, XD_bin, XD_cvI, XD_pick, XD_ext, XD_len, XD_mnmx, XD_mksl, XD_iadL, XD_ld, XD_fad, XD_nil, XWD_some, XVD_same, XVD_k, XO_alloc, XO_st, XD_st, XO_box, XO_mkslo, XD_mkslo, XO_mrk, XD_mrk, mr_0, XO_build, st_0_2, st_0_3, st_l_2, st_l_3, ld_l_2, ld_l_3, ld_r_2, ld_r_3, ld_l_at, Nat.zero_add, bd_nil, bd_2, bd_3, XD_build, XO_fld, XD_fld, XO_cvBS, XD_cvBS, bs_sl, bs_nil, XO_cvSB, XD_cvSB, sb_txt, XO_slL, XD_slL, Option.map_some, Option.map_none, XO_mksl, XO_iadL, XO_ld, XO_fad, ld_rptr, fd_r, fd_p, fd_e, List.drop_zero, List.drop_succ_cons, mkParts_nil, mkParts_cons, mkO_1, mkO_2, mk_agg2, mk_agg3, src_sl, mmO_min, mmO_max, XW_some, XV_some, ln_nil, ln_sl, ln_own, ln_str, cvO_eq, pkO_t, pkO_f, exO_eq, evalO_t, evalO_c, putD_some, putD_none, slot_len, slot_eq, slot_ne, ne_eq, Nat.reduceLT, Nat.reduceEqDiff, not_false_eq_true, not_true_eq_false, reduceCtorEq, XO_nil, RQ_0, RQ_0n, RQ_1, RQ_2, RQ_3, K_norm, K_exit, K_goto, K_ret, K_pan, B_norm, B_exit, B_goto, B_ret, B_pan, S_norm, S_exit, S_ret, S_pan, X_cnd, XB_true, XB_false, bin_add, bin_sub, bin_mul, bin_and, bin_or, bin_shr, bin_shl, bin_quo, bin_rem, Int.reduceLT, Int.reduceEq, bin_eql, bin_neq, bin_lss, bin_leq, bin_gtr, bin_geq, bin_seql, bin_sneq, decide_true, decide_false, eq_self, if_true, if_false, List.getElem?_cons_zero, List.getElem?_cons_succ, hs, h1, h8, e4, e5, ea, eq_true hz, hi0, hM]
              exact bad _ (by simp only [slot_len, hs]) (by omega)
            · simp only [X_skip, X_seq, X_reg, X_block, X_scope, X_exit, X_goto, X_ret, X_label, XO_mv, XO_g, XG_tt, XG_tf, XG_ft, XG_ff, XO_bin, XO_cvI, XO_pick, XO_ext, XO_len, XO_mnmx, XD_mv, XD_g, XGD_tt, XGD_tf, XGD_ft, XGD_ff, XD_bin, XD_cvI, XD_pick, XD_ext, XD_len, XD_mnmx, XD_mksl, XD_iadL, XD_ld, XD_fad, XD_nil, XWD_some, XVD_same, XVD_k, XO_alloc, XO_st, XD_st, XO_box, XO_mkslo, XD_mkslo, XO_mrk, XD_mrk, mr_0, XO_build, st_0_2, st_0_3, st_l_2, st_l_3, ld_l_2, ld_l_3, ld_r_2, ld_r_3, ld_l_at, Nat.zero_add, bd_nil, bd_2, bd_3, XD_build, XO_fld, XD_fld, XO_cvBS, XD_cvBS, bs_sl, bs_nil, XO_cvSB, XD_cvSB, sb_txt, XO_slL, XD_slL, Option.map_some, Option.map_none, XO_mksl, XO_iadL, XO_ld, XO_fad, ld_rptr, fd_r, fd_p, fd_e, List.drop_zero, List.drop_succ_cons, mkParts_nil, mkParts_cons, mkO_1, mkO_2, mk_agg2, mk_agg3, src_sl, mmO_min, mmO_max, XW_some, XV_some, ln_nil, ln_sl, ln_own, ln_str, cvO_eq, pkO_t, pkO_f, exO_eq, evalO_t, evalO_c, putD_some, putD_none, slot_len, slot_eq, slot_ne, ne_eq, Nat.reduceLT, Nat.reduceEqDiff, not_false_eq_true, not_true_eq_false, reduceCtorEq, XO_nil, RQ_0, RQ_0n, RQ_1, RQ_2, RQ_3, K_norm, K_exit, K_goto, K_ret, K_pan, B_norm, B_exit, B_goto, B_ret, B_pan, S_norm, S_exit, S_ret, S_pan, X_cnd, XB_true, XB_false, bin_add, bin_sub, bin_mul, bin_and, bin_or, bin_shr, bin_shl, bin_quo, bin_rem, Int.reduceLT, Int.reduceEq, bin_eql, bin_neq, bin_lss, bin_leq, bin_gtr, bin_geq, bin_seql, bin_sneq, decide_true, decide_false, eq_self, if_true, if_false, List.getElem?_cons_zero, List.getElem?_cons_succ, hs, h1, h8, e4, e5, ea, eq_true hz, hi0, hM]
              exact ret _ (by simp only [slot_len, hs]) (by omega) (by simp only [X_skip, X_seq, X_reg, X_block, X_scope, X_exit, X_goto, X_ret, X_label, XO_mv, XO_g, XG_tt, XG_tf, XG_ft, XG_ff, XO_bin, XO_cvI, XO_pick, XO_ext, XO_len, XO_mnmx, XD_mv, XD_g, XGD_tt, XGD_tf, XGD_ft, XGD_ff, XD_bin, XD_cvI, XD_pick, XD_ext, XD_len, XD_mnmx, XD_mksl, XD_iadL, XD_ld, XD_fad, XD_nil, XWD_some, XVD_same, XVD_k, XO_alloc, XO_st, XD_st, XO_box, XO_mkslo, XD_mkslo, XO_mrk, XD_mrk, mr_0, XO_build, st_0_2, st_0_3, st_l_2, st_l_3, ld_l_2, ld_l_3, ld_r_2, ld_r_3, ld_l_at, Nat.zero_add, bd_nil, bd_2, bd_3, XD_build, XO_fld, XD_fld, XO_cvBS, XD_cvBS, bs_sl, bs_nil, XO_cvSB, XD_cvSB, sb_txt, XO_slL, XD_slL, Option.map_some, Option.map_none, XO_mksl, XO_iadL, XO_ld, XO_fad, ld_rptr, fd_r, fd_p, fd_e, List.drop_zero, List.drop_succ_cons, mkParts_nil, mkParts_cons, mkO_1, mkO_2, mk_agg2, mk_agg3, src_sl, mmO_min, mmO_max, XW_some, XV_some, ln_nil, ln_sl, ln_own, ln_str, cvO_eq, pkO_t, pkO_f, exO_eq, evalO_t, evalO_c, putD_some, putD_none, slot_len, slot_eq, slot_ne, ne_eq, Nat.reduceLT, Nat.reduceEqDiff, not_false_eq_true, not_true_eq_false, reduceCtorEq, XO_nil, RQ_0, RQ_0n, RQ_1, RQ_2, RQ_3, K_norm, K_exit, K_goto, K_ret, K_pan, B_norm, B_exit, B_goto, B_ret, B_pan, S_norm, S_exit, S_ret, S_pan, X_cnd, XB_true, XB_false, bin_add, bin_sub, bin_mul, bin_and, bin_or, bin_shr, bin_shl, bin_quo, bin_rem, Int.reduceLT, Int.reduceEq, bin_eql, bin_neq, bin_lss, bin_leq, bin_gtr, bin_geq, bin_seql, bin_sneq, decide_true, decide_false, eq_self, if_true, if_false, List.getElem?_cons_zero, List.getElem?_cons_succ, hs]) (by simp only [X_skip, X_seq, X_reg, X_block, X_scope, X_exit, X_goto, X_ret, X_label, XO_mv, XO_g, XG_tt, XG_tf, XG_ft, XG_ff, XO_bin, XO_cvI, XO_pick, XO_ext, XO_len, XO_mnmx, XD_mv, XD_g, XGD_tt, XGD_tf, XGD_ft, XGD_ff, XD_bin, XD_cvI, XD_pick, XD_ext, XD_len, XD_mnmx, XD_mksl, XD_iadL, XD_ld, XD_fad, XD_nil, XWD_some, XVD_same, XVD_k, XO_alloc, XO_st, XD_st, XO_box, XO_mkslo, XD_mkslo, XO_mrk, XD_mrk, mr_0, XO_build, st_0_2, st_0_3, st_l_2, st_l_3, ld_l_2, ld_l_3, ld_r_2, ld_r_3, ld_l_at, Nat.zero_add, bd_nil, bd_2, bd_3, XD_build, XO_fld, XD_fld, XO_cvBS, XD_cvBS, bs_sl, bs_nil, XO_cvSB, XD_cvSB, sb_txt, XO_slL, XD_slL, Option.map_some, Option.map_none, XO_mksl, XO_iadL, XO_ld, XO_fad, ld_rptr, fd_r, fd_p, fd_e, List.drop_zero, List.drop_succ_cons, mkParts_nil, mkParts_cons, mkO_1, mkO_2, mk_agg2, mk_agg3, src_sl, mmO_min, mmO_max, XW_some, XV_some, ln_nil, ln_sl, ln_own, ln_str, cvO_eq, pkO_t, pkO_f, exO_eq, evalO_t, evalO_c, putD_some, putD_none, slot_len, slot_eq, slot_ne, ne_eq, Nat.reduceLT, Nat.reduceEqDiff, not_false_eq_true, not_true_eq_false, reduceCtorEq, XO_nil, RQ_0, RQ_0n, RQ_1, RQ_2, RQ_3, K_norm, K_exit, K_goto, K_ret, K_pan, B_norm, B_exit, B_goto, B_ret, B_pan, S_norm, S_exit, S_ret, S_pan, X_cnd, XB_true, XB_false, bin_add, bin_sub, bin_mul, bin_and, bin_or, bin_shr, bin_shl, bin_quo, bin_rem, Int.reduceLT, Int.reduceEq, bin_eql, bin_neq, bin_lss, bin_leq, bin_gtr, bin_geq, bin_seql, bin_sneq, decide_true, decide_false, eq_self, if_true, if_false, List.getElem?_cons_zero, List.getElem?_cons_succ, hs]) (by simp only [X_skip, X_seq, X_reg, X_block, X_scope, X_exit, X_goto, X_ret, X_label, XO_mv, XO_g, XG_tt, XG_tf, XG_ft, XG_ff, XO_bin, XO_cvI, XO_pick, XO_ext, XO_len, XO_mnmx, XD_mv, XD_g, XGD_tt, XGD_tf, XGD_ft, XGD_ff, XD_bin, XD_cvI, XD_pick, XD_ext, XD_len, XD_mnmx, XD_mksl, XD_iadL, XD_ld, XD_fad, XD_nil, XWD_some, XVD_same, XVD_k, XO_alloc, XO_st, XD_st, XO_box, XO_mkslo, XD_mkslo, XO_mrk, XD_mrk, mr_0, XO_build, st_0_2, st_0_3, st_l_2, st_l_3, ld_l_2, ld_l_3, ld_r_2, ld_r_3, ld_l_at, Nat.zero_add, bd_nil, bd_2, bd_3, XD_build, XO_fld, XD_fld, XO_cvBS, XD_cvBS, bs_sl, bs_nil, XO_cvSB, XD_cvSB, sb_txt, XO_slL, XD_slL, Option.map_some, Option.map_none, XO_mksl, XO_iadL, XO_ld, XO_fad, ld_rptr, fd_r, fd_p, fd_e, List.drop_zero, List.drop_succ_cons, mkParts_nil, mkParts_cons, mkO_1, mkO_2, mk_agg2, mk_agg3, src_sl, mmO_min, mmO_max, XW_some, XV_some, ln_nil, ln_sl, ln_own, ln_str, cvO_eq, pkO_t, pkO_f, exO_eq, evalO_t, evalO_c, putD_some, putD_none, slot_len, slot_eq, slot_ne, ne_eq, Nat.reduceLT, Nat.reduceEqDiff, not_false_eq_true, not_true_eq_false, reduceCtorEq, XO_nil, RQ_0, RQ_0n, RQ_1, RQ_2, RQ_3, K_norm, K_exit, K_goto, K_ret, K_pan, B_norm, B_exit, B_goto, B_ret, B_pan, S_norm, S_exit, S_ret, S_pan, X_cnd, XB_true, XB_false, bin_add, bin_sub, bin_mul, bin_and, bin_or, bin_shr, bin_shl, bin_quo, bin_rem, Int.reduceLT, Int.reduceEq, bin_eql, bin_neq, bin_lss, bin_leq, bin_gtr, bin_geq, bin_seql, bin_sneq, decide_true, decide_false, eq_self, if_true, if_false, List.getElem?_cons_zero, List.getElem?_cons_succ, hs])
          · simp only [X_skip, X_seq, X_reg, X_block, X_scope, X_exit, X_goto, X_ret, X_label, XO_mv, XO_g, XG_tt, XG_tf, XG_ft, XG_ff, XO_bin, XO_cvI, XO_pick, XO_ext, XO_len, XO_mnmx, XD_mv, XD_g, XGD_tt, XGD_tf, XGD_ft, XGD_ff, XD_bin, XD_cvI, XD_pick, XD_ext, XD_len, XD_mnmx, XD_mksl, XD_iadL, XD_ld, XD_fad, XD_nil, XWD_some, XVD_same, XVD_k, XO_alloc, XO_st, XD_st, XO_box, XO_mkslo, XD_mkslo, XO_mrk, XD_mrk, mr_0, XO_build, st_0_2, st_0_3, st_l_2, st_l_3, ld_l_2, ld_l_3, ld_r_2, ld_r_3, ld_l_at, Nat.zero_add, bd_nil, bd_2, bd_3, XD_build, XO_fld, XD_fld, XO_cvBS, XD_cvBS, bs_sl, bs_nil, XO_cvSB, XD_cvSB, sb_txt, XO_slL, XD_slL, Option.map_some, Option.map_none, XO_mksl, XO_iadL, XO_ld, XO_fad, ld_rptr, fd_r, fd_p, fd_e, List.drop_zero, List.drop_succ_cons, mkParts_nil, mkParts_cons, mkO_1, mkO_2, mk_agg2, mk_agg3, src_sl, mmO_min, mmO_max, XW_some, XV_some, ln_nil, ln_sl, ln_own, ln_str, cvO_eq, pkO_t, pkO_f, exO_eq, evalO_t, evalO_c, putD_some, putD_none, slot_len, slot_eq, slot_ne, ne_eq, Nat.reduceLT, Nat.reduceEqDiff, not_false_eq_true, not_true_eq_false, reduceCtorEq, XO_nil, RQ_0, RQ_0n, RQ_1, RQ_2, RQ_3, K_norm, K_exit, K_goto, K_ret, K_pan, B_norm, B_exit, B_goto, B_ret, B_pan, S_norm, S_exit, S_ret, S_pan, X_cnd, XB_true, XB_false, bin_add, bin_sub, bin_mul, bin_and, bin_or, bin_shr, bin_shl, bin_quo, bin_rem, Int.reduceLT, Int.reduceEq, bin_eql, bin_neq, bin_lss, bin_leq, bin_gtr, bin_geq, bin_seql, bin_sneq, decide_true, decide_false, eq_self, if_true, if_false, List.getElem?_cons_zero, List.getElem?_cons_succ, hs, h1, h8, e4, e5, ea, hz, hM]
            exact ret _ (by simp only [slot_len, hs]) (by omega) (by simp only [X_skip, X_seq, X_reg, X_block, X_scope, X_exit, X_goto, X_ret, X_label, XO_mv, XO_g, XG_tt, XG_tf, XG_ft, XG_ff, XO_bin, XO_cvI, XO_pick, XO_ext, XO_len, XO_mnmx, XD_mv, XD_g, XGD_tt, XGD_tf, XGD_ft, XGD_ff, XD_bin, XD_cvI, XD_pick, XD_ext, XD_len, XD_mnmx, XD_mksl, XD_iadL, XD_ld, XD_fad, XD_nil, XWD_some, XVD_same, XVD_k, XO_alloc, XO_st, XD_st, XO_box, XO_mkslo, XD_mkslo, XO_mrk, XD_mrk, mr_0, XO_build, st_0_2, st_0_3, st_l_2, st_l_3, ld_l_2, ld_l_3, ld_r_2, ld_r_3, ld_l_at, Nat.zero_add, bd_nil, bd_2, bd_3, XD_build, XO_fld, XD_fld, XO_cvBS, XD_cvBS, bs_sl, bs_nil, XO_cvSB, XD_cvSB, sb_txt, XO_slL, XD_slL, Option.map_some, Option.map_none, XO_mksl, XO_iadL, XO_ld, XO_fad, ld_rptr, fd_r, fd_p, fd_e, List.drop_zero, List.drop_succ_cons, mkParts_nil, mkParts_cons, mkO_1, mkO_2, mk_agg2, mk_agg3, src_sl, mmO_min, mmO_max, XW_some, XV_some, ln_nil, ln_sl, ln_own, ln_str, cvO_eq, pkO_t, pkO_f, exO_eq, evalO_t, evalO_c, putD_some, putD_none, slot_len, slot_eq, slot_ne, ne_eq, Nat.reduceLT, Nat.reduceEqDiff, not_false_eq_true, not_true_eq_false, reduceCtorEq, XO_nil, RQ_0, RQ_0n, RQ_1, RQ_2, RQ_3, K_norm, K_exit, K_goto, K_ret, K_pan, B_norm, B_exit, B_goto, B_ret, B_pan, S_norm, S_exit, S_ret, S_pan, X_cnd, XB_true, XB_false, bin_add, bin_sub, bin_mul, bin_and, bin_or, bin_shr, bin_shl, bin_quo, bin_rem, Int.reduceLT, Int.reduceEq, bin_eql, bin_neq, bin_lss, bin_leq, bin_gtr, bin_geq, bin_seql, bin_sneq, decide_true, decide_false, eq_self, if_true, if_false, List.getElem?_cons_zero, List.getElem?_cons_succ, hs]) (by simp only [X_skip, X_seq, X_reg, X_block, X_scope, X_exit, X_goto, X_ret, X_label, XO_mv, XO_g, XG_tt, XG_tf, XG_ft, XG_ff, XO_bin, XO_cvI, XO_pick, XO_ext, XO_len, XO_mnmx, XD_mv, XD_g, XGD_tt, XGD_tf, XGD_ft, XGD_ff, XD_bin, XD_cvI, XD_pick, XD_ext, XD_len, XD_mnmx, XD_mksl, XD_iadL, XD_ld, XD_fad, XD_nil, XWD_some, XVD_same, XVD_k, XO_alloc, XO_st, XD_st, XO_box, XO_mkslo, XD_mkslo, XO_mrk, XD_mrk, mr_0, XO_build, st_0_2, st_0_3, st_l_2, st_l_3, ld_l_2, ld_l_3, ld_r_2, ld_r_3, ld_l_at, Nat.zero_add, bd_nil, bd_2, bd_3, XD_build, XO_fld, XD_fld, XO_cvBS, XD_cvBS, bs_sl, bs_nil, XO_cvSB, XD_cvSB, sb_txt, XO_slL, XD_slL, Option.map_some, Option.map_none, XO_mksl, XO_iadL, XO_ld, XO_fad, ld_rptr, fd_r, fd_p, fd_e, List.drop_zero, List.drop_succ_cons, mkParts_nil, mkParts_cons, mkO_1, mkO_2, mk_agg2, mk_agg3, src_sl, mmO_min, mmO_max, XW_some, XV_some, ln_nil, ln_sl, ln_own, ln_str, cvO_eq, pkO_t, pkO_f, exO_eq, evalO_t, evalO_c, putD_some, putD_none, slot_len, slot_eq, slot_ne, ne_eq, Nat.reduceLT, Nat.reduceEqDiff, not_false_eq_true, not_true_eq_false, reduceCtorEq, XO_nil, RQ_0, RQ_0n, RQ_1, RQ_2, RQ_3, K_norm, K_exit, K_goto, K_ret, K_pan, B_norm, B_exit, B_goto, B_ret, B_pan, S_norm, S_exit, S_ret, S_pan, X_cnd, XB_true, XB_false, bin_add, bin_sub, bin_mul, bin_and, bin_or, bin_shr, bin_shl, bin_quo, bin_rem, Int.reduceLT, Int.reduceEq, bin_eql, bin_neq, bin_lss, bin_leq, bin_gtr, bin_geq, bin_seql, bin_sneq, decide_true, decide_false, eq_self, if_true, if_false, List.getElem?_cons_zero, List.getElem?_cons_succ, hs]) (by simp only [X_skip, X_seq, X_reg, X_block, X_scope, X_exit, X_goto, X_ret, X_label, XO_mv, XO_g, XG_tt, XG_tf, XG_ft, XG_ff, XO_bin, XO_cvI, XO_pick, XO_ext, XO_len, XO_mnmx, XD_mv, XD_g, XGD_tt, XGD_tf, XGD_ft, XGD_ff, XD_bin, XD_cvI, XD_pick, XD_ext, XD_len, XD_mnmx, XD_mksl, XD_iadL, XD_ld, XD_fad, XD_nil, XWD_some, XVD_same, XVD_k, XO_alloc, XO_st, XD_st, XO_box, XO_mkslo, XD_mkslo, XO_mrk, XD_mrk, mr_0, XO_build, st_0_2, st_0_3, st_l_2, st_l_3, ld_l_2, ld_l_3, ld_r_2, ld_r_3, ld_l_at, Nat.zero_add, bd_nil, bd_2, bd_3, XD_build, XO_fld, XD_fld, XO_cvBS, XD_cvBS, bs_sl, bs_nil, XO_cvSB, XD_cvSB, sb_txt, XO_slL, XD_slL, Option.map_some, Option.map_none, XO_mksl, XO_iadL, XO_ld, XO_fad, ld_rptr, fd_r, fd_p, fd_e, List.drop_zero, List.drop_succ_cons, mkParts_nil, mkParts_cons, mkO_1, mkO_2, mk_agg2, mk_agg3, src_sl, mmO_min, mmO_max, XW_some, XV_some, ln_nil, ln_sl, ln_own, ln_str, cvO_eq, pkO_t, pkO_f, exO_eq, evalO_t, evalO_c, putD_some, putD_none, slot_len, slot_eq, slot_ne, ne_eq, Nat.reduceLT, Nat.reduceEqDiff, not_false_eq_true, not_true_eq_false, reduceCtorEq, XO_nil, RQ_0, RQ_0n, RQ_1, RQ_2, RQ_3, K_norm, K_exit, K_goto, K_ret, K_pan, B_norm, B_exit, B_goto, B_ret, B_pan, S_norm, S_exit, S_ret, S_pan, X_cnd, XB_true, XB_false, bin_add, bin_sub, bin_mul, bin_and, bin_or, bin_shr, bin_shl, bin_quo, bin_rem, Int.reduceLT, Int.reduceEq, bin_eql, bin_neq, bin_lss, bin_leq, bin_gtr, bin_geq, bin_seql, bin_sneq, decide_true, decide_false, eq_self, if_true, if_false, List.getElem?_cons_zero, List.getElem?_cons_succ, hs])
      · simp only [hcm, if_false] at hQ
        have e4 : ¬ bits .and .u8 (c.toNat : Int) 128 = 0 := by rw [u8_and128 _ hc256, if_neg hcm]; decide
        have e5 : IntKind.i64.wrap ((i : Int) + 1) = ((i + 1 : Nat) : Int) := by rw [IntWalk.i64_in _ (by omega)]; omega
        simp only [X_skip, X_seq, X_reg, X_block, X_scope, X_exit, X_goto, X_ret, X_label, XO_mv, XO_g, XG_tt, XG_tf, XG_ft, XG_ff, XO_bin, XO_cvI, XO_pick, XO_ext, XO_len, XO_mnmx, XD_mv, XD_g, XGD_tt, XGD_tf, XGD_ft, XGD_ff, XD_bin, XD_cvI, XD_pick, XD_ext, XD_len, XD_mnmx, XD_mksl, XD_iadL, XD_ld, XD_fad, XD_nil, XWD_some, XVD_same, XVD_k, XO_alloc, XO_st, XD_st, XO_box, XO_mkslo, XD_mkslo, XO_mrk, XD_mrk, mr_0, XO_build, st_0_2, st_0_3, st_l_2, st_l_3, ld_l_2, ld_l_3, ld_r_2, ld_r_3, ld_l_at, Nat.zero_add, bd_nil, bd_2, bd_3, XD_build, XO_fld, XD_fld, XO_cvBS, XD_cvBS, bs_sl, bs_nil, XO_cvSB, XD_cvSB, sb_txt, XO_slL, XD_slL, Option.map_some, Option.map_none, XO_mksl, XO_iadL, XO_ld, XO_fad, ld_rptr, fd_r, fd_p, fd_e, List.drop_zero, List.drop_succ_cons, mkParts_nil, mkParts_cons, mkO_1, mkO_2, mk_agg2, mk_agg3, src_sl, mmO_min, mmO_max, XW_some, XV_some, ln_nil, ln_sl, ln_own, ln_str, cvO_eq, pkO_t, pkO_f, exO_eq, evalO_t, evalO_c, putD_some, putD_none, slot_len, slot_eq, slot_ne, ne_eq, Nat.reduceLT, Nat.reduceEqDiff, not_false_eq_true, not_true_eq_false, reduceCtorEq, XO_nil, RQ_0, RQ_0n, RQ_1, RQ_2, RQ_3, K_norm, K_exit, K_goto, K_ret, K_pan, B_norm, B_exit, B_goto, B_ret, B_pan, S_norm, S_exit, S_ret, S_pan, X_cnd, XB_true, XB_false, bin_add, bin_sub, bin_mul, bin_and, bin_or, bin_shr, bin_shl, bin_quo, bin_rem, Int.reduceLT, Int.reduceEq, bin_eql, bin_neq, bin_lss, bin_leq, bin_gtr, bin_geq, bin_seql, bin_sneq, decide_true, decide_false, eq_self, if_true, if_false, List.getElem?_cons_zero, List.getElem?_cons_succ, hs, h8, e4, e5]
        refine ih (i + 1) m _ (by omega) hm ?_ ?_ ?_ ?_ ?_ (by omega) ?_
        · simp only [slot_len, hs]
        · simp only [X_skip, X_seq, X_reg, X_block, X_scope, X_exit, X_goto, X_ret, X_label, XO_mv, XO_g, XG_tt, XG_tf, XG_ft, XG_ff, XO_bin, XO_cvI, XO_pick, XO_ext, XO_len, XO_mnmx, XD_mv, XD_g, XGD_tt, XGD_tf, XGD_ft, XGD_ff, XD_bin, XD_cvI, XD_pick, XD_ext, XD_len, XD_mnmx, XD_mksl, XD_iadL, XD_ld, XD_fad, XD_nil, XWD_some, XVD_same, XVD_k, XO_alloc, XO_st, XD_st, XO_box, XO_mkslo, XD_mkslo, XO_mrk, XD_mrk, mr_0, XO_build, st_0_2, st_0_3, st_l_2, st_l_3, ld_l_2, ld_l_3, ld_r_2, ld_r_3, ld_l_at, Nat.zero_add, bd_nil, bd_2, bd_3, XD_build, XO_fld, XD_fld, XO_cvBS, XD_cvBS, bs_sl, bs_nil, XO_cvSB, XD_cvSB, sb_txt, XO_slL, XD_slL, Option.map_some, Option.map_none, XO_mksl, XO_iadL, XO_ld, XO_fad, ld_rptr, fd_r, fd_p, fd_e, List.drop_zero, List.drop_succ_cons, mkParts_nil, mkParts_cons, mkO_1, mkO_2, mk_agg2, mk_agg3, src_sl, mmO_min, mmO_max, XW_some, XV_some, ln_nil, ln_sl, ln_own, ln_str, cvO_eq, pkO_t, pkO_f, exO_eq, evalO_t, evalO_c, putD_some, putD_none, slot_len, slot_eq, slot_ne, ne_eq, Nat.reduceLT, Nat.reduceEqDiff, not_false_eq_true, not_true_eq_false, reduceCtorEq, XO_nil, RQ_0, RQ_0n, RQ_1, RQ_2, RQ_3, K_norm, K_exit, K_goto, K_ret, K_pan, B_norm, B_exit, B_goto, B_ret, B_pan, S_norm, S_exit, S_ret, S_pan, X_cnd, XB_true, XB_false, bin_add, bin_sub, bin_mul, bin_and, bin_or, bin_shr, bin_shl, bin_quo, bin_rem, Int.reduceLT, Int.reduceEq, bin_eql, bin_neq, bin_lss, bin_leq, bin_gtr, bin_geq, bin_seql, bin_sneq, decide_true, decide_false, eq_self, if_true, if_false, List.getElem?_cons_zero, List.getElem?_cons_succ, hs, h0]
        · simp only [X_skip, X_seq, X_reg, X_block, X_scope, X_exit, X_goto, X_ret, X_label, XO_mv, XO_g, XG_tt, XG_tf, XG_ft, XG_ff, XO_bin, XO_cvI, XO_pick, XO_ext, XO_len, XO_mnmx, XD_mv, XD_g, XGD_tt, XGD_tf, XGD_ft, XGD_ff, XD_bin, XD_cvI, XD_pick, XD_ext, XD_len, XD_mnmx, XD_mksl, XD_iadL, XD_ld, XD_fad, XD_nil, XWD_some, XVD_same, XVD_k, XO_alloc, XO_st, XD_st, XO_box, XO_mkslo, XD_mkslo, XO_mrk, XD_mrk, mr_0, XO_build, st_0_2, st_0_3, st_l_2, st_l_3, ld_l_2, ld_l_3, ld_r_2, ld_r_3, ld_l_at, Nat.zero_add, bd_nil, bd_2, bd_3, XD_build, XO_fld, XD_fld, XO_cvBS, XD_cvBS, bs_sl, bs_nil, XO_cvSB, XD_cvSB, sb_txt, XO_slL, XD_slL, Option.map_some, Option.map_none, XO_mksl, XO_iadL, XO_ld, XO_fad, ld_rptr, fd_r, fd_p, fd_e, List.drop_zero, List.drop_succ_cons, mkParts_nil, mkParts_cons, mkO_1, mkO_2, mk_agg2, mk_agg3, src_sl, mmO_min, mmO_max, XW_some, XV_some, ln_nil, ln_sl, ln_own, ln_str, cvO_eq, pkO_t, pkO_f, exO_eq, evalO_t, evalO_c, putD_some, putD_none, slot_len, slot_eq, slot_ne, ne_eq, Nat.reduceLT, Nat.reduceEqDiff, not_false_eq_true, not_true_eq_false, reduceCtorEq, XO_nil, RQ_0, RQ_0n, RQ_1, RQ_2, RQ_3, K_norm, K_exit, K_goto, K_ret, K_pan, B_norm, B_exit, B_goto, B_ret, B_pan, S_norm, S_exit, S_ret, S_pan, X_cnd, XB_true, XB_false, bin_add, bin_sub, bin_mul, bin_and, bin_or, bin_shr, bin_shl, bin_quo, bin_rem, Int.reduceLT, Int.reduceEq, bin_eql, bin_neq, bin_lss, bin_leq, bin_gtr, bin_geq, bin_seql, bin_sneq, decide_true, decide_false, eq_self, if_true, if_false, List.getElem?_cons_zero, List.getElem?_cons_succ, hs, h1]
        · simp only [X_skip, X_seq, X_reg, X_block, X_scope, X_exit, X_goto, X_ret, X_label, XO_mv, XO_g, XG_tt, XG_tf, XG_ft, XG_ff, XO_bin, XO_cvI, XO_pick, XO_ext, XO_len, XO_mnmx, XD_mv, XD_g, XGD_tt, XGD_tf, XGD_ft, XGD_ff, XD_bin, XD_cvI, XD_pick, XD_ext, XD_len, XD_mnmx, XD_mksl, XD_iadL, XD_ld, XD_fad, XD_nil, XWD_some, XVD_same, XVD_k, XO_alloc, XO_st, XD_st, XO_box, XO_mkslo, XD_mkslo, XO_mrk, XD_mrk, mr_0, XO_build, st_0_2, st_0_3, st_l_2, st_l_3, ld_l_2, ld_l_3, ld_r_2, ld_r_3, ld_l_at, Nat.zero_add, bd_nil, bd_2, bd_3, XD_build, XO_fld, XD_fld, XO_cvBS, XD_cvBS, bs_sl, bs_nil, XO_cvSB, XD_cvSB, sb_txt, XO_slL, XD_slL, Option.map_some, Option.map_none, XO_mksl, XO_iadL, XO_ld, XO_fad, ld_rptr, fd_r, fd_p, fd_e, List.drop_zero, List.drop_succ_cons, mkParts_nil, mkParts_cons, mkO_1, mkO_2, mk_agg2, mk_agg3, src_sl, mmO_min, mmO_max, XW_some, XV_some, ln_nil, ln_sl, ln_own, ln_str, cvO_eq, pkO_t, pkO_f, exO_eq, evalO_t, evalO_c, putD_some, putD_none, slot_len, slot_eq, slot_ne, ne_eq, Nat.reduceLT, Nat.reduceEqDiff, not_false_eq_true, not_true_eq_false, reduceCtorEq, XO_nil, RQ_0, RQ_0n, RQ_1, RQ_2, RQ_3, K_norm, K_exit, K_goto, K_ret, K_pan, B_norm, B_exit, B_goto, B_ret, B_pan, S_norm, S_exit, S_ret, S_pan, X_cnd, XB_true, XB_false, bin_add, bin_sub, bin_mul, bin_and, bin_or, bin_shr, bin_shl, bin_quo, bin_rem, Int.reduceLT, Int.reduceEq, bin_eql, bin_neq, bin_lss, bin_leq, bin_gtr, bin_geq, bin_seql, bin_sneq, decide_true, decide_false, eq_self, if_true, if_false, List.getElem?_cons_zero, List.getElem?_cons_succ, hs]
        · simp only [X_skip, X_seq, X_reg, X_block, X_scope, X_exit, X_goto, X_ret, X_label, XO_mv, XO_g, XG_tt, XG_tf, XG_ft, XG_ff, XO_bin, XO_cvI, XO_pick, XO_ext, XO_len, XO_mnmx, XD_mv, XD_g, XGD_tt, XGD_tf, XGD_ft, XGD_ff, XD_bin, XD_cvI, XD_pick, XD_ext, XD_len, XD_mnmx, XD_mksl, XD_iadL, XD_ld, XD_fad, XD_nil, XWD_some, XVD_same, XVD_k, XO_alloc, XO_st, XD_st, XO_box, XO_mkslo, XD_mkslo, XO_mrk, XD_mrk, mr_0, XO_build, st_0_2, st_0_3, st_l_2, st_l_3, ld_l_2, ld_l_3, ld_r_2, ld_r_3, ld_l_at, Nat.zero_add, bd_nil, bd_2, bd_3, XD_build, XO_fld, XD_fld, XO_cvBS, XD_cvBS, bs_sl, bs_nil, XO_cvSB, XD_cvSB, sb_txt, XO_slL, XD_slL, Option.map_some, Option.map_none, XO_mksl, XO_iadL, XO_ld, XO_fad, ld_rptr, fd_r, fd_p, fd_e, List.drop_zero, List.drop_succ_cons, mkParts_nil, mkParts_cons, mkO_1, mkO_2, mk_agg2, mk_agg3, src_sl, mmO_min, mmO_max, XW_some, XV_some, ln_nil, ln_sl, ln_own, ln_str, cvO_eq, pkO_t, pkO_f, exO_eq, evalO_t, evalO_c, putD_some, putD_none, slot_len, slot_eq, slot_ne, ne_eq, Nat.reduceLT, Nat.reduceEqDiff, not_false_eq_true, not_true_eq_false, reduceCtorEq, XO_nil, RQ_0, RQ_0n, RQ_1, RQ_2, RQ_3, K_norm, K_exit, K_goto, K_ret, K_pan, B_norm, B_exit, B_goto, B_ret, B_pan, S_norm, S_exit, S_ret, S_pan, X_cnd, XB_true, XB_false, bin_add, bin_sub, bin_mul, bin_and, bin_or, bin_shr, bin_shl, bin_quo, bin_rem, Int.reduceLT, Int.reduceEq, bin_eql, bin_neq, bin_lss, bin_leq, bin_gtr, bin_geq, bin_seql, bin_sneq, decide_true, decide_false, eq_self, if_true, if_false, List.getElem?_cons_zero, List.getElem?_cons_succ, hs]
        · exact hQ

theorem num_f76 (b : List UInt8) (v : VV) (hv : SlV 1 (eB b) v) (at_ : Int) (h : Heap) (hb : b.length ≤ 1000000000) :
    call F 76 [v, vi .i64 at_] h = some (.ret (.tup [vi .i64 (getNum b at_).1, vi .i64 (getNum b at_).2.1, vi .u16 (getNum b at_).2.2]), h) := by
  · refine call_P (fn := f76) rfl ?_
    simp only [f76]
    generalize hs0 : ([v, vi .i64 at_] ++ List.replicate _ VV.undef : List VV) = s
    have hs : s.length = 60 := by rw [← hs0]; rfl
    have h0 : s.getD 0 .undef = v := by rw [← hs0]; rfl
    have h1 : s.getD 1 .undef = vi .i64 at_ := by rw [← hs0]; rfl
    clear hs0
    simp only [X_skip, X_seq, X_reg, X_block, X_scope, X_exit, X_goto, X_ret, X_label, XO_mv, XO_g, XG_tt, XG_tf, XG_ft, XG_ff, XO_bin, XO_cvI, XO_pick, XO_ext, XO_len, XO_mnmx, XD_mv, XD_g, XGD_tt, XGD_tf, XGD_ft, XGD_ff, XD_bin, XD_cvI, XD_pick, XD_ext, XD_len, XD_mnmx, XD_mksl, XD_iadL, XD_ld, XD_fad, XD_nil, XWD_some, XVD_same, XVD_k, XO_alloc, XO_st, XD_st, XO_box, XO_mkslo, XD_mkslo, XO_mrk, XD_mrk, mr_0, XO_build, st_0_2, st_0_3, st_l_2, st_l_3, ld_l_2, ld_l_3, ld_r_2, ld_r_3, ld_l_at, Nat.zero_add, bd_nil, bd_2, bd_3, XD_build, XO_fld, XD_fld, XO_cvBS, XD_cvBS, bs_sl, bs_nil, XO_cvSB, XD_cvSB, sb_txt, XO_slL, XD_slL, Option.map_some, Option.map_none, XO_mksl, XO_iadL, XO_ld, XO_fad, ld_rptr, fd_r, fd_p, fd_e, List.drop_zero, List.drop_succ_cons, mkParts_nil, mkParts_cons, mkO_1, mkO_2, mk_agg2, mk_agg3, src_sl, mmO_min, mmO_max, XW_some, XV_some, ln_nil, ln_sl, ln_own, ln_str, cvO_eq, pkO_t, pkO_f, exO_eq, evalO_t, evalO_c, putD_some, putD_none, slot_len, slot_eq, slot_ne, ne_eq, Nat.reduceLT, Nat.reduceEqDiff, not_false_eq_true, not_true_eq_false, reduceCtorEq, XO_nil, RQ_0, RQ_0n, RQ_1, RQ_2, RQ_3, K_norm, K_exit, K_goto, K_ret, K_pan, B_norm, B_exit, B_goto, B_ret, B_pan, S_norm, S_exit, S_ret, S_pan, X_cnd, XB_true, XB_false, bin_add, bin_sub, bin_mul, bin_and, bin_or, bin_shr, bin_shl, bin_quo, bin_rem, Int.reduceLT, Int.reduceEq, bin_eql, bin_neq, bin_lss, bin_leq, bin_gtr, bin_geq, bin_seql, bin_sneq, decide_true, decide_false, eq_self, if_true, if_false, List.getElem?_cons_zero, List.getElem?_cons_succ]
    rw [X_eq f76_1.eq_1]
    simp only [X_skip, X_seq, X_reg, X_block, X_scope, X_exit, X_goto, X_ret, X_label, XO_mv, XO_g, XG_tt, XG_tf, XG_ft, XG_ff, XO_bin, XO_cvI, XO_pick, XO_ext, XO_len, XO_mnmx, XD_mv, XD_g, XGD_tt, XGD_tf, XGD_ft, XGD_ff, XD_bin, XD_cvI, XD_pick, XD_ext, XD_len, XD_mnmx, XD_mksl, XD_iadL, XD_ld, XD_fad, XD_nil, XWD_some, XVD_same, XVD_k, XO_alloc, XO_st, XD_st, XO_box, XO_mkslo, XD_mkslo, XO_mrk, XD_mrk, mr_0, XO_build, st_0_2, st_0_3, st_l_2, st_l_3, ld_l_2, ld_l_3, ld_r_2, ld_r_3, ld_l_at, Nat.zero_add, bd_nil, bd_2, bd_3, XD_build, XO_fld, XD_fld, XO_cvBS, XD_cvBS, bs_sl, bs_nil, XO_cvSB, XD_cvSB, sb_txt, XO_slL, XD_slL, Option.map_some, Option.map_none, XO_mksl, XO_iadL, XO_ld, XO_fad, ld_rptr, fd_r, fd_p, fd_e, List.drop_zero, List.drop_succ_cons, mkParts_nil, mkParts_cons, mkO_1, mkO_2, mk_agg2, mk_agg3, src_sl, mmO_min, mmO_max, XW_some, XV_some, ln_nil, ln_sl, ln_own, ln_str, cvO_eq, pkO_t, pkO_f, exO_eq, evalO_t, evalO_c, putD_some, putD_none, slot_len, slot_eq, slot_ne, ne_eq, Nat.reduceLT, Nat.reduceEqDiff, not_false_eq_true, not_true_eq_false, reduceCtorEq, XO_nil, RQ_0, RQ_0n, RQ_1, RQ_2, RQ_3, K_norm, K_exit, K_goto, K_ret, K_pan, B_norm, B_exit, B_goto, B_ret, B_pan, S_norm, S_exit, S_ret, S_pan, X_cnd, XB_true, XB_false, bin_add, bin_sub, bin_mul, bin_and, bin_or, bin_shr, bin_shl, bin_quo, bin_rem, Int.reduceLT, Int.reduceEq, bin_eql, bin_neq, bin_lss, bin_leq, bin_gtr, bin_geq, bin_seql, bin_sneq, decide_true, decide_false, eq_self, if_true, if_false, List.getElem?_cons_zero, List.getElem?_cons_succ, hs, h0, h1]
    have short : ∀ s', s'.length = 60 → getNum b at_ = (0, 0, 10) → S F f76_1 (RQ [.t 4, .t 5, .t 6] (Is (.tup [vi .i64 (getNum b at_).1, vi .i64 (getNum b at_).2.1, vi .u16 (getNum b at_).2.2]) h)) (.goto 0) ⟨s', h⟩ := by
      intro s' hs' e
      rw [S_goto rfl, XF_eq f76_1.eq_1, XF_seq2 rfl, XF_seq2 rfl, XF_seq2 rfl, XF_seq2 rfl, XF_seq2 rfl, XF_seq1 rfl, XF_label]
      simp only [X_skip, X_seq, X_reg, X_block, X_scope, X_exit, X_goto, X_ret, X_label, XO_mv, XO_g, XG_tt, XG_tf, XG_ft, XG_ff, XO_bin, XO_cvI, XO_pick, XO_ext, XO_len, XO_mnmx, XD_mv, XD_g, XGD_tt, XGD_tf, XGD_ft, XGD_ff, XD_bin, XD_cvI, XD_pick, XD_ext, XD_len, XD_mnmx, XD_mksl, XD_iadL, XD_ld, XD_fad, XD_nil, XWD_some, XVD_same, XVD_k, XO_alloc, XO_st, XD_st, XO_box, XO_mkslo, XD_mkslo, XO_mrk, XD_mrk, mr_0, XO_build, st_0_2, st_0_3, st_l_2, st_l_3, ld_l_2, ld_l_3, ld_r_2, ld_r_3, ld_l_at, Nat.zero_add, bd_nil, bd_2, bd_3, XD_build, XO_fld, XD_fld, XO_cvBS, XD_cvBS, bs_sl, bs_nil, XO_cvSB, XD_cvSB, sb_txt, XO_slL, XD_slL, Option.map_some, Option.map_none, XO_mksl, XO_iadL, XO_ld, XO_fad, ld_rptr, fd_r, fd_p, fd_e, List.drop_zero, List.drop_succ_cons, mkParts_nil, mkParts_cons, mkO_1, mkO_2, mk_agg2, mk_agg3, src_sl, mmO_min, mmO_max, XW_some, XV_some, ln_nil, ln_sl, ln_own, ln_str, cvO_eq, pkO_t, pkO_f, exO_eq, evalO_t, evalO_c, putD_some, putD_none, slot_len, slot_eq, slot_ne, ne_eq, Nat.reduceLT, Nat.reduceEqDiff, not_false_eq_true, not_true_eq_false, reduceCtorEq, XO_nil, RQ_0, RQ_0n, RQ_1, RQ_2, RQ_3, K_norm, K_exit, K_goto, K_ret, K_pan, B_norm, B_exit, B_goto, B_ret, B_pan, S_norm, S_exit, S_ret, S_pan, X_cnd, XB_true, XB_false, bin_add, bin_sub, bin_mul, bin_and, bin_or, bin_shr, bin_shl, bin_quo, bin_rem, Int.reduceLT, Int.reduceEq, bin_eql, bin_neq, bin_lss, bin_leq, bin_gtr, bin_geq, bin_seql, bin_sneq, decide_true, decide_false, eq_self, if_true, if_false, List.getElem?_cons_zero, List.getElem?_cons_succ, hs', e]
      exact ⟨rfl, rfl⟩
    have wrong : ∀ s', s'.length = 60 → getNum b at_ = (0, 0, 11) → S F f76_1 (RQ [.t 4, .t 5, .t 6] (Is (.tup [vi .i64 (getNum b at_).1, vi .i64 (getNum b at_).2.1, vi .u16 (getNum b at_).2.2]) h)) (.goto 1) ⟨s', h⟩ := by
      intro s' hs' e
      rw [S_goto rfl, XF_eq f76_1.eq_1, XF_seq2 rfl, XF_seq2 rfl, XF_seq2 rfl, XF_seq1 rfl, XF_label]
      simp only [X_skip, X_seq, X_reg, X_block, X_scope, X_exit, X_goto, X_ret, X_label, XO_mv, XO_g, XG_tt, XG_tf, XG_ft, XG_ff, XO_bin, XO_cvI, XO_pick, XO_ext, XO_len, XO_mnmx, XD_mv, XD_g, XGD_tt, XGD_tf, XGD_ft, XGD_ff, XD_bin, XD_cvI, XD_pick, XD_ext, XD_len, XD_mnmx, XD_mksl, XD_iadL, XD_ld, XD_fad, XD_nil, XWD_some, XVD_same, XVD_k, XO_alloc, XO_st, XD_st, XO_box, XO_mkslo, XD_mkslo, XO_mrk, XD_mrk, mr_0, XO_build, st_0_2, st_0_3, st_l_2, st_l_3, ld_l_2, ld_l_3, ld_r_2, ld_r_3, ld_l_at, Nat.zero_add, bd_nil, bd_2, bd_3, XD_build, XO_fld, XD_fld, XO_cvBS, XD_cvBS, bs_sl, bs_nil, XO_cvSB, XD_cvSB, sb_txt, XO_slL, XD_slL, Option.map_some, Option.map_none, XO_mksl, XO_iadL, XO_ld, XO_fad, ld_rptr, fd_r, fd_p, fd_e, List.drop_zero, List.drop_succ_cons, mkParts_nil, mkParts_cons, mkO_1, mkO_2, mk_agg2, mk_agg3, src_sl, mmO_min, mmO_max, XW_some, XV_some, ln_nil, ln_sl, ln_own, ln_str, cvO_eq, pkO_t, pkO_f, exO_eq, evalO_t, evalO_c, putD_some, putD_none, slot_len, slot_eq, slot_ne, ne_eq, Nat.reduceLT, Nat.reduceEqDiff, not_false_eq_true, not_true_eq_false, reduceCtorEq, XO_nil, RQ_0, RQ_0n, RQ_1, RQ_2, RQ_3, K_norm, K_exit, K_goto, K_ret, K_pan, B_norm, B_exit, B_goto, B_ret, B_pan, S_norm, S_exit, S_ret, S_pan, X_cnd, XB_true, XB_false, bin_add, bin_sub, bin_mul, bin_and, bin_or, bin_shr, bin_shl, bin_quo, bin_rem, Int.reduceLT, Int.reduceEq, bin_eql, bin_neq, bin_lss, bin_leq, bin_gtr, bin_geq, bin_seql, bin_sneq, decide_true, decide_false, eq_self, if_true, if_false, List.getElem?_cons_zero, List.getElem?_cons_succ, hs', e]
      exact ⟨rfl, rfl⟩
    by_cases c1 : at_ < 0
    · simp only [X_skip, X_seq, X_reg, X_block, X_scope, X_exit, X_goto, X_ret, X_label, XO_mv, XO_g, XG_tt, XG_tf, XG_ft, XG_ff, XO_bin, XO_cvI, XO_pick, XO_ext, XO_len, XO_mnmx, XD_mv, XD_g, XGD_tt, XGD_tf, XGD_ft, XGD_ff, XD_bin, XD_cvI, XD_pick, XD_ext, XD_len, XD_mnmx, XD_mksl, XD_iadL, XD_ld, XD_fad, XD_nil, XWD_some, XVD_same, XVD_k, XO_alloc, XO_st, XD_st, XO_box, XO_mkslo, XD_mkslo, XO_mrk, XD_mrk, mr_0, XO_build, st_0_2, st_0_3, st_l_2, st_l_3, ld_l_2, ld_l_3, ld_r_2, ld_r_3, ld_l_at, Nat.zero_add, bd_nil, bd_2, bd_3, XD_build, XO_fld, XD_fld, XO_cvBS, XD_cvBS, bs_sl, bs_nil, XO_cvSB, XD_cvSB, sb_txt, XO_slL, XD_slL, Option.map_some, Option.map_none, XO_mksl, XO_iadL, XO_ld, XO_fad, ld_rptr, fd_r, fd_p, fd_e, List.drop_zero, List.drop_succ_cons, mkParts_nil, mkParts_cons, mkO_1, mkO_2, mk_agg2, mk_agg3, src_sl, mmO_min, mmO_max, XW_some, XV_some, ln_nil, ln_sl, ln_own, ln_str, cvO_eq, pkO_t, pkO_f, exO_eq, evalO_t, evalO_c, putD_some, putD_none, slot_len, slot_eq, slot_ne, ne_eq, Nat.reduceLT, Nat.reduceEqDiff, not_false_eq_true, not_true_eq_false, reduceCtorEq, XO_nil, RQ_0, RQ_0n, RQ_1, RQ_2, RQ_3, K_norm, K_exit, K_goto, K_ret, K_pan, B_norm, B_exit, B_goto, B_ret, B_pan, S_norm, S_exit, S_ret, S_pan, X_cnd, XB_true, XB_false, bin_add, bin_sub, bin_mul, bin_and, bin_or, bin_shr, bin_shl, bin_quo, bin_rem, Int.reduceLT, Int.reduceEq, bin_eql, bin_neq, bin_lss, bin_leq, bin_gtr, bin_geq, bin_seql, bin_sneq, decide_true, decide_false, eq_self, if_true, if_false, List.getElem?_cons_zero, List.getElem?_cons_succ, hs, h0, h1, eq_true c1]
      exact short _ (by simp only [slot_len, hs]) (by unfold getNum; rw [if_pos (.inl c1)])
    · by_cases c2 : (b.length : Int) < at_
      · simp only [X_skip, X_seq, X_reg, X_block, X_scope, X_exit, X_goto, X_ret, X_label, XO_mv, XO_g, XG_tt, XG_tf, XG_ft, XG_ff, XO_bin, XO_cvI, XO_pick, XO_ext, XO_len, XO_mnmx, XD_mv, XD_g, XGD_tt, XGD_tf, XGD_ft, XGD_ff, XD_bin, XD_cvI, XD_pick, XD_ext, XD_len, XD_mnmx, XD_mksl, XD_iadL, XD_ld, XD_fad, XD_nil, XWD_some, XVD_same, XVD_k, XO_alloc, XO_st, XD_st, XO_box, XO_mkslo, XD_mkslo, XO_mrk, XD_mrk, mr_0, XO_build, st_0_2, st_0_3, st_l_2, st_l_3, ld_l_2, ld_l_3, ld_r_2, ld_r_3, ld_l_at, Nat.zero_add, bd_nil, bd_2, bd_3, XD_build, XO_fld, XD_fld, XO_cvBS, XD_cvBS, bs_sl, bs_nil, XO_cvSB, XD_cvSB, sb_txt, XO_slL, XD_slL, Option.map_some, Option.map_none, XO_mksl, XO_iadL, XO_ld, XO_fad, ld_rptr, fd_r, fd_p, fd_e, List.drop_zero, List.drop_succ_cons, mkParts_nil, mkParts_cons, mkO_1, mkO_2, mk_agg2, mk_agg3, src_sl, mmO_min, mmO_max, XW_some, XV_some, ln_nil, ln_sl, ln_own, ln_str, cvO_eq, pkO_t, pkO_f, exO_eq, evalO_t, evalO_c, putD_some, putD_none, slot_len, slot_eq, slot_ne, ne_eq, Nat.reduceLT, Nat.reduceEqDiff, not_false_eq_true, not_true_eq_false, reduceCtorEq, XO_nil, RQ_0, RQ_0n, RQ_1, RQ_2, RQ_3, K_norm, K_exit, K_goto, K_ret, K_pan, B_norm, B_exit, B_goto, B_ret, B_pan, S_norm, S_exit, S_ret, S_pan, X_cnd, XB_true, XB_false, bin_add, bin_sub, bin_mul, bin_and, bin_or, bin_shr, bin_shl, bin_quo, bin_rem, Int.reduceLT, Int.reduceEq, bin_eql, bin_neq, bin_lss, bin_leq, bin_gtr, bin_geq, bin_seql, bin_sneq, decide_true, decide_false, eq_self, if_true, if_false, List.getElem?_cons_zero, List.getElem?_cons_succ, hs, h0, h1, c1, eB_len, hv.ln, eq_true c2]
        exact short _ (by simp only [slot_len, hs]) (by unfold getNum; rw [if_pos (.inr c2)])
      · simp only [X_skip, X_seq, X_reg, X_block, X_scope, X_exit, X_goto, X_ret, X_label, XO_mv, XO_g, XG_tt, XG_tf, XG_ft, XG_ff, XO_bin, XO_cvI, XO_pick, XO_ext, XO_len, XO_mnmx, XD_mv, XD_g, XGD_tt, XGD_tf, XGD_ft, XGD_ff, XD_bin, XD_cvI, XD_pick, XD_ext, XD_len, XD_mnmx, XD_mksl, XD_iadL, XD_ld, XD_fad, XD_nil, XWD_some, XVD_same, XVD_k, XO_alloc, XO_st, XD_st, XO_box, XO_mkslo, XD_mkslo, XO_mrk, XD_mrk, mr_0, XO_build, st_0_2, st_0_3, st_l_2, st_l_3, ld_l_2, ld_l_3, ld_r_2, ld_r_3, ld_l_at, Nat.zero_add, bd_nil, bd_2, bd_3, XD_build, XO_fld, XD_fld, XO_cvBS, XD_cvBS, bs_sl, bs_nil, XO_cvSB, XD_cvSB, sb_txt, XO_slL, XD_slL, Option.map_some, Option.map_none, XO_mksl, XO_iadL, XO_ld, XO_fad, ld_rptr, fd_r, fd_p, fd_e, List.drop_zero, List.drop_succ_cons, mkParts_nil, mkParts_cons, mkO_1, mkO_2, mk_agg2, mk_agg3, src_sl, mmO_min, mmO_max, XW_some, XV_some, ln_nil, ln_sl, ln_own, ln_str, cvO_eq, pkO_t, pkO_f, exO_eq, evalO_t, evalO_c, putD_some, putD_none, slot_len, slot_eq, slot_ne, ne_eq, Nat.reduceLT, Nat.reduceEqDiff, not_false_eq_true, not_true_eq_false, reduceCtorEq, XO_nil, RQ_0, RQ_0n, RQ_1, RQ_2, RQ_3, K_norm, K_exit, K_goto, K_ret, K_pan, B_norm, B_exit, B_goto, B_ret, B_pan, S_norm, S_exit, S_ret, S_pan, X_cnd, XB_true, XB_false, bin_add, bin_sub, bin_mul, bin_and, bin_or, bin_shr, bin_shl, bin_quo, bin_rem, Int.reduceLT, Int.reduceEq, bin_eql, bin_neq, bin_lss, bin_leq, bin_gtr, bin_geq, bin_seql, bin_sneq, decide_true, decide_false, eq_self, if_true, if_false, List.getElem?_cons_zero, List.getElem?_cons_succ, hs, h0, h1, c1, eB_len, hv.ln, c2]
        have eg : getNum b at_ = getN 8 (b.drop at_.toNat) at_.toNat 0 0 := by unfold getNum; rw [if_neg (by omega)]
        obtain ⟨a, rfl⟩ : ∃ a : Nat, at_ = Int.ofNat a := Int.eq_ofNat_of_zero_le (show 0 ≤ at_ by omega)
        have c2' : ¬ (b.length : Int) < (a : Int) := c2
        refine f76_loop b v hv a h _ (by omega) hb 8 0 0 _ rfl (by decide) ?_ ?_ ?_ ?_ ?_ (by omega) ?_
        · simp only [slot_len, hs]
        · simp only [X_skip, X_seq, X_reg, X_block, X_scope, X_exit, X_goto, X_ret, X_label, XO_mv, XO_g, XG_tt, XG_tf, XG_ft, XG_ff, XO_bin, XO_cvI, XO_pick, XO_ext, XO_len, XO_mnmx, XD_mv, XD_g, XGD_tt, XGD_tf, XGD_ft, XGD_ff, XD_bin, XD_cvI, XD_pick, XD_ext, XD_len, XD_mnmx, XD_mksl, XD_iadL, XD_ld, XD_fad, XD_nil, XWD_some, XVD_same, XVD_k, XO_alloc, XO_st, XD_st, XO_box, XO_mkslo, XD_mkslo, XO_mrk, XD_mrk, mr_0, XO_build, st_0_2, st_0_3, st_l_2, st_l_3, ld_l_2, ld_l_3, ld_r_2, ld_r_3, ld_l_at, Nat.zero_add, bd_nil, bd_2, bd_3, XD_build, XO_fld, XD_fld, XO_cvBS, XD_cvBS, bs_sl, bs_nil, XO_cvSB, XD_cvSB, sb_txt, XO_slL, XD_slL, Option.map_some, Option.map_none, XO_mksl, XO_iadL, XO_ld, XO_fad, ld_rptr, fd_r, fd_p, fd_e, List.drop_zero, List.drop_succ_cons, mkParts_nil, mkParts_cons, mkO_1, mkO_2, mk_agg2, mk_agg3, src_sl, mmO_min, mmO_max, XW_some, XV_some, ln_nil, ln_sl, ln_own, ln_str, cvO_eq, pkO_t, pkO_f, exO_eq, evalO_t, evalO_c, putD_some, putD_none, slot_len, slot_eq, slot_ne, ne_eq, Nat.reduceLT, Nat.reduceEqDiff, not_false_eq_true, not_true_eq_false, reduceCtorEq, XO_nil, RQ_0, RQ_0n, RQ_1, RQ_2, RQ_3, K_norm, K_exit, K_goto, K_ret, K_pan, B_norm, B_exit, B_goto, B_ret, B_pan, S_norm, S_exit, S_ret, S_pan, X_cnd, XB_true, XB_false, bin_add, bin_sub, bin_mul, bin_and, bin_or, bin_shr, bin_shl, bin_quo, bin_rem, Int.reduceLT, Int.reduceEq, bin_eql, bin_neq, bin_lss, bin_leq, bin_gtr, bin_geq, bin_seql, bin_sneq, decide_true, decide_false, eq_self, if_true, if_false, List.getElem?_cons_zero, List.getElem?_cons_succ, hs, h0]
        · simp only [X_skip, X_seq, X_reg, X_block, X_scope, X_exit, X_goto, X_ret, X_label, XO_mv, XO_g, XG_tt, XG_tf, XG_ft, XG_ff, XO_bin, XO_cvI, XO_pick, XO_ext, XO_len, XO_mnmx, XD_mv, XD_g, XGD_tt, XGD_tf, XGD_ft, XGD_ff, XD_bin, XD_cvI, XD_pick, XD_ext, XD_len, XD_mnmx, XD_mksl, XD_iadL, XD_ld, XD_fad, XD_nil, XWD_some, XVD_same, XVD_k, XO_alloc, XO_st, XD_st, XO_box, XO_mkslo, XD_mkslo, XO_mrk, XD_mrk, mr_0, XO_build, st_0_2, st_0_3, st_l_2, st_l_3, ld_l_2, ld_l_3, ld_r_2, ld_r_3, ld_l_at, Nat.zero_add, bd_nil, bd_2, bd_3, XD_build, XO_fld, XD_fld, XO_cvBS, XD_cvBS, bs_sl, bs_nil, XO_cvSB, XD_cvSB, sb_txt, XO_slL, XD_slL, Option.map_some, Option.map_none, XO_mksl, XO_iadL, XO_ld, XO_fad, ld_rptr, fd_r, fd_p, fd_e, List.drop_zero, List.drop_succ_cons, mkParts_nil, mkParts_cons, mkO_1, mkO_2, mk_agg2, mk_agg3, src_sl, mmO_min, mmO_max, XW_some, XV_some, ln_nil, ln_sl, ln_own, ln_str, cvO_eq, pkO_t, pkO_f, exO_eq, evalO_t, evalO_c, putD_some, putD_none, slot_len, slot_eq, slot_ne, ne_eq, Nat.reduceLT, Nat.reduceEqDiff, not_false_eq_true, not_true_eq_false, reduceCtorEq, XO_nil, RQ_0, RQ_0n, RQ_1, RQ_2, RQ_3, K_norm, K_exit, K_goto, K_ret, K_pan, B_norm, B_exit, B_goto, B_ret, B_pan, S_norm, S_exit, S_ret, S_pan, X_cnd, XB_true, XB_false, bin_add, bin_sub, bin_mul, bin_and, bin_or, bin_shr, bin_shl, bin_quo, bin_rem, Int.reduceLT, Int.reduceEq, bin_eql, bin_neq, bin_lss, bin_leq, bin_gtr, bin_geq, bin_seql, bin_sneq, decide_true, decide_false, eq_self, if_true, if_false, List.getElem?_cons_zero, List.getElem?_cons_succ, hs, h1]; rfl
        · simp only [X_skip, X_seq, X_reg, X_block, X_scope, X_exit, X_goto, X_ret, X_label, XO_mv, XO_g, XG_tt, XG_tf, XG_ft, XG_ff, XO_bin, XO_cvI, XO_pick, XO_ext, XO_len, XO_mnmx, XD_mv, XD_g, XGD_tt, XGD_tf, XGD_ft, XGD_ff, XD_bin, XD_cvI, XD_pick, XD_ext, XD_len, XD_mnmx, XD_mksl, XD_iadL, XD_ld, XD_fad, XD_nil, XWD_some, XVD_same, XVD_k, XO_alloc, XO_st, XD_st, XO_box, XO_mkslo, XD_mkslo, XO_mrk, XD_mrk, mr_0, XO_build, st_0_2, st_0_3, st_l_2, st_l_3, ld_l_2, ld_l_3, ld_r_2, ld_r_3, ld_l_at, Nat.zero_add, bd_nil, bd_2, bd_3, XD_build, XO_fld, XD_fld, XO_cvBS, XD_cvBS, bs_sl, bs_nil, XO_cvSB, XD_cvSB, sb_txt, XO_slL, XD_slL, Option.map_some, Option.map_none, XO_mksl, XO_iadL, XO_ld, XO_fad, ld_rptr, fd_r, fd_p, fd_e, List.drop_zero, List.drop_succ_cons, mkParts_nil, mkParts_cons, mkO_1, mkO_2, mk_agg2, mk_agg3, src_sl, mmO_min, mmO_max, XW_some, XV_some, ln_nil, ln_sl, ln_own, ln_str, cvO_eq, pkO_t, pkO_f, exO_eq, evalO_t, evalO_c, putD_some, putD_none, slot_len, slot_eq, slot_ne, ne_eq, Nat.reduceLT, Nat.reduceEqDiff, not_false_eq_true, not_true_eq_false, reduceCtorEq, XO_nil, RQ_0, RQ_0n, RQ_1, RQ_2, RQ_3, K_norm, K_exit, K_goto, K_ret, K_pan, B_norm, B_exit, B_goto, B_ret, B_pan, S_norm, S_exit, S_ret, S_pan, X_cnd, XB_true, XB_false, bin_add, bin_sub, bin_mul, bin_and, bin_or, bin_shr, bin_shl, bin_quo, bin_rem, Int.reduceLT, Int.reduceEq, bin_eql, bin_neq, bin_lss, bin_leq, bin_gtr, bin_geq, bin_seql, bin_sneq, decide_true, decide_false, eq_self, if_true, if_false, List.getElem?_cons_zero, List.getElem?_cons_succ, hs]; rfl
        · simp only [X_skip, X_seq, X_reg, X_block, X_scope, X_exit, X_goto, X_ret, X_label, XO_mv, XO_g, XG_tt, XG_tf, XG_ft, XG_ff, XO_bin, XO_cvI, XO_pick, XO_ext, XO_len, XO_mnmx, XD_mv, XD_g, XGD_tt, XGD_tf, XGD_ft, XGD_ff, XD_bin, XD_cvI, XD_pick, XD_ext, XD_len, XD_mnmx, XD_mksl, XD_iadL, XD_ld, XD_fad, XD_nil, XWD_some, XVD_same, XVD_k, XO_alloc, XO_st, XD_st, XO_box, XO_mkslo, XD_mkslo, XO_mrk, XD_mrk, mr_0, XO_build, st_0_2, st_0_3, st_l_2, st_l_3, ld_l_2, ld_l_3, ld_r_2, ld_r_3, ld_l_at, Nat.zero_add, bd_nil, bd_2, bd_3, XD_build, XO_fld, XD_fld, XO_cvBS, XD_cvBS, bs_sl, bs_nil, XO_cvSB, XD_cvSB, sb_txt, XO_slL, XD_slL, Option.map_some, Option.map_none, XO_mksl, XO_iadL, XO_ld, XO_fad, ld_rptr, fd_r, fd_p, fd_e, List.drop_zero, List.drop_succ_cons, mkParts_nil, mkParts_cons, mkO_1, mkO_2, mk_agg2, mk_agg3, src_sl, mmO_min, mmO_max, XW_some, XV_some, ln_nil, ln_sl, ln_own, ln_str, cvO_eq, pkO_t, pkO_f, exO_eq, evalO_t, evalO_c, putD_some, putD_none, slot_len, slot_eq, slot_ne, ne_eq, Nat.reduceLT, Nat.reduceEqDiff, not_false_eq_true, not_true_eq_false, reduceCtorEq, XO_nil, RQ_0, RQ_0n, RQ_1, RQ_2, RQ_3, K_norm, K_exit, K_goto, K_ret, K_pan, B_norm, B_exit, B_goto, B_ret, B_pan, S_norm, S_exit, S_ret, S_pan, X_cnd, XB_true, XB_false, bin_add, bin_sub, bin_mul, bin_and, bin_or, bin_shr, bin_shl, bin_quo, bin_rem, Int.reduceLT, Int.reduceEq, bin_eql, bin_neq, bin_lss, bin_leq, bin_gtr, bin_geq, bin_seql, bin_sneq, decide_true, decide_false, eq_self, if_true, if_false, List.getElem?_cons_zero, List.getElem?_cons_succ, hs]; rfl
        · intro o s' hs' hg
          rw [Nat.add_zero] at hg
          rw [show getN 8 (b.drop a) a 0 0 = getNum b (Int.ofNat a) from eg.symm] at hg
          rcases hg with ⟨e, rfl | rfl⟩ | ⟨e, rfl⟩ | ⟨m, j, e, rfl, a1, a2, a3⟩
          · simp only [X_skip, X_seq, X_reg, X_block, X_scope, X_exit, X_goto, X_ret, X_label, XO_mv, XO_g, XG_tt, XG_tf, XG_ft, XG_ff, XO_bin, XO_cvI, XO_pick, XO_ext, XO_len, XO_mnmx, XD_mv, XD_g, XGD_tt, XGD_tf, XGD_ft, XGD_ff, XD_bin, XD_cvI, XD_pick, XD_ext, XD_len, XD_mnmx, XD_mksl, XD_iadL, XD_ld, XD_fad, XD_nil, XWD_some, XVD_same, XVD_k, XO_alloc, XO_st, XD_st, XO_box, XO_mkslo, XD_mkslo, XO_mrk, XD_mrk, mr_0, XO_build, st_0_2, st_0_3, st_l_2, st_l_3, ld_l_2, ld_l_3, ld_r_2, ld_r_3, ld_l_at, Nat.zero_add, bd_nil, bd_2, bd_3, XD_build, XO_fld, XD_fld, XO_cvBS, XD_cvBS, bs_sl, bs_nil, XO_cvSB, XD_cvSB, sb_txt, XO_slL, XD_slL, Option.map_some, Option.map_none, XO_mksl, XO_iadL, XO_ld, XO_fad, ld_rptr, fd_r, fd_p, fd_e, List.drop_zero, List.drop_succ_cons, mkParts_nil, mkParts_cons, mkO_1, mkO_2, mk_agg2, mk_agg3, src_sl, mmO_min, mmO_max, XW_some, XV_some, ln_nil, ln_sl, ln_own, ln_str, cvO_eq, pkO_t, pkO_f, exO_eq, evalO_t, evalO_c, putD_some, putD_none, slot_len, slot_eq, slot_ne, ne_eq, Nat.reduceLT, Nat.reduceEqDiff, not_false_eq_true, not_true_eq_false, reduceCtorEq, XO_nil, RQ_0, RQ_0n, RQ_1, RQ_2, RQ_3, K_norm, K_exit, K_goto, K_ret, K_pan, B_norm, B_exit, B_goto, B_ret, B_pan, S_norm, S_exit, S_ret, S_pan, X_cnd, XB_true, XB_false, bin_add, bin_sub, bin_mul, bin_and, bin_or, bin_shr, bin_shl, bin_quo, bin_rem, Int.reduceLT, Int.reduceEq, bin_eql, bin_neq, bin_lss, bin_leq, bin_gtr, bin_geq, bin_seql, bin_sneq, decide_true, decide_false, eq_self, if_true, if_false, List.getElem?_cons_zero, List.getElem?_cons_succ, hs', e]
            exact ⟨rfl, rfl⟩
          · simp only [X_skip, X_seq, X_reg, X_block, X_scope, X_exit, X_goto, X_ret, X_label, XO_mv, XO_g, XG_tt, XG_tf, XG_ft, XG_ff, XO_bin, XO_cvI, XO_pick, XO_ext, XO_len, XO_mnmx, XD_mv, XD_g, XGD_tt, XGD_tf, XGD_ft, XGD_ff, XD_bin, XD_cvI, XD_pick, XD_ext, XD_len, XD_mnmx, XD_mksl, XD_iadL, XD_ld, XD_fad, XD_nil, XWD_some, XVD_same, XVD_k, XO_alloc, XO_st, XD_st, XO_box, XO_mkslo, XD_mkslo, XO_mrk, XD_mrk, mr_0, XO_build, st_0_2, st_0_3, st_l_2, st_l_3, ld_l_2, ld_l_3, ld_r_2, ld_r_3, ld_l_at, Nat.zero_add, bd_nil, bd_2, bd_3, XD_build, XO_fld, XD_fld, XO_cvBS, XD_cvBS, bs_sl, bs_nil, XO_cvSB, XD_cvSB, sb_txt, XO_slL, XD_slL, Option.map_some, Option.map_none, XO_mksl, XO_iadL, XO_ld, XO_fad, ld_rptr, fd_r, fd_p, fd_e, List.drop_zero, List.drop_succ_cons, mkParts_nil, mkParts_cons, mkO_1, mkO_2, mk_agg2, mk_agg3, src_sl, mmO_min, mmO_max, XW_some, XV_some, ln_nil, ln_sl, ln_own, ln_str, cvO_eq, pkO_t, pkO_f, exO_eq, evalO_t, evalO_c, putD_some, putD_none, slot_len, slot_eq, slot_ne, ne_eq, Nat.reduceLT, Nat.reduceEqDiff, not_false_eq_true, not_true_eq_false, reduceCtorEq, XO_nil, RQ_0, RQ_0n, RQ_1, RQ_2, RQ_3, K_norm, K_exit, K_goto, K_ret, K_pan, B_norm, B_exit, B_goto, B_ret, B_pan, S_norm, S_exit, S_ret, S_pan, X_cnd, XB_true, XB_false, bin_add, bin_sub, bin_mul, bin_and, bin_or, bin_shr, bin_shl, bin_quo, bin_rem, Int.reduceLT, Int.reduceEq, bin_eql, bin_neq, bin_lss, bin_leq, bin_gtr, bin_geq, bin_seql, bin_sneq, decide_true, decide_false, eq_self, if_true, if_false, List.getElem?_cons_zero, List.getElem?_cons_succ]
            exact wrong s' hs' e
          · simp only [X_skip, X_seq, X_reg, X_block, X_scope, X_exit, X_goto, X_ret, X_label, XO_mv, XO_g, XG_tt, XG_tf, XG_ft, XG_ff, XO_bin, XO_cvI, XO_pick, XO_ext, XO_len, XO_mnmx, XD_mv, XD_g, XGD_tt, XGD_tf, XGD_ft, XGD_ff, XD_bin, XD_cvI, XD_pick, XD_ext, XD_len, XD_mnmx, XD_mksl, XD_iadL, XD_ld, XD_fad, XD_nil, XWD_some, XVD_same, XVD_k, XO_alloc, XO_st, XD_st, XO_box, XO_mkslo, XD_mkslo, XO_mrk, XD_mrk, mr_0, XO_build, st_0_2, st_0_3, st_l_2, st_l_3, ld_l_2, ld_l_3, ld_r_2, ld_r_3, ld_l_at, Nat.zero_add, bd_nil, bd_2, bd_3, XD_build, XO_fld, XD_fld, XO_cvBS, XD_cvBS, bs_sl, bs_nil, XO_cvSB, XD_cvSB, sb_txt, XO_slL, XD_slL, Option.map_some, Option.map_none, XO_mksl, XO_iadL, XO_ld, XO_fad, ld_rptr, fd_r, fd_p, fd_e, List.drop_zero, List.drop_succ_cons, mkParts_nil, mkParts_cons, mkO_1, mkO_2, mk_agg2, mk_agg3, src_sl, mmO_min, mmO_max, XW_some, XV_some, ln_nil, ln_sl, ln_own, ln_str, cvO_eq, pkO_t, pkO_f, exO_eq, evalO_t, evalO_c, putD_some, putD_none, slot_len, slot_eq, slot_ne, ne_eq, Nat.reduceLT, Nat.reduceEqDiff, not_false_eq_true, not_true_eq_false, reduceCtorEq, XO_nil, RQ_0, RQ_0n, RQ_1, RQ_2, RQ_3, K_norm, K_exit, K_goto, K_ret, K_pan, B_norm, B_exit, B_goto, B_ret, B_pan, S_norm, S_exit, S_ret, S_pan, X_cnd, XB_true, XB_false, bin_add, bin_sub, bin_mul, bin_and, bin_or, bin_shr, bin_shl, bin_quo, bin_rem, Int.reduceLT, Int.reduceEq, bin_eql, bin_neq, bin_lss, bin_leq, bin_gtr, bin_geq, bin_seql, bin_sneq, decide_true, decide_false, eq_self, if_true, if_false, List.getElem?_cons_zero, List.getElem?_cons_succ]
            exact short s' hs' e
          · simp only [X_skip, X_seq, X_reg, X_block, X_scope, X_exit, X_goto, X_ret, X_label, XO_mv, XO_g, XG_tt, XG_tf, XG_ft, XG_ff, XO_bin, XO_cvI, XO_pick, XO_ext, XO_len, XO_mnmx, XD_mv, XD_g, XGD_tt, XGD_tf, XGD_ft, XGD_ff, XD_bin, XD_cvI, XD_pick, XD_ext, XD_len, XD_mnmx, XD_mksl, XD_iadL, XD_ld, XD_fad, XD_nil, XWD_some, XVD_same, XVD_k, XO_alloc, XO_st, XD_st, XO_box, XO_mkslo, XD_mkslo, XO_mrk, XD_mrk, mr_0, XO_build, st_0_2, st_0_3, st_l_2, st_l_3, ld_l_2, ld_l_3, ld_r_2, ld_r_3, ld_l_at, Nat.zero_add, bd_nil, bd_2, bd_3, XD_build, XO_fld, XD_fld, XO_cvBS, XD_cvBS, bs_sl, bs_nil, XO_cvSB, XD_cvSB, sb_txt, XO_slL, XD_slL, Option.map_some, Option.map_none, XO_mksl, XO_iadL, XO_ld, XO_fad, ld_rptr, fd_r, fd_p, fd_e, List.drop_zero, List.drop_succ_cons, mkParts_nil, mkParts_cons, mkO_1, mkO_2, mk_agg2, mk_agg3, src_sl, mmO_min, mmO_max, XW_some, XV_some, ln_nil, ln_sl, ln_own, ln_str, cvO_eq, pkO_t, pkO_f, exO_eq, evalO_t, evalO_c, putD_some, putD_none, slot_len, slot_eq, slot_ne, ne_eq, Nat.reduceLT, Nat.reduceEqDiff, not_false_eq_true, not_true_eq_false, reduceCtorEq, XO_nil, RQ_0, RQ_0n, RQ_1, RQ_2, RQ_3, K_norm, K_exit, K_goto, K_ret, K_pan, B_norm, B_exit, B_goto, B_ret, B_pan, S_norm, S_exit, S_ret, S_pan, X_cnd, XB_true, XB_false, bin_add, bin_sub, bin_mul, bin_and, bin_or, bin_shr, bin_shl, bin_quo, bin_rem, Int.reduceLT, Int.reduceEq, bin_eql, bin_neq, bin_lss, bin_leq, bin_gtr, bin_geq, bin_seql, bin_sneq, decide_true, decide_false, eq_self, if_true, if_false, List.getElem?_cons_zero, List.getElem?_cons_succ, hs', e, a1, a2, a3]
            exact ⟨rfl, rfl⟩

end Go.V07


set_option linter.unusedSimpArgs false
namespace Go.V07
open Go Go.Vm

theorem getN_bound : ∀ k r at_ i n, (getN k r at_ i n).1 ≤ 9007199254740992 ∧ ((getN k r at_ i n).2.2 = 0 → at_ + i < (getN k r at_ i n).2.1 ∧ (getN k r at_ i n).2.1 ≤ at_ + i + r.length) ∧ (getN k r at_ i n).2.2 ≤ 11
  | 0, _, _, _, _ => by simp [getN]
  | k + 1, [], _, _, _ => by simp [getN]
  | k + 1, c :: r, at_, i, n => by
    simp only [getN, List.length_cons]
    split
    · split
      · simp
      · refine ⟨by simp only; omega, fun _ => ⟨by simp only; omega, by simp only; omega⟩, by simp⟩
    · have := getN_bound k r at_ (i + 1) (n + c.toNat % 128 * 128 ^ i)
      refine ⟨this.1, fun e => ?_, this.2.2⟩
      have := this.2.1 e
      omega

theorem getNum_bound (b : List UInt8) (a : Int) : (getNum b a).1 ≤ 9007199254740992 ∧ ((getNum b a).2.2 = 0 → 0 ≤ a ∧ a < ((getNum b a).2.1 : Int) ∧ (getNum b a).2.1 ≤ b.length) ∧ (getNum b a).2.2 ≤ 11 := by
  unfold getNum
  split
  · simp
  · have := getN_bound 8 (b.drop a.toNat) a.toNat 0 0
    refine ⟨this.1, fun e => ?_, this.2.2⟩
    have := this.2.1 e
    rw [List.length_drop] at this
    omega

/-- A text, from its bytes. -/
def getText (b : List UInt8) (a most : Int) : List UInt8 × Nat × Nat :=
  if (getNum b a).2.2 ≠ 0 then ([], 0, (getNum b a).2.2) else
  if most < ((getNum b a).1 : Int) then ([], 0, 3) else
  if (b.length : Int) - ((getNum b a).2.1 : Int) < ((getNum b a).1 : Int) then ([], 0, 10) else
  ((b.drop (getNum b a).2.1).take (getNum b a).1, (getNum b a).2.1 + (getNum b a).1, 0)

theorem text_f77 (b : List UInt8) (v : VV) (hv : SlV 1 (eB b) v) (a most : Int) (h : Heap) (hb : b.length ≤ 1000000000) :
    call F 77 [v, vi .i64 a, vi .i64 most] h = some (.ret (.tup [txt (getText b a most).1, vi .i64 (getText b a most).2.1, vi .u16 (getText b a most).2.2]), h) := by
  refine call_P (fn := f77) rfl ?_
  simp only [f77]
  generalize hs0 : ([v, vi .i64 a, vi .i64 most] ++ List.replicate _ VV.undef : List VV) = s
  have hs : s.length = 44 := by rw [← hs0]; rfl
  have h0 : s.getD 0 .undef = v := by rw [← hs0]; rfl
  have h1 : s.getD 1 .undef = vi .i64 a := by rw [← hs0]; rfl
  have h2 : s.getD 2 .undef = vi .i64 most := by rw [← hs0]; rfl
  clear hs0
  simp only [go_sem, Nat.reduceLT, Nat.reduceEqDiff, reduceCtorEq, Int.reduceLT, Int.reduceEq, hs, h0, h1, h2]
  refine XO_callP (by simp only [List.map, go_sem, Nat.reduceLT, Nat.reduceEqDiff, reduceCtorEq, Int.reduceLT, Int.reduceEq, hs]; exact hv.clos (clos_cv clos_nil)) (num_f76 b v hv a [] hb) rfl ?_
  have hbd := getNum_bound b a
  unfold getText
  generalize getNum b a = x at hbd ⊢
  obtain ⟨n, j, e⟩ := x
  simp only [go_sem, Nat.reduceLT, Nat.reduceEqDiff, reduceCtorEq, Int.reduceLT, Int.reduceEq, hs, h0, h1, h2] at hbd ⊢
  by_cases c1 : (e : Int) = 0
  · have c1' : e = 0 := by omega
    subst c1'
    have hb1 := hbd.2.1 rfl
    have e1 : IntKind.i64.wrap ((b.length : Int) - (j : Int)) = (b.length : Int) - (j : Int) := IntWalk.i64_in _ (by omega)
    by_cases c2 : most < (n : Int)
    · simp only [go_sem, Nat.reduceLT, Nat.reduceEqDiff, reduceCtorEq, Int.reduceLT, Int.reduceEq, hs, h0, h1, h2, eq_true c1, c2]
      exact Is.refl _ _
    · by_cases c3 : (b.length : Int) - (j : Int) < (n : Int)
      · simp only [go_sem, Nat.reduceLT, Nat.reduceEqDiff, reduceCtorEq, Int.reduceLT, Int.reduceEq, hs, h0, h1, h2, eq_true c1, c2, eB_len, hv.ln, e1, c3]
        exact Is.refl _ _
      · have e2 : IntKind.i64.wrap ((j : Int) + (n : Int)) = ((j + n : Nat) : Int) := by rw [IntWalk.i64_in _ (by omega)]; omega
        simp only [go_sem, Nat.reduceLT, Nat.reduceEqDiff, reduceCtorEq, Int.reduceLT, Int.reduceEq, hs, h0, h1, h2, eq_true c1, c2, eB_len, hv.ln, e1, e2, c3]
        obtain ⟨v', hv', e3⟩ := hv.part (h := h) (k := .i64) (k' := .i64) (a := (j : Int)) (b := ((j + n : Nat) : Int)) (by omega) (by omega) (by rw [eB_len]; omega)
        rw [eB_part] at hv'
        have e4 : (((j + n : Nat) : Int).toNat - (j : Int).toNat) = n := by omega
        rw [e4] at hv'
        rw [e3]
        simp only [go_sem, Nat.reduceLT, Nat.reduceEqDiff, reduceCtorEq, Int.reduceLT, Int.reduceEq, hs, e2, hv'.bs]
        exact Is.refl _ _
  · have c1' : ¬ e = 0 := by omega
    simp only [go_sem, Nat.reduceLT, Nat.reduceEqDiff, reduceCtorEq, Int.reduceLT, Int.reduceEq, hs, h0, h1, h2, c1, c1']
    exact Is.refl _ _

def rowC (k v : List UInt8) : List CV := [.sc (.string ⟨k.toArray⟩), .sl 1 (eB v) false]

theorem clos_tup3 {h : Heap} {c1 c2 c3 : CV} : closRes h (.tup [.cv c1, .cv c2, .cv c3]) = some (.tup [.cv c1, .cv c2, .cv c3]) := rfl

def ValIs (v : VV) (v' : VV) (_ : Heap) : Prop := v' = v

end Go.V07


set_option linter.unusedSimpArgs false
namespace Go.V07
open Go Go.Vm

/-- So many, each by 'get'. -/
def wholeF (get : Int → List CV × Nat × Nat) : Nat → Nat → List (List CV) → List (List CV) × Nat × Nat
  | 0, a, out => (out, a, 0)
  | n + 1, a, out => if (get a).2.2 ≠ 0 then (out, (get a).2.1, (get a).2.2) else wholeF get n (get a).2.1 (out ++ [(get a).1])

/-- What there is of all bytes: the elements; the error. -/
def wholeB (get : Int → List CV × Nat × Nat) (b : List UInt8) : List (List CV) × Nat :=
  let x := getNum b 0
  if x.2.2 ≠ 0 then ([], x.2.2) else
  if 5000 < x.1 then ([], 3) else
  let y := wholeF get x.1 x.2.1 []
  if y.2.2 ≠ 0 then ([], y.2.2) else
  if y.2.1 < b.length then ([], 11) else (y.1, 0)

theorem clos_slV {h : Heap} {z : Nat} {els : List (List CV)} {v : VV} {c : CV} (hb : BufG h z els v) : closRes h (.tup [v, .cv c]) = some (.tup [slV z els, .cv c]) := by
  obtain ⟨h1, e⟩ := hb.slV
  simp only [closRes, closAs, e]
  rfl

end Go.V07


set_option linter.unusedSimpArgs false
namespace Go.V07
open Go Go.Vm

/-- An element that is a row. -/
def rowE (e : List CV) (p : List UInt8 × List UInt8) : Prop := ∃ c, e = [.sc (.string ⟨p.1.toArray⟩), c] ∧ SlV 1 (eB p.2) (.cv c)
inductive RowsE : List (List CV) → List (List UInt8 × List UInt8) → Prop
  | nil : RowsE [] []
  | cons {e : List CV} {p : List UInt8 × List UInt8} {l : List (List CV)} {k : List (List UInt8 × List UInt8)} (h : rowE e p) (t : RowsE l k) : RowsE (e :: l) (p :: k)
theorem RowsE.len {l : List (List CV)} {k : List (List UInt8 × List UInt8)} (h : RowsE l k) : l.length = k.length := by
  induction h with
  | nil => rfl
  | cons _ _ ih => simp [ih]

def rowB (p : List UInt8 × List UInt8) : List UInt8 := text p.1 ++ text p.2
theorem numF_ne (k n : Nat) : numF k n ≠ [] := by
  cases k with
  | zero => simp [numF]
  | succ k => simp only [numF]; split <;> simp
theorem text_ne (l : List UInt8) : eB (text l) ≠ [] := by
  unfold text num
  simp [eB, numF_ne]
theorem text_len (l : List UInt8) : l.length ≤ (text l).length := by simp [text]

theorem text_pure (l : List UInt8) (hl : l.length ≤ 1000000000) : ∃ v h', call F 58 [txt l] [] = some (.ret v, h') ∧ closRes h' v = some (.cv (.sl 1 (eB (text l)) false)) := by
  obtain ⟨v, h', h1, h2⟩ := text_f58 l [] hl
  exact ⟨v, h', h1, h2.res (text_ne l)⟩
end Go.V07


set_option linter.unusedSimpArgs false
namespace Go.V07
open Go Go.Vm

end Go.V07


set_option linter.unusedSimpArgs false
namespace Go.V07
open Go Go.Vm

/-! ### numbers' bytes -/

theorem u8_toNat (n : Nat) (h : n < 256) : (u8 n).toNat = n := by
  unfold u8
  rw [UInt8.toNat_ofNat']
  exact Nat.mod_eq_of_lt h
theorem numF_len : ∀ k j n, n < 128 ^ (j + 1) → (numF k n).length ≤ j + 1
  | 0, j, n, h => by simp [numF]
  | k + 1, 0, n, h => by
    have : ¬ 127 < n := by omega
    simp only [numF, if_neg this]
    simp
  | k + 1, j + 1, n, h => by
    rw [Nat.pow_succ] at h
    simp only [numF]
    split
    · have := numF_len k j (n / 128) (by omega)
      simp only [List.length_cons]; omega
    · simp

theorem clamp_le (n : Int) : clamp n ≤ 9007199254740992 := by unfold clamp; omega
theorem clamp_of (n : Nat) (h : n ≤ 9007199254740992) : clamp n = n := by unfold clamp; omega
theorem pow9 : (128 : Nat) ^ (8 + 1) = 9223372036854775808 := by decide
theorem pow8 : (128 : Nat) ^ (7 + 1) = 72057594037927936 := by decide
theorem num_len (n : Int) : (num (clamp n)).length ≤ 8 := numF_len 8 7 _ (by rw [pow8]; have := clamp_le n; omega)
end Go.V07


namespace Go.V07
open Go Go.Vm

end Go.V07


set_option linter.unusedSimpArgs false
namespace Go.V07
open Go Go.Vm

/-! ### a number's bytes, and the way back -/

theorem getN_numF : ∀ j k n r at_ i acc, n < 128 ^ (j + 1) → (numF j n).length ≤ k → (0 < n ∨ i = 0) → acc + n * 128 ^ i ≤ 9007199254740992 →
    getN k (numF j n ++ r) at_ i acc = (acc + n * 128 ^ i, at_ + i + (numF j n).length, 0)
  | 0, 0, n, r, at_, i, acc, hn, hk, h0, hm => by simp [numF] at hk
  | 0, k + 1, n, r, at_, i, acc, hn, hk, h0, hm => by
    have hn' : n < 128 := by omega
    simp only [numF, List.cons_append, List.nil_append, getN, u8_toNat n (by omega), Nat.mod_eq_of_lt hn', hn', if_true]
    rw [if_neg (by omega)]
    rfl
  | j + 1, 0, n, r, at_, i, acc, hn, hk, h0, hm => by
    simp only [numF] at hk
    split at hk <;> simp at hk
  | j + 1, k + 1, n, r, at_, i, acc, hn, hk, h0, hm => by
    rw [Nat.pow_succ] at hn
    simp only [numF] at hk ⊢
    by_cases h : 127 < n
    · rw [if_pos h] at hk ⊢
      simp only [List.length_cons] at hk ⊢
      have e : acc + n % 128 * 128 ^ i + n / 128 * 128 ^ (i + 1) = acc + n * 128 ^ i := by
        have : n * 128 ^ i = (n % 128 + 128 * (n / 128)) * 128 ^ i := by rw [Nat.mod_add_div]
        rw [this, Nat.add_mul, Nat.pow_succ, Nat.add_assoc]
        congr 2
        rw [Nat.mul_comm (128 ^ i) 128, ← Nat.mul_assoc, Nat.mul_comm 128 (n / 128)]
      simp only [List.cons_append, getN, u8_toNat (128 + n % 128) (by omega)]
      rw [if_neg (by omega), show (128 + n % 128) % 128 = n % 128 by omega]
      rw [getN_numF j k (n / 128) r at_ (i + 1) (acc + n % 128 * 128 ^ i) (by omega) (by omega) (.inl (by omega)) (by rw [e]; exact hm), e]
      rw [show at_ + (i + 1) + (numF j (n / 128)).length = at_ + i + ((numF j (n / 128)).length + 1) by omega]
    · rw [if_neg h]
      have hn' : n < 128 := by omega
      simp only [List.cons_append, List.nil_append, getN, u8_toNat n (by omega), Nat.mod_eq_of_lt hn', hn', if_true]
      rw [if_neg (by omega)]
      rfl

/-- A number, wherever it stands. -/
theorem getNum_num (a r : List UInt8) (n : Nat) (h : n ≤ 9007199254740992) : getNum (a ++ num n ++ r) a.length = (n, a.length + (num n).length, 0) := by
  have hl := num_len n
  rw [clamp_of n h] at hl
  unfold getNum
  rw [if_neg (by simp only [List.length_append]; omega)]
  have : ((a.length : Int)).toNat = a.length := rfl
  rw [this, List.append_assoc, List.drop_left]
  unfold num at hl ⊢
  rw [getN_numF 8 8 n r a.length 0 0 (by rw [pow9]; omega) hl (.inr rfl) (by omega)]
  simp

/-- A text, wherever it stands. -/
theorem getText_text (a r l : List UInt8) (most : Int) (hl : l.length ≤ 1000000000) : getText (a ++ text l ++ r) a.length most = if most < (l.length : Int) then ([], 0, 3) else (l, a.length + (text l).length, 0) := by
  have h1 : clamp (l.length : Int) = l.length := clamp_of _ (by omega)
  have e : getNum (a ++ text l ++ r) a.length = (l.length, a.length + (num l.length).length, 0) := by
    unfold text
    rw [h1]
    have := getNum_num a (l ++ r) l.length (by omega)
    simpa [List.append_assoc] using this
  unfold getText
  rw [e]
  simp only [ne_eq, not_true_eq_false, if_false]
  split
  · rfl
  · have hb : ((a ++ text l ++ r).length : Int) - ((a.length + (num l.length).length : Nat) : Int) = ((l.length + r.length : Nat) : Int) := by
      unfold text
      rw [h1]
      simp only [List.length_append]
      omega
    rw [if_neg (by rw [hb]; omega)]
    congr 1
    · unfold text
      rw [h1]
      have : a ++ (num l.length ++ l) ++ r = (a ++ num l.length) ++ (l ++ r) := by simp
      rw [this, show a.length + (num l.length).length = (a ++ num l.length).length by simp, List.drop_left, List.take_left]
    · congr 1
      unfold text
      rw [h1]
      simp only [List.length_append]; omega

end Go.V07


set_option linter.unusedSimpArgs false
namespace Go.V07
open Go Go.Vm

theorem eB_ne {l : List UInt8} : eB l ≠ [] ↔ l ≠ [] := by cases l <;> simp [eB]
theorem eB_drop {l : List UInt8} {n : Nat} : (eB l).drop n = eB (l.drop n) := by simp [eB, List.map_drop]
theorem num_ne (n : Nat) : num n ≠ [] := numF_ne 8 n
end Go.V07


set_option linter.unusedSimpArgs false
namespace Go.V07
open Go Go.Vm

/-! ### rows of choices -/

def rowK (x : UInt8) : List UInt8 := [u8 (97 + x.toNat % 16), u8 (97 + x.toNat / 16 % 4)]
def valF (y : UInt8) (n : Nat) : List UInt8 := (List.range n).map fun j => u8 ((y.toNat + j) % 256)
def rowV (x y : UInt8) : List UInt8 := valF y (if 230 < x.toNat then 100 + y.toNat % 50 else y.toNat % 40)
def rowL : Nat → List UInt8 → List (List UInt8 × List UInt8)
  | n + 1, x :: y :: r => (rowK x, rowV x y) :: rowL n r
  | _, _ => []

theorem valF_len (y : UInt8) (n : Nat) : (valF y n).length = n := by simp [valF]
theorem rowV_len (x y : UInt8) : (rowV x y).length ≤ 149 := by
  unfold rowV
  rw [valF_len]
  split <;> omega
theorem rowL_len : ∀ n c, (rowL n c).length ≤ n
  | 0, _ => by simp [rowL]
  | n + 1, [] => by simp [rowL]
  | n + 1, [_] => by simp [rowL]
  | n + 1, x :: y :: r => by simp only [rowL, List.length_cons]; have := rowL_len n r; omega

theorem wrap_u8_nat (n : Nat) : IntKind.u8.wrap (n : Int) = ((n % 256 : Nat) : Int) := by
  rw [IntKind.wrap_u8]; omega

theorem f27_fill (c : List UInt8) (vc : VV) (hc : SlV 1 (eB c) vc) (i : Nat) (y : UInt8) (hy : c[i + 1]? = some y) (hi : i ≤ 200) (h0 : Heap) : ∀ (d k : Nat) (vl : List UInt8) (s : List VV) (Q : Pst),
    vl.length = k + d → vl.length ≤ 200 → (∀ j, j < k → vl[j]? = some (u8 ((y.toNat + j) % 256))) → s.length = 82 → s.getD 0 .undef = vc → s.getD 6 .undef = vi .i64 i → s.getD 7 .undef = .own h0.length 0 0 vl.length true → s.getD 8 .undef = vi .i64 k →
    (∀ s', s'.length = 82 → (∀ j, j < 8 → s'.getD j .undef = s.getD j .undef) → Q (.exit 2) ⟨s', h0 ++ [.arr 1 (eB (valF y vl.length)) 0 false]⟩) →
    X F (.loop f27_0) ⟨s, h0 ++ [.arr 1 (eB vl) 0 false]⟩ Q := by
  intro d
  induction d with
  | zero =>
    intro k vl s Q hl hl2 hv hs h_0 h6 h7 h8 hQ
    rw [X_loop, X_eq f27_0.eq_1]
    have hlt : ¬ (k : Int) < (vl.length : Int) := by omega
    simp only [go_sem, Nat.reduceLT, Nat.reduceEqDiff, reduceCtorEq, Int.reduceLT, Int.reduceEq, hs, h7, h8, hlt]
    have e : vl = valF y vl.length := by
      apply List.ext_getElem?
      intro j
      by_cases hj : j < k
      · rw [hv j hj]
        unfold valF
        rw [List.getElem?_map, List.getElem?_range (by omega)]
        rfl
      · rw [List.getElem?_eq_none (by omega), List.getElem?_eq_none (by rw [valF_len]; omega)]
    rw [← e] at hQ
    refine hQ _ (by simp only [slot_len, hs]) (fun j hj => ?_)
    have : ∀ m, 8 ≤ m → m ≠ j := by omega
    rw [slot_ne (this _ (by decide)), slot_ne (this _ (by decide)), slot_ne (this _ (by decide)), slot_ne (this _ (by decide))]
  | succ d ih =>
    intro k vl s Q hl hl2 hv hs h_0 h6 h7 h8 hQ
    rw [X_loop, X_eq f27_0.eq_1]
    have hlt : (k : Int) < (vl.length : Int) := by omega
    have e1 : IntKind.i64.wrap ((i : Int) + 1) = ((i + 1 : Nat) : Int) := by rw [IntWalk.i64_in _ (by omega)]; omega
    have e2 : IntKind.i64.wrap ((k : Int) + 1) = ((k + 1 : Nat) : Int) := by rw [IntWalk.i64_in _ (by omega)]; omega
    simp only [go_sem, Nat.reduceLT, Nat.reduceEqDiff, reduceCtorEq, Int.reduceLT, Int.reduceEq, hs, h_0, h6, h7, h8, hlt, e1, e2]
    rw [hc.ia (e := byteCell y) (by omega) (by exact eB_get hy)]
    have e3 : IntKind.u8.wrap ((y.toNat : Int) + IntKind.u8.wrap (k : Int)) = (((u8 ((y.toNat + k) % 256)).toNat : Nat) : Int) := by
      rw [u8_toNat _ (by omega), wrap_u8_nat, ← Int.natCast_add, wrap_u8_nat]; omega
    simp only [go_sem, Nat.reduceLT, Nat.reduceEqDiff, reduceCtorEq, Int.reduceLT, Int.reduceEq, hs, h_0, h6, h7, h8, byteCell, e3]
    rw [ia_last (by omega)]
    simp only [go_sem, Nat.reduceLT, Nat.reduceEqDiff, reduceCtorEq, Int.reduceLT, Int.reduceEq, hs, h_0, h6, h7, h8, byteCell, e3]
    rw [st_last (by omega)]
    simp only [go_sem, Nat.reduceLT, Nat.reduceEqDiff, reduceCtorEq, Int.reduceLT, Int.reduceEq, hs, h_0, h6, h7, h8, e2]
    have hl3 : (vl.set k (u8 ((y.toNat + k) % 256))).length = vl.length := List.length_set
    rw [← hl3] at hQ
    refine ih (k + 1) _ _ Q (by rw [hl3]; omega) (by rw [hl3]; omega) ?_ (by simp only [slot_len, hs]) (by simp only [go_sem, Nat.reduceLT, Nat.reduceEqDiff, reduceCtorEq, Int.reduceLT, Int.reduceEq, h_0]) (by simp only [go_sem, Nat.reduceLT, Nat.reduceEqDiff, reduceCtorEq, Int.reduceLT, Int.reduceEq, h6]) (by simp only [go_sem, Nat.reduceLT, Nat.reduceEqDiff, reduceCtorEq, Int.reduceLT, Int.reduceEq, h7, hl3]) (by simp only [go_sem, Nat.reduceLT, Nat.reduceEqDiff, reduceCtorEq, Int.reduceLT, Int.reduceEq, hs]) ?_
    · intro j hj
      by_cases hjk : j = k
      · subst hjk
        rw [List.getElem?_set_self (by omega)]
      · rw [List.getElem?_set_ne (by omega)]
        exact hv j (by omega)
    · intro s' hs' hj'
      refine hQ s' hs' (fun j hj => ?_)
      rw [hj' j hj]
      have : ∀ m, 8 ≤ m → m ≠ j := by omega
      simp only [slot_ne (this _ (by decide : 8 ≤ 44)), slot_ne (this _ (by decide : 8 ≤ 45)), slot_ne (this _ (by decide : 8 ≤ 46)), slot_ne (this _ (by decide : 8 ≤ 47)), slot_ne (this _ (by decide : 8 ≤ 48)), slot_ne (this _ (by decide : 8 ≤ 49)), slot_ne (this _ (by decide : 8 ≤ 50)), slot_ne (this _ (by decide : 8 ≤ 51)),
        slot_ne (this _ (by decide : 8 ≤ 52)), slot_ne (this _ (by decide : 8 ≤ 53)), slot_ne (this _ (by decide : 8 ≤ 54)), slot_ne (this _ (by decide : 8 ≤ 55)), slot_ne (this _ (by decide : 8 ≤ 56)), slot_ne (this _ (by decide : 8 ≤ 57)), slot_ne (this _ (by decide : 8 ≤ 58)), slot_ne (this _ (by decide : 8 ≤ 59)), slot_ne (this _ (by decide : 8 ≤ 60)), slot_ne (this _ (by decide : 8 ≤ 8))]

end Go.V07


set_option linter.unusedSimpArgs false
namespace Go.V07
open Go Go.Vm

theorem RowsE.snoc {l : List (List CV)} {k : List (List UInt8 × List UInt8)} (h : RowsE l k) {e : List CV} {p : List UInt8 × List UInt8} (hp : rowE e p) : RowsE (l ++ [e]) (k ++ [p]) := by
  induction h with
  | nil => exact .cons hp .nil
  | cons h _ ih => exact .cons h ih

theorem bd_co {a b : VV} {u : CV} {i g o l : Nat} {e : Bool} : bdO [a, b] [(0, 1, .cv u), (1, 1, .own i g o l e)] = some (.agg [.cv u, .own i g o l e]) := rfl
theorem mko_agg2_own {hh : Heap} {z0 z1 : VV} {u : CV} {els : List (List CV)} {n : Nat} (hn : els.length = n) :
    mkoO (hh ++ [.arr 1 els 0 false]) 2 1 [z0, z1] [(0, 2, .agg [.cv u, .own hh.length 0 0 n true])] = some (.own (hh ++ [VO.arr 1 els 0 true]).length 0 0 1 true, hh ++ [.arr 1 els 0 true] ++ [.arr 2 [[u, .sl 1 els true]] 0 false]) := by
  have e1 : fill [z0, z1] [(0, 2, .agg [.cv u, .own hh.length 0 0 n true])] = some [.cv u, .own hh.length 0 0 n true] := rfl
  have e2 : closL (hh ++ [.arr 1 els 0 false]) [.cv u, .own hh.length 0 0 n true] = some ([u, .sl 1 els true], hh ++ [.arr 1 els 0 true]) := by
    have e3 : ∀ (h : Heap) (c : CV), clos h (.cv c) = some (c, h) := fun _ _ => rfl
    simp only [closL, e3, clos_last hn]
  simp only [mkoO, e1, e2]
  rfl
theorem src_last2 {hh : Heap} {e : List CV} : srcOf (hh ++ [.arr 2 [e] 0 false]) 2 (.own hh.length 0 0 1 true) = some [e] := by
  simp [srcOf, elsOf]

theorem f27_loop (c : List UInt8) (vc : VV) (hc : SlV 1 (eB c) vc) (n : Nat) (hn : n ≤ 60) : ∀ (m i : Nat) (els : List (List CV)) (kv : List (List UInt8 × List UInt8)) (h : Heap) (v : VV) (s : List VV) (Q : Pst),
    i + 2 * m = 2 * n → els.length + m ≤ n → RowsE els kv → BufG h 2 els v → s.length = 82 → s.getD 0 .undef = vc → s.getD 1 .undef = vi .i64 n → s.getD 5 .undef = v → s.getD 6 .undef = vi .i64 i →
    (∀ s' h' v' els', s'.length = 82 → s'.getD 5 .undef = v' → BufG h' 2 els' v' → RowsE els' (kv ++ rowL m (c.drop i)) → Q (.exit 0) ⟨s', h'⟩) →
    X F (.loop f27_1) ⟨s, h⟩ Q := by
  intro m
  induction m with
  | zero =>
    intro i els kv h v s Q him hel hR hb hs h0 h1 h5 h6 hQ
    rw [X_loop, X_eq f27_1.eq_1]
    have e1 : IntKind.i64.wrap ((i : Int) + 1) = ((i + 1 : Nat) : Int) := by rw [IntWalk.i64_in _ (by omega)]; omega
    have e2 : IntKind.i64.wrap (2 * (n : Int)) = ((2 * n : Nat) : Int) := by rw [IntWalk.i64_in _ (by omega)]; omega
    have hlt : ¬ (i : Int) < ((2 * n : Nat) : Int) := by omega
    have fin : ∀ s', s'.length = 82 → s'.getD 5 .undef = v → Q (.exit 0) ⟨s', h⟩ := by
      intro s' hs' h5'
      refine hQ s' h v els hs' h5' hb ?_
      simp only [rowL, List.append_nil]; exact hR
    by_cases hl : ((i + 1 : Nat) : Int) < (c.length : Int)
    · simp only [go_sem, Nat.reduceLT, Nat.reduceEqDiff, reduceCtorEq, Int.reduceLT, Int.reduceEq, hs, h0, h1, h5, h6, e1, e2, hc.ln, eB_len, hl, hlt]
      exact fin _ (by simp only [slot_len, hs]) (by simp only [go_sem, Nat.reduceLT, Nat.reduceEqDiff, reduceCtorEq, Int.reduceLT, Int.reduceEq, h5])
    · simp only [go_sem, Nat.reduceLT, Nat.reduceEqDiff, reduceCtorEq, Int.reduceLT, Int.reduceEq, hs, h0, h1, h5, h6, e1, e2, hc.ln, eB_len, hl, hlt]
      exact fin _ (by simp only [slot_len, hs]) (by simp only [go_sem, Nat.reduceLT, Nat.reduceEqDiff, reduceCtorEq, Int.reduceLT, Int.reduceEq, h5])
  | succ m ih =>
    intro i els kv h v s Q him hel hR hb hs h0 h1 h5 h6 hQ
    rw [X_loop, X_eq f27_1.eq_1]
    have e1 : IntKind.i64.wrap ((i : Int) + 1) = ((i + 1 : Nat) : Int) := by rw [IntWalk.i64_in _ (by omega)]; omega
    have e2 : IntKind.i64.wrap (2 * (n : Int)) = ((2 * n : Nat) : Int) := by rw [IntWalk.i64_in _ (by omega)]; omega
    have e3 : IntKind.i64.wrap ((i : Int) + 2) = ((i + 2 : Nat) : Int) := by rw [IntWalk.i64_in _ (by omega)]; omega
    have hlt : (i : Int) < ((2 * n : Nat) : Int) := by omega
    by_cases hl : ((i + 1 : Nat) : Int) < (c.length : Int)
    · have hi1 : i + 1 < c.length := by omega
      obtain ⟨x, hx⟩ : ∃ x, c[i]? = some x := ⟨_, List.getElem?_eq_getElem (by omega)⟩
      obtain ⟨y, hy⟩ : ∃ y, c[i + 1]? = some y := ⟨_, List.getElem?_eq_getElem hi1⟩
      have hd : c.drop i = x :: y :: c.drop (i + 2) := by
        rw [List.drop_eq_getElem_cons (by omega), List.drop_eq_getElem_cons (by omega)]
        rw [List.getElem?_eq_getElem (by omega)] at hx hy
        cases hx; cases hy; rfl
      have hx256 := x.toNat_lt
      have hy256 := y.toNat_lt
      simp only [go_sem, Nat.reduceLT, Nat.reduceEqDiff, reduceCtorEq, Int.reduceLT, Int.reduceEq, hs, h0, h1, h5, h6, e1, e2, hc.ln, eB_len, hl, hlt]
      have iy : ∀ h : Heap, iaO h 1 vc (vi .i64 ((i + 1 : Nat) : Int)) = some (.rptr (byteCell y), h) := fun h => hc.ia (by omega) (by exact eB_get hy)
      have ix : ∀ h : Heap, iaO h 1 vc (vi .i64 (i : Int)) = some (.rptr (byteCell x), h) := fun h => hc.ia (by omega) (by exact eB_get hx)
      have m40 : IntKind.i64.wrap ((y.toNat : Int).tmod 40) = ((y.toNat % 40 : Nat) : Int) := by
        rw [Int.tmod_eq_emod_of_nonneg (by omega), IntWalk.i64_in _ (by omega)]; omega
      have m50 : IntKind.i64.wrap (100 + IntKind.i64.wrap ((y.toNat : Int).tmod 50)) = ((100 + y.toNat % 50 : Nat) : Int) := by
        have : IntKind.i64.wrap ((y.toNat : Int).tmod 50) = ((y.toNat % 50 : Nat) : Int) := by
          rw [Int.tmod_eq_emod_of_nonneg (by omega), IntWalk.i64_in _ (by omega)]; omega
        rw [this, IntWalk.i64_in _ (by omega)]; omega
      simp only [go_sem, Nat.reduceLT, Nat.reduceEqDiff, reduceCtorEq, Int.reduceLT, Int.reduceEq, hs, h0, h1, h5, h6, e1, iy, byteCell, m40]
      refine XO_mks (k := .i64) (k' := .i64) (a := y.toNat % 40) (by simp only [go_sem, Nat.reduceLT, Nat.reduceEqDiff, reduceCtorEq, Int.reduceLT, Int.reduceEq, hs]) (by simp only [go_sem, Nat.reduceLT, Nat.reduceEqDiff, reduceCtorEq, Int.reduceLT, Int.reduceEq, hs]) (by omega) (by omega) ?_
      rw [eB_replicate]
      simp only [go_sem, Nat.reduceLT, Nat.reduceEqDiff, reduceCtorEq, Int.reduceLT, Int.reduceEq, hs, h0, h1, h5, h6, e1, ix, byteCell]
      refine XB_cut (fun st => ∃ hh L, st.h = hh ++ [.arr 1 (eB (List.replicate L 0)) 0 false] ∧ BufG hh 2 els v ∧ L = (if 230 < x.toNat then 100 + y.toNat % 50 else y.toNat % 40) ∧ st.s.length = 82 ∧ st.s.getD 0 .undef = vc ∧ st.s.getD 1 .undef = vi .i64 n ∧ st.s.getD 5 .undef = v ∧ st.s.getD 6 .undef = vi .i64 i ∧ st.s.getD 7 .undef = .own hh.length 0 0 L true) (fun hc' => ?_) (fun hc' => ?_) ?_
      · have hgt : 230 < x.toNat := by omega
        simp only [go_sem, Nat.reduceLT, Nat.reduceEqDiff, reduceCtorEq, Int.reduceLT, Int.reduceEq, hs, h0, h1, h5, h6, e1, iy, byteCell, m50]
        refine XO_mks (k := .i64) (k' := .i64) (a := 100 + y.toNat % 50) (by simp only [go_sem, Nat.reduceLT, Nat.reduceEqDiff, reduceCtorEq, Int.reduceLT, Int.reduceEq, hs]) (by simp only [go_sem, Nat.reduceLT, Nat.reduceEqDiff, reduceCtorEq, Int.reduceLT, Int.reduceEq, hs]) (by omega) (by omega) ?_
        rw [eB_replicate]
        simp only [go_sem, Nat.reduceLT, Nat.reduceEqDiff, reduceCtorEq, Int.reduceLT, Int.reduceEq, hs]
        exact ⟨_, _, rfl, hb.push _, by rw [if_pos hgt], by simp only [slot_len, hs], by simp only [go_sem, Nat.reduceLT, Nat.reduceEqDiff, reduceCtorEq, Int.reduceLT, Int.reduceEq, h0], by simp only [go_sem, Nat.reduceLT, Nat.reduceEqDiff, reduceCtorEq, Int.reduceLT, Int.reduceEq, h1], by simp only [go_sem, Nat.reduceLT, Nat.reduceEqDiff, reduceCtorEq, Int.reduceLT, Int.reduceEq, h5], by simp only [go_sem, Nat.reduceLT, Nat.reduceEqDiff, reduceCtorEq, Int.reduceLT, Int.reduceEq, h6], by simp only [go_sem, Nat.reduceLT, Nat.reduceEqDiff, reduceCtorEq, Int.reduceLT, Int.reduceEq, hs]⟩
      · have hgt : ¬ 230 < x.toNat := by omega
        simp only [go_sem, Nat.reduceLT, Nat.reduceEqDiff, reduceCtorEq, Int.reduceLT, Int.reduceEq, hs]
        exact ⟨_, _, rfl, hb, by rw [if_neg hgt], by simp only [slot_len, hs], by simp only [go_sem, Nat.reduceLT, Nat.reduceEqDiff, reduceCtorEq, Int.reduceLT, Int.reduceEq, h0], by simp only [go_sem, Nat.reduceLT, Nat.reduceEqDiff, reduceCtorEq, Int.reduceLT, Int.reduceEq, h1], by simp only [go_sem, Nat.reduceLT, Nat.reduceEqDiff, reduceCtorEq, Int.reduceLT, Int.reduceEq, h5], by simp only [go_sem, Nat.reduceLT, Nat.reduceEqDiff, reduceCtorEq, Int.reduceLT, Int.reduceEq, h6], by simp only [go_sem, Nat.reduceLT, Nat.reduceEqDiff, reduceCtorEq, Int.reduceLT, Int.reduceEq, hs]⟩
      · clear iy ix
        rintro s h' ⟨hh, L, rfl, hb, hL, hs, h0, h1, h5, h6, h7⟩
        simp only at hs h0 h1 h5 h6 h7
        have hL2 : L ≤ 149 := by rw [hL]; split <;> omega
        have hrep : (List.replicate L (0 : UInt8)).length = L := List.length_replicate
        simp only [go_sem, Nat.reduceLT, Nat.reduceEqDiff, reduceCtorEq, Int.reduceLT, Int.reduceEq, hs]
        refine f27_fill c vc hc i y hy (by omega) hh L 0 (List.replicate L 0) _ _ (by rw [hrep]; omega) (by rw [hrep]; omega) (fun j hj => by omega) (by simp only [slot_len, hs]) (by simp only [go_sem, Nat.reduceLT, Nat.reduceEqDiff, reduceCtorEq, Int.reduceLT, Int.reduceEq, h0]) (by simp only [go_sem, Nat.reduceLT, Nat.reduceEqDiff, reduceCtorEq, Int.reduceLT, Int.reduceEq, h6]) (by simp only [go_sem, Nat.reduceLT, Nat.reduceEqDiff, reduceCtorEq, Int.reduceLT, Int.reduceEq, h7, hrep]) (by simp only [go_sem, Nat.reduceLT, Nat.reduceEqDiff, reduceCtorEq, Int.reduceLT, Int.reduceEq, hs]; rfl) ?_
        intro s' hs' hj'
        have h0' : s'.getD 0 .undef = vc := by rw [hj' 0 (by decide)]; simp only [go_sem, Nat.reduceLT, Nat.reduceEqDiff, reduceCtorEq, Int.reduceLT, Int.reduceEq, h0]
        have h1' : s'.getD 1 .undef = vi .i64 n := by rw [hj' 1 (by decide)]; simp only [go_sem, Nat.reduceLT, Nat.reduceEqDiff, reduceCtorEq, Int.reduceLT, Int.reduceEq, h1]
        have h5' : s'.getD 5 .undef = v := by rw [hj' 5 (by decide)]; simp only [go_sem, Nat.reduceLT, Nat.reduceEqDiff, reduceCtorEq, Int.reduceLT, Int.reduceEq, h5]
        have h6' : s'.getD 6 .undef = vi .i64 i := by rw [hj' 6 (by decide)]; simp only [go_sem, Nat.reduceLT, Nat.reduceEqDiff, reduceCtorEq, Int.reduceLT, Int.reduceEq, h6]
        have h7' : s'.getD 7 .undef = .own hh.length 0 0 L true := by rw [hj' 7 (by decide)]; simp only [go_sem, Nat.reduceLT, Nat.reduceEqDiff, reduceCtorEq, Int.reduceLT, Int.reduceEq, h7]
        clear hj'
        rw [hrep]
        have iy : ∀ h : Heap, iaO h 1 vc (vi .i64 ((i + 1 : Nat) : Int)) = some (.rptr (byteCell y), h) := fun h => hc.ia (by omega) (by exact eB_get hy)
        have ix : ∀ h : Heap, iaO h 1 vc (vi .i64 (i : Int)) = some (.rptr (byteCell x), h) := fun h => hc.ia (by omega) (by exact eB_get hx)
        have k1 : IntKind.u8.wrap (97 + (x.toNat : Int).tmod 16) = (((u8 (97 + x.toNat % 16)).toNat : Nat) : Int) := by
          rw [u8_toNat _ (by omega), Int.tmod_eq_emod_of_nonneg (by omega), IntKind.wrap_u8]; omega
        have k2 : IntKind.u8.wrap (97 + (IntKind.u8.wrap ((x.toNat : Int).tdiv 16)).tmod 4) = (((u8 (97 + x.toNat / 16 % 4)).toNat : Nat) : Int) := by
          have : IntKind.u8.wrap ((x.toNat : Int).tdiv 16) = ((x.toNat / 16 : Nat) : Int) := by
            rw [Int.tdiv_eq_ediv_of_nonneg (by omega), IntKind.wrap_u8]; omega
          rw [u8_toNat _ (by omega), this, Int.tmod_eq_emod_of_nonneg (by omega), IntKind.wrap_u8]; omega
        simp only [go_sem, Nat.reduceLT, Nat.reduceEqDiff, reduceCtorEq, Int.reduceLT, Int.reduceEq, B_exit, hs']
        refine X_draw rfl ?_
        simp only [go_sem, Nat.reduceLT, Nat.reduceEqDiff, reduceCtorEq, Int.reduceLT, Int.reduceEq, hs', h0', h5', h6', h7', ix, byteCell, k1, k2]
        rw [show ([[CV.sc (.int .u8 ((u8 (97 + x.toNat % 16)).toNat : Nat))], [CV.sc (.int .u8 ((u8 (97 + x.toNat / 16 % 4)).toNat : Nat))]] : List (List CV)) = eB (rowK x) from rfl]
        simp only [go_sem, Nat.reduceLT, Nat.reduceEqDiff, reduceCtorEq, Int.reduceLT, Int.reduceEq, hs', h0', h5', h6', h7', bd_co]
        rw [mko_agg2_own (by rw [eB_len, valF_len])]
        simp only [go_sem, Nat.reduceLT, Nat.reduceEqDiff, reduceCtorEq, Int.reduceLT, Int.reduceEq, hs', h5']
        refine XD_appG ((hb.push _).push _) (new := [[.sc (.string ⟨(rowK x).toArray⟩), .sl 1 (eB (valF y L)) true]]) (by simp only [go_sem, Nat.reduceLT, Nat.reduceEqDiff, reduceCtorEq, Int.reduceLT, Int.reduceEq, hs']) (by simp only [go_sem, Nat.reduceLT, Nat.reduceEqDiff, reduceCtorEq, Int.reduceLT, Int.reduceEq, hs']; exact src_last2) (by simp only [List.length_singleton]; omega) (by simp only [List.length_singleton]; omega) (fun v' h' hb' _ _ => ?_)
        simp only [go_sem, Nat.reduceLT, Nat.reduceEqDiff, reduceCtorEq, Int.reduceLT, Int.reduceEq, hs', h6', e3]
        refine ih (i + 2) _ (kv ++ [(rowK x, rowV x y)]) h' v' _ Q (by omega) (by simp only [List.length_append, List.length_singleton]; omega) (hR.snoc ⟨_, rfl, ?_⟩) hb' (by simp only [slot_len, hs']) (by simp only [go_sem, Nat.reduceLT, Nat.reduceEqDiff, reduceCtorEq, Int.reduceLT, Int.reduceEq, h0']) (by simp only [go_sem, Nat.reduceLT, Nat.reduceEqDiff, reduceCtorEq, Int.reduceLT, Int.reduceEq, h1']) (by simp only [go_sem, Nat.reduceLT, Nat.reduceEqDiff, reduceCtorEq, Int.reduceLT, Int.reduceEq, hs']) (by simp only [go_sem, Nat.reduceLT, Nat.reduceEqDiff, reduceCtorEq, Int.reduceLT, Int.reduceEq, hs']) ?_
        · unfold rowV
          rw [← hL]
          exact SlV.sl
        · intro s' h' v' els' a1 a2 a3 a4
          refine hQ s' h' v' els' a1 a2 a3 ?_
          rw [hd]
          simp only [rowL]
          rw [List.append_assoc] at a4
          exact a4
    · simp only [go_sem, Nat.reduceLT, Nat.reduceEqDiff, reduceCtorEq, Int.reduceLT, Int.reduceEq, hs, h0, h1, h5, h6, e1, e2, hc.ln, eB_len, hl, hlt]
      refine hQ _ h v els (by simp only [slot_len, hs]) (by simp only [go_sem, Nat.reduceLT, Nat.reduceEqDiff, reduceCtorEq, Int.reduceLT, Int.reduceEq, h5]) hb ?_
      have : rowL (m + 1) (c.drop i) = [] := by
        match hd : c.drop i with
        | [] => rfl
        | [_] => rfl
        | _ :: _ :: _ =>
          have := congrArg List.length hd
          simp only [List.length_drop, List.length_cons] at this
          omega
      rw [this, List.append_nil]; exact hR

/-- Rows of choices. -/
theorem list_f27 (c : List UInt8) (vc : VV) (hc : SlV 1 (eB c) vc) (n : Nat) (hn : n ≤ 60) (h : Heap) : ∃ v h', call F 27 [vc, vi .i64 n] h = some (.ret v, h') ∧ ∃ els, BufG h' 2 els v ∧ RowsE els (rowL n c) := by
  have : ∃ v h', call F 27 [vc, vi .i64 n] h = some (.ret v, h') ∧ (fun v h' => ∃ els, BufG h' 2 els v ∧ RowsE els (rowL n c)) v h' := by
    refine call_E (fn := f27) rfl ?_
    simp only [f27]
    generalize hs0 : ([vc, vi .i64 n] ++ List.replicate _ VV.undef : List VV) = s
    have hs : s.length = 82 := by rw [← hs0]; rfl
    have h0 : s.getD 0 .undef = vc := by rw [← hs0]; rfl
    have h1 : s.getD 1 .undef = vi .i64 n := by rw [← hs0]; rfl
    clear hs0
    simp only [go_sem, Nat.reduceLT, Nat.reduceEqDiff, reduceCtorEq, Int.reduceLT, Int.reduceEq, hs, h0, h1]
    refine f27_loop c vc hc n hn n 0 [] [] h nilS _ _ (by omega) (by simp) .nil (BufG.nil _ _) (by simp only [slot_len, hs]) (by simp only [go_sem, Nat.reduceLT, Nat.reduceEqDiff, reduceCtorEq, Int.reduceLT, Int.reduceEq, h0]) (by simp only [go_sem, Nat.reduceLT, Nat.reduceEqDiff, reduceCtorEq, Int.reduceLT, Int.reduceEq, h1]) (by simp only [go_sem, Nat.reduceLT, Nat.reduceEqDiff, reduceCtorEq, Int.reduceLT, Int.reduceEq, hs]) (by simp only [go_sem, Nat.reduceLT, Nat.reduceEqDiff, reduceCtorEq, Int.reduceLT, Int.reduceEq, hs]; rfl) ?_
    intro s' h' v' els' hs' h5' hb' hR'
    simp only [go_sem, Nat.reduceLT, Nat.reduceEqDiff, reduceCtorEq, Int.reduceLT, Int.reduceEq, hs', h5']
    exact ⟨els', hb', by simpa using hR'⟩
  exact this

theorem list_pure (c : List UInt8) (vc : VV) (hc : SlV 1 (eB c) vc) (n : Nat) (hn : n ≤ 60) : ∃ v h' els, call F 27 [vc, vi .i64 n] [] = some (.ret v, h') ∧ closRes h' v = some (slV 2 els) ∧ RowsE els (rowL n c) := by
  obtain ⟨v, h', h1, els, h2, h3⟩ := list_f27 c vc hc n hn []
  exact ⟨v, h', els, h1, h2.close, h3⟩

end Go.V07


set_option linter.unusedSimpArgs false
namespace Go.V07
open Go Go.Vm

/-! ### bytes, bent -/

end Go.V07


set_option linter.unusedSimpArgs false
namespace Go.V07
open Go Go.Vm

/-! ### the document's answer: what is put -/

end Go.V07


set_option linter.unusedSimpArgs false
namespace Go.V07
open Go Go.Vm

/-! ### the document's answer: what is got -/

end Go.V07


set_option linter.unusedSimpArgs false
namespace Go.V07
open Go Go.Vm

/-! ### the document's answer: rows that are read -/

end Go.V07


set_option linter.unusedSimpArgs false
namespace Go.V07
open Go Go.Vm

/-! ### changes that are read -/

def ch0 : List CV := [.sc (.string ⟨#[]⟩), .sc (.slice none 0 0), .sc (.bool false)]
def chC (k : List UInt8) (c : CV) (g : Bool) : List CV := [.sc (.string ⟨k.toArray⟩), c, .sc (.bool g)]

/-- A change, from its bytes. -/
def getCh (b : List UInt8) (a : Int) : List CV × Nat × Nat :=
  if (getText b a 30).2.2 ≠ 0 then (ch0, 0, (getText b a 30).2.2) else
  match b[(getText b a 30).2.1]? with
  | none => (ch0, 0, 10)
  | some c => if c.toNat = 1 then (chC (getText b a 30).1 (.sc (.slice none 0 0)) true, (getText b a 30).2.1 + 1, 0) else
    if 1 < c.toNat then (ch0, 0, 11) else
    (chC (getText b a 30).1 (.sl 1 (eB (getText b ((getText b a 30).2.1 + 1 : Nat) 150).1) false) false, (getText b ((getText b a 30).2.1 + 1 : Nat) 150).2.1, (getText b ((getText b a 30).2.1 + 1 : Nat) 150).2.2)

theorem getText_bound (b : List UInt8) (a m : Int) (h : (getText b a m).2.2 = 0) : (getText b a m).2.1 ≤ b.length ∧ (getText b a m).1.length ≤ b.length ∧ 0 ≤ a ∧ a < (getText b a m).2.1 := by
  have hbd := getNum_bound b a
  unfold getText at h ⊢
  split at h
  · rename_i h0; rw [if_pos h0]; simp only at h; exact absurd h h0
  · rename_i h0
    rw [if_neg h0]
    have h0' : (getNum b a).2.2 = 0 := by simpa using h0
    have := hbd.2.1 h0'
    split at h
    · simp at h
    · rename_i h1
      rw [if_neg h1]
      split at h
      · simp at h
      · rename_i h2
        rw [if_neg h2]
        refine ⟨by simp only; omega, ?_, this.1, by simp only; omega⟩
        simp only [List.length_take, List.length_drop]
        omega

theorem getCh_three (b : List UInt8) (a : Int) : ∃ u w t, (getCh b a).1 = [u, w, t] := by
  unfold getCh
  split
  · exact ⟨_, _, _, rfl⟩
  · split
    · exact ⟨_, _, _, rfl⟩
    · split
      · exact ⟨_, _, _, rfl⟩
      · split
        · exact ⟨_, _, _, rfl⟩
        · exact ⟨_, _, _, rfl⟩
theorem clos_ch {h : Heap} {u w t c1 c2 : CV} : closRes h (.tup [.agg [.cv u, .cv w, .cv t], .cv c1, .cv c2]) = some (.tup [.agg [.cv u, .cv w, .cv t], .cv c1, .cv c2]) := rfl
theorem bd_3k {a b c : VV} {u w : CV} : bdO [a, b, c] [(0, 1, .cv u), (2, 1, .cv w)] = some (.agg [.cv u, b, .cv w]) := rfl
theorem bd_3v {a b c : VV} {u w : CV} : bdO [a, b, c] [(0, 1, .cv u), (1, 1, .cv w)] = some (.agg [.cv u, .cv w, c]) := rfl

theorem change_f70 (b : List UInt8) (v : VV) (hv : SlV 1 (eB b) v) (a : Int) (hb : b.length ≤ 1000000000) :
    ∃ w h', call F 70 [v, vi .i64 a] [] = some (.ret w, h') ∧ ValIs (.tup [.agg ((getCh b a).1.map .cv), vi .i64 (getCh b a).2.1, vi .u16 (getCh b a).2.2]) w h' := by
  refine call_E (fn := f70) rfl ?_
  simp only [f70]
  generalize hs0 : ([v, vi .i64 a] ++ List.replicate _ VV.undef : List VV) = s
  have hs : s.length = 59 := by rw [← hs0]; rfl
  have h0 : s.getD 0 .undef = v := by rw [← hs0]; rfl
  have h1 : s.getD 1 .undef = vi .i64 a := by rw [← hs0]; rfl
  clear hs0
  simp only [go_sem, Nat.reduceLT, Nat.reduceEqDiff, reduceCtorEq, Int.reduceLT, Int.reduceEq, hs, h0, h1, List.nil_append, List.length_nil]
  refine XO_callP (by simp only [List.map, go_sem, Nat.reduceLT, Nat.reduceEqDiff, reduceCtorEq, Int.reduceLT, Int.reduceEq, hs, h0, h1]; exact hv.clos (clos_cv (clos_cv clos_nil))) (text_f77 b v hv a 30 [] hb) clos_tup3 ?_
  have hbd := getText_bound b a 30
  unfold getCh
  generalize getText b a 30 = x at hbd ⊢
  obtain ⟨k, j, e⟩ := x
  simp only [go_sem, Nat.reduceLT, Nat.reduceEqDiff, reduceCtorEq, Int.reduceLT, Int.reduceEq, hs, h0] at hbd ⊢
  by_cases c1 : (e : Int) = 0
  · have c1' : e = 0 := by omega
    subst c1'
    obtain ⟨hj, _⟩ := hbd rfl
    by_cases c2 : (j : Int) = (b.length : Int)
    · have hg : b[j]? = none := List.getElem?_eq_none (by omega)
      simp only [go_sem, Nat.reduceLT, Nat.reduceEqDiff, reduceCtorEq, Int.reduceLT, Int.reduceEq, hs, h0, eq_true c1, hv.ln, eB_len, eq_true c2, hg]
      refine RQ_c2 (id := 0) (by simp only [go_sem, Nat.reduceLT, Nat.reduceEqDiff, reduceCtorEq, Int.reduceLT, Int.reduceEq, hs]) rfl rfl (by simp only [go_sem, Nat.reduceLT, Nat.reduceEqDiff, reduceCtorEq, Int.reduceLT, Int.reduceEq, hs]) (by simp only [go_sem, Nat.reduceLT, Nat.reduceEqDiff, reduceCtorEq, Int.reduceLT, Int.reduceEq, hs]) ?_
      simp only [go_sem, Nat.reduceLT, Nat.reduceEqDiff, reduceCtorEq, Int.reduceLT, Int.reduceEq, hs]
      rfl
    · obtain ⟨c, hg⟩ : ∃ c, b[j]? = some c := ⟨_, List.getElem?_eq_getElem (show j < b.length by omega)⟩
      have hia : ∀ h : Heap, iaO h 1 v (vi .i64 (j : Int)) = some (.rptr (byteCell c), h) := fun h => hv.ia (by omega) (by exact eB_get hg)
      have e5 : IntKind.i64.wrap ((j : Int) + 1) = ((j + 1 : Nat) : Int) := by rw [IntWalk.i64_in _ (by omega)]; omega
      by_cases c3 : (c.toNat : Int) = 1
      · have c3' : c.toNat = 1 := by omega
        have k1 : ((1 : Nat) : Int) = 1 := rfl
        simp only [go_sem, Nat.reduceLT, Nat.reduceEqDiff, reduceCtorEq, Int.reduceLT, Int.reduceEq, hs, h0, eq_true c1, hv.ln, eB_len, c2, hia, byteCell, eq_true c3, c3', k1, hg, bd_3k, e5]
        refine RQ_c2 (id := 0) (by simp only [go_sem, Nat.reduceLT, Nat.reduceEqDiff, reduceCtorEq, Int.reduceLT, Int.reduceEq, hs]) rfl rfl (by simp only [go_sem, Nat.reduceLT, Nat.reduceEqDiff, reduceCtorEq, Int.reduceLT, Int.reduceEq, hs]) (by simp only [go_sem, Nat.reduceLT, Nat.reduceEqDiff, reduceCtorEq, Int.reduceLT, Int.reduceEq, hs]) ?_
        simp only [go_sem, Nat.reduceLT, Nat.reduceEqDiff, reduceCtorEq, Int.reduceLT, Int.reduceEq, hs]
        rfl
      · have c3' : ¬ c.toNat = 1 := by omega
        by_cases c4 : (1 : Int) < (c.toNat : Int)
        · have c4' : 1 < c.toNat := by omega
          simp only [go_sem, Nat.reduceLT, Nat.reduceEqDiff, reduceCtorEq, Int.reduceLT, Int.reduceEq, hs, h0, eq_true c1, hv.ln, eB_len, c2, hia, byteCell, c3, c3', c4, c4', hg]
          refine RQ_c2 (id := 0) (by simp only [go_sem, Nat.reduceLT, Nat.reduceEqDiff, reduceCtorEq, Int.reduceLT, Int.reduceEq, hs]) rfl rfl (by simp only [go_sem, Nat.reduceLT, Nat.reduceEqDiff, reduceCtorEq, Int.reduceLT, Int.reduceEq, hs]) (by simp only [go_sem, Nat.reduceLT, Nat.reduceEqDiff, reduceCtorEq, Int.reduceLT, Int.reduceEq, hs]) ?_
          simp only [go_sem, Nat.reduceLT, Nat.reduceEqDiff, reduceCtorEq, Int.reduceLT, Int.reduceEq, hs]
          rfl
        · have c4' : ¬ 1 < c.toNat := by omega
          simp only [go_sem, Nat.reduceLT, Nat.reduceEqDiff, reduceCtorEq, Int.reduceLT, Int.reduceEq, hs, h0, eq_true c1, hv.ln, eB_len, c2, hia, byteCell, c3, c3', c4, c4', hg, e5]
          refine XO_callP (by simp only [List.map, go_sem, Nat.reduceLT, Nat.reduceEqDiff, reduceCtorEq, Int.reduceLT, Int.reduceEq, hs]; exact hv.clos (clos_cv (clos_cv clos_nil))) (text_f77 b v hv (j + 1 : Nat) 150 [] hb) clos_tup3 ?_
          generalize getText b (j + 1 : Nat) 150 = y
          obtain ⟨u, j2, e2⟩ := y
          simp only [go_sem, Nat.reduceLT, Nat.reduceEqDiff, reduceCtorEq, Int.reduceLT, Int.reduceEq, hs, bd_3v]
          refine RQ_c2 (id := 0) (by simp only [go_sem, Nat.reduceLT, Nat.reduceEqDiff, reduceCtorEq, Int.reduceLT, Int.reduceEq, hs]) rfl rfl (by simp only [go_sem, Nat.reduceLT, Nat.reduceEqDiff, reduceCtorEq, Int.reduceLT, Int.reduceEq, hs]) (by simp only [go_sem, Nat.reduceLT, Nat.reduceEqDiff, reduceCtorEq, Int.reduceLT, Int.reduceEq, hs]) ?_
          simp only [go_sem, Nat.reduceLT, Nat.reduceEqDiff, reduceCtorEq, Int.reduceLT, Int.reduceEq, hs]
          rfl
  · have c1' : ¬ e = 0 := by omega
    simp only [go_sem, Nat.reduceLT, Nat.reduceEqDiff, reduceCtorEq, Int.reduceLT, Int.reduceEq, hs, c1, c1']
    refine RQ_c2 (id := 0) (by simp only [go_sem, Nat.reduceLT, Nat.reduceEqDiff, reduceCtorEq, Int.reduceLT, Int.reduceEq, hs]) rfl rfl (by simp only [go_sem, Nat.reduceLT, Nat.reduceEqDiff, reduceCtorEq, Int.reduceLT, Int.reduceEq, hs]) (by simp only [go_sem, Nat.reduceLT, Nat.reduceEqDiff, reduceCtorEq, Int.reduceLT, Int.reduceEq, hs]) ?_
    simp only [go_sem, Nat.reduceLT, Nat.reduceEqDiff, reduceCtorEq, Int.reduceLT, Int.reduceEq, hs]
    rfl

theorem f69_end (e : Nat) (s : List VV) (h : Heap) (Q : Pst) (hs : s.length = 55) (h9 : s.getD 9 .undef = vi .u16 e) (he : e ≠ 0)
    (hQ : ∀ s', s'.length = 55 → (∀ i, i < 10 → s'.getD i .undef = s.getD i .undef) → Q (.exit 0) ⟨s', h⟩) : X F (.loop f69_0) ⟨s, h⟩ Q := by
  rw [X_loop, X_eq f69_0.eq_1]
  have he' : ¬ (e : Int) = 0 := by omega
  simp only [go_sem, Nat.reduceLT, Nat.reduceEqDiff, reduceCtorEq, Int.reduceLT, Int.reduceEq, hs, h9, he']
  refine hQ _ (by simp only [slot_len, hs]) (fun i hi => ?_)
  have : ∀ j, 10 ≤ j → j ≠ i := by omega
  rw [slot_ne (this _ (by decide)), slot_ne (this _ (by decide)), slot_ne (this _ (by decide)), slot_ne (this _ (by decide)), slot_ne (this _ (by decide)), slot_ne (this _ (by decide))]

theorem f69_loop (b : List UInt8) (vb_ : VV) (hv : SlV 1 (eB b) vb_) (hb : b.length ≤ 1000000000) : ∀ (n a : Nat) (out : List (List CV)) (s : List VV) (h : Heap) (v : VV) (Q : Pst), out.length + n ≤ 5000 → s.length = 55 →
    s.getD 0 .undef = vb_ → s.getD 1 .undef = .func 70 [] → s.getD 6 .undef = v → s.getD 7 .undef = vi .i64 n → s.getD 8 .undef = vi .i64 a → s.getD 9 .undef = vi .u16 0 → BufG h 3 out v →
    (∀ s' h' v', s'.length = 55 → s'.getD 0 .undef = vb_ → s'.getD 6 .undef = v' → BufG h' 3 (wholeF (getCh b) n a out).1 v' →
      s'.getD 8 .undef = vi .i64 (wholeF (getCh b) n a out).2.1 → s'.getD 9 .undef = vi .u16 (wholeF (getCh b) n a out).2.2 → Q (.exit 0) ⟨s', h'⟩) →
    X F (.loop f69_0) ⟨s, h⟩ Q := by
  intro n
  induction n with
  | zero =>
    intro a out s h v Q hn hs h0 h1 h6 h7 h8 h9 hbuf hQ
    rw [X_loop, X_eq f69_0.eq_1]
    have hn0 : ¬ (0 : Int) < ((0 : Nat) : Int) := by decide
    simp only [go_sem, Nat.reduceLT, Nat.reduceEqDiff, reduceCtorEq, Int.reduceLT, Int.reduceEq, hs, h7, h9, hn0]
    exact hQ _ _ v (by simp only [slot_len, hs]) (by simp only [go_sem, Nat.reduceLT, Nat.reduceEqDiff, reduceCtorEq, Int.reduceLT, Int.reduceEq, h0]) (by simp only [go_sem, Nat.reduceLT, Nat.reduceEqDiff, reduceCtorEq, Int.reduceLT, Int.reduceEq, h6]) hbuf (by simp only [go_sem, Nat.reduceLT, Nat.reduceEqDiff, reduceCtorEq, Int.reduceLT, Int.reduceEq, h8, wholeF]) (by simp only [go_sem, Nat.reduceLT, Nat.reduceEqDiff, reduceCtorEq, Int.reduceLT, Int.reduceEq, h9, wholeF]; rfl)
  | succ n ih =>
    intro a out s h v Q hn hs h0 h1 h6 h7 h8 h9 hbuf hQ
    rw [X_loop, X_eq f69_0.eq_1]
    have hn0 : (0 : Int) < ((n + 1 : Nat) : Int) := by omega
    simp only [go_sem, Nat.reduceLT, Nat.reduceEqDiff, reduceCtorEq, Int.reduceLT, Int.reduceEq, hs, h0, h1, h6, h7, h8, h9, hn0]
    obtain ⟨w, hc, hcall, hw⟩ := change_f70 b vb_ hv a hb
    obtain ⟨u1, u2, u3, hu⟩ := getCh_three b a
    unfold ValIs at hw
    rw [hw, hu] at hcall
    refine XO_callvP (by simp only [go_sem, Nat.reduceLT, Nat.reduceEqDiff, reduceCtorEq, Int.reduceLT, Int.reduceEq, hs]) (by simp only [List.map, go_sem, Nat.reduceLT, Nat.reduceEqDiff, reduceCtorEq, Int.reduceLT, Int.reduceEq, hs]; exact hv.clos (clos_cv clos_nil)) hcall clos_ch ?_
    simp only [go_sem, Nat.reduceLT, Nat.reduceEqDiff, reduceCtorEq, Int.reduceLT, Int.reduceEq, hs, h0, h1, h6, h7, h8, h9]
    have e7 : IntKind.i64.wrap (((n + 1 : Nat) : Int) - 1) = (n : Int) := by rw [IntWalk.i64_in _ (by omega)]; omega
    by_cases c1 : ((getCh b a).2.2 : Int) = 0
    · have c1' : (getCh b a).2.2 = 0 := by omega
      simp only [go_sem, Nat.reduceLT, Nat.reduceEqDiff, reduceCtorEq, Int.reduceLT, Int.reduceEq, hs, h6, eq_true c1]
      refine XO_appG (new := [[u1, u2, u3]]) (hbuf.push _) (by simp only [go_sem, Nat.reduceLT, Nat.reduceEqDiff, reduceCtorEq, Int.reduceLT, Int.reduceEq, hs]) (by simp only [go_sem, Nat.reduceLT, Nat.reduceEqDiff, reduceCtorEq, Int.reduceLT, Int.reduceEq, hs]) (by simp only [List.length_singleton]; omega) (by simp only [List.length_singleton]; omega) (fun v' h' hb' _ _ => ?_)
      simp only [go_sem, Nat.reduceLT, Nat.reduceEqDiff, reduceCtorEq, Int.reduceLT, Int.reduceEq, hs, h7, e7]
      refine ih (getCh b a).2.1 (out ++ [(getCh b a).1]) _ h' v' Q (by simp only [List.length_append, List.length_singleton]; omega) (by simp only [slot_len, hs]) (by simp only [go_sem, Nat.reduceLT, Nat.reduceEqDiff, reduceCtorEq, Int.reduceLT, Int.reduceEq, h0]) (by simp only [go_sem, Nat.reduceLT, Nat.reduceEqDiff, reduceCtorEq, Int.reduceLT, Int.reduceEq, h1]) (by simp only [go_sem, Nat.reduceLT, Nat.reduceEqDiff, reduceCtorEq, Int.reduceLT, Int.reduceEq, hs]) (by simp only [go_sem, Nat.reduceLT, Nat.reduceEqDiff, reduceCtorEq, Int.reduceLT, Int.reduceEq, hs]) (by simp only [go_sem, Nat.reduceLT, Nat.reduceEqDiff, reduceCtorEq, Int.reduceLT, Int.reduceEq, hs]) (by simp only [go_sem, Nat.reduceLT, Nat.reduceEqDiff, reduceCtorEq, Int.reduceLT, Int.reduceEq, hs, c1']; rfl) (by rw [hu]; exact hb') ?_
      simp only [wholeF, c1', ne_eq, not_true_eq_false, if_false] at hQ
      exact hQ
    · have c1' : ¬ (getCh b a).2.2 = 0 := by omega
      simp only [go_sem, Nat.reduceLT, Nat.reduceEqDiff, reduceCtorEq, Int.reduceLT, Int.reduceEq, hs, h6, h7, c1, e7]
      refine f69_end (getCh b a).2.2 _ _ Q (by simp only [slot_len, hs]) (by simp only [go_sem, Nat.reduceLT, Nat.reduceEqDiff, reduceCtorEq, Int.reduceLT, Int.reduceEq, hs]) c1' (fun s' hs' hl => ?_)
      simp only [wholeF, c1', ne_eq, not_false_eq_true, if_true] at hQ
      refine hQ s' _ v hs' ?_ ?_ (hbuf.push _) ?_ ?_
      · rw [hl 0 (by decide)]; simp only [go_sem, Nat.reduceLT, Nat.reduceEqDiff, reduceCtorEq, Int.reduceLT, Int.reduceEq, h0]
      · rw [hl 6 (by decide)]; simp only [go_sem, Nat.reduceLT, Nat.reduceEqDiff, reduceCtorEq, Int.reduceLT, Int.reduceEq, h6]
      · rw [hl 8 (by decide)]; simp only [go_sem, Nat.reduceLT, Nat.reduceEqDiff, reduceCtorEq, Int.reduceLT, Int.reduceEq, hs]
      · rw [hl 9 (by decide)]; simp only [go_sem, Nat.reduceLT, Nat.reduceEqDiff, reduceCtorEq, Int.reduceLT, Int.reduceEq, hs]

theorem wholeC_f69 (b : List UInt8) (vb_ : VV) (hv : SlV 1 (eB b) vb_) (hb : b.length ≤ 1000000000) :
    ∃ v h', call F 69 [vb_, .func 70 []] [] = some (.ret v, h') ∧ CloseTo (.tup [slV 3 (wholeB (getCh b) b).1, vi .u16 (wholeB (getCh b) b).2]) v h' := by
  refine call_E (fn := f69) rfl ?_
  simp only [f69]
  generalize hs0 : ([vb_, .func 70 []] ++ List.replicate _ VV.undef : List VV) = s
  have hs : s.length = 55 := by rw [← hs0]; rfl
  have h0 : s.getD 0 .undef = vb_ := by rw [← hs0]; rfl
  have h1 : s.getD 1 .undef = .func 70 [] := by rw [← hs0]; rfl
  clear hs0
  simp only [go_sem, Nat.reduceLT, Nat.reduceEqDiff, reduceCtorEq, Int.reduceLT, Int.reduceEq, hs, h0, h1]
  refine XO_callP (by simp only [List.map, go_sem, Nat.reduceLT, Nat.reduceEqDiff, reduceCtorEq, Int.reduceLT, Int.reduceEq, hs]; exact hv.clos (clos_cv clos_nil)) (num_f76 b vb_ hv 0 [] hb) clos_tup3 ?_
  have hbd := getNum_bound b 0
  unfold wholeB
  generalize getNum b 0 = x at hbd ⊢
  obtain ⟨n, a, e⟩ := x
  simp only [go_sem, Nat.reduceLT, Nat.reduceEqDiff, reduceCtorEq, Int.reduceLT, Int.reduceEq, hs, h0, h1] at hbd ⊢
  -- the end, with an error
  have bad : ∀ (e : Nat) (s' : List VV) (h' : Heap) (w : VV), s'.length = 55 → e ≠ 0 → s'.getD 9 .undef = vi .u16 e → w = .tup [slV 3 [], vi .u16 e] →
      X F (.seq (.block 2
  (.seq (.reg [
  ⟨none, (some 46), (.mv (.t 9))⟩,
  ⟨none, (some 47), (.bin .neq (.t 46) (.c (.cv (.sc (.int .u16 0)))))⟩,
  ⟨none, (some 45), (.mv (.t 47))⟩])
  (.cond (.t 45)
  (.seq (.reg [
  ⟨none, (some 48), (.mv (.t 9))⟩,
  ⟨none, (some 4), (.mv (.c (.cv (.sc (.slice none 0 0)))))⟩,
  ⟨none, (some 5), (.mv (.t 48))⟩])
  .ret)
  (.seq (.reg [
  ⟨none, (some 50), (.mv (.t 8))⟩,
  ⟨none, (some 51), (.mv (.t 0))⟩,
  ⟨none, (some 52), (.len false (.t 51))⟩,
  ⟨none, (some 53), (.bin .lss (.t 50) (.t 52))⟩,
  ⟨none, (some 49), (.mv (.t 53))⟩])
  (.cond (.t 49)
  (.seq (.reg [
  ⟨none, (some 4), (.mv (.c (.cv (.sc (.slice none 0 0)))))⟩,
  ⟨none, (some 5), (.mv (.c (.cv (.sc (.int .u16 11)))))⟩])
  .ret) .skip)))))
  (.seq (.reg [
  ⟨none, (some 54), (.mv (.t 6))⟩,
  ⟨none, (some 4), (.mv (.t 54))⟩,
  ⟨none, (some 5), (.mv (.c (.cv (.sc (.int .u16 0)))))⟩])
  .ret)) ⟨s', h'⟩ (RQ [.t 4, .t 5] (CloseTo w)) := by
    intro e s' h' w hs' he h9 hw
    have he' : ¬ (e : Int) = 0 := by omega
    simp only [go_sem, Nat.reduceLT, Nat.reduceEqDiff, reduceCtorEq, Int.reduceLT, Int.reduceEq, hs', h9, he']
    rw [hw]
    exact clos_slV (BufG.nil h' 3)
  by_cases c1 : (e : Int) = 0
  · have c1' : e = 0 := by omega
    subst c1'
    by_cases c2 : (5000 : Int) < (n : Int)
    · have c2' : 5000 < n := by omega
      simp only [go_sem, Nat.reduceLT, Nat.reduceEqDiff, reduceCtorEq, Int.reduceLT, Int.reduceEq, hs, h0, h1, eq_true c1, c2, c2']
      refine f69_end 3 _ _ _ (by simp only [slot_len, hs]) (by simp only [go_sem, Nat.reduceLT, Nat.reduceEqDiff, reduceCtorEq, Int.reduceLT, Int.reduceEq, hs]; rfl) (by decide) (fun s' hs' hl => ?_)
      simp only [B_exit, if_true, K_norm]
      refine bad 3 _ _ _ hs' (by decide) ?_ rfl
      rw [hl 9 (by decide)]; simp only [go_sem, Nat.reduceLT, Nat.reduceEqDiff, reduceCtorEq, Int.reduceLT, Int.reduceEq, hs]; rfl
    · have c2' : ¬ 5000 < n := by omega
      simp only [go_sem, Nat.reduceLT, Nat.reduceEqDiff, reduceCtorEq, Int.reduceLT, Int.reduceEq, hs, h0, h1, eq_true c1, c2, c2']
      refine f69_loop b vb_ hv hb n a [] _ _ nilS _ (by simp only [List.length_nil]; omega) (by simp only [slot_len, hs]) (by simp only [go_sem, Nat.reduceLT, Nat.reduceEqDiff, reduceCtorEq, Int.reduceLT, Int.reduceEq, h0]) (by simp only [go_sem, Nat.reduceLT, Nat.reduceEqDiff, reduceCtorEq, Int.reduceLT, Int.reduceEq, h1]) (by simp only [go_sem, Nat.reduceLT, Nat.reduceEqDiff, reduceCtorEq, Int.reduceLT, Int.reduceEq, hs]) (by simp only [go_sem, Nat.reduceLT, Nat.reduceEqDiff, reduceCtorEq, Int.reduceLT, Int.reduceEq, hs]) (by simp only [go_sem, Nat.reduceLT, Nat.reduceEqDiff, reduceCtorEq, Int.reduceLT, Int.reduceEq, hs]) (by simp only [go_sem, Nat.reduceLT, Nat.reduceEqDiff, reduceCtorEq, Int.reduceLT, Int.reduceEq, hs]; rfl) (BufG.nil _ _) ?_
      intro s' h' v' hs' h0' h6' hb' h8' h9'
      simp only [B_exit, if_true, K_norm]
      generalize wholeF (getCh b) n a [] = y at *
      obtain ⟨out, j, e2⟩ := y
      simp only at *
      by_cases c3 : (e2 : Int) = 0
      · have c3' : e2 = 0 := by omega
        subst c3'
        by_cases c4 : (j : Int) < (b.length : Int)
        · have c4' : j < b.length := by omega
          simp only [go_sem, Nat.reduceLT, Nat.reduceEqDiff, reduceCtorEq, Int.reduceLT, Int.reduceEq, hs', h0', h6', h8', h9', eq_true c3, eB_len, hv.ln, c4, c4']
          exact clos_slV (BufG.nil h' 3)
        · have c4' : ¬ j < b.length := by omega
          simp only [go_sem, Nat.reduceLT, Nat.reduceEqDiff, reduceCtorEq, Int.reduceLT, Int.reduceEq, hs', h0', h6', h8', h9', eq_true c3, eB_len, hv.ln, c4, c4']
          exact clos_slV hb'
      · have c3' : e2 ≠ 0 := by omega
        rw [if_pos c3']
        exact bad e2 s' h' _ hs' c3' h9' rfl
  · have c1' : e ≠ 0 := by omega
    simp only [go_sem, Nat.reduceLT, Nat.reduceEqDiff, reduceCtorEq, Int.reduceLT, Int.reduceEq, hs, h0, h1, c1]
    rw [if_pos c1']
    refine f69_end e _ _ _ (by simp only [slot_len, hs]) (by simp only [go_sem, Nat.reduceLT, Nat.reduceEqDiff, reduceCtorEq, Int.reduceLT, Int.reduceEq, hs]) c1' (fun s' hs' hl => ?_)
    simp only [B_exit, if_true, K_norm]
    refine bad e _ _ _ hs' c1' ?_ rfl
    rw [hl 9 (by decide)]; simp only [go_sem, Nat.reduceLT, Nat.reduceEqDiff, reduceCtorEq, Int.reduceLT, Int.reduceEq, hs]

/-- Changes, of all bytes. -/
theorem changes_f54 (b : List UInt8) (vb_ : VV) (hv : SlV 1 (eB b) vb_) (hb : b.length ≤ 1000000000) :
    ∃ v h', call F 54 [vb_] [] = some (.ret v, h') ∧ CloseTo (.tup [slV 3 (wholeB (getCh b) b).1, vi .u16 (wholeB (getCh b) b).2]) v h' := by
  refine call_E (fn := f54) rfl ?_
  simp only [f54]
  generalize hs0 : ([vb_] ++ List.replicate _ VV.undef : List VV) = s
  have hs : s.length = 8 := by rw [← hs0]; rfl
  have h0 : s.getD 0 .undef = vb_ := by rw [← hs0]; rfl
  clear hs0
  simp only [go_sem, Nat.reduceLT, Nat.reduceEqDiff, reduceCtorEq, Int.reduceLT, Int.reduceEq, hs, h0]
  obtain ⟨v, hc, hcall, hw⟩ := wholeC_f69 b vb_ hv hb
  refine XO_callP (h1 := []) (by simp only [List.map, go_sem, Nat.reduceLT, Nat.reduceEqDiff, reduceCtorEq, Int.reduceLT, Int.reduceEq, hs]; exact hv.clos rfl) hcall hw ?_
  simp only [go_sem, Nat.reduceLT, Nat.reduceEqDiff, reduceCtorEq, Int.reduceLT, Int.reduceEq, hs]
  unfold slV
  split <;> rfl

end Go.V07


set_option linter.unusedSimpArgs false
namespace Go.V07
open Go Go.Vm

/-! ### the same rows -/

theorem RowsE.get {l : List (List CV)} {k : List (List UInt8 × List UInt8)} (h : RowsE l k) : ∀ {i : Nat}, i < k.length → ∃ e p, l[i]? = some e ∧ k[i]? = some p ∧ rowE e p := by
  induction h with
  | nil => intro i hi; simp at hi
  | @cons e p l k h _ ih =>
    intro i hi
    cases i with
    | zero => exact ⟨e, p, rfl, rfl, h⟩
    | succ i =>
      obtain ⟨e', p', h1, h2, h3⟩ := ih (i := i) (by simpa using hi)
      exact ⟨e', p', by simpa using h1, by simpa using h2, h3⟩

theorem f17_loop (l m : List (List CV)) (k : List (List UInt8 × List UInt8)) (vl vm : VV) (hl : SlV 2 l vl) (hm : SlV 2 m vm) (hR : RowsE l k) (hS : RowsE m k) (hk : k.length ≤ 1000000000) (h : Heap) : ∀ (d i : Nat) (s : List VV) (Q : Pst),
    i + d = k.length → s.length = 43 → s.getD 0 .undef = vl → s.getD 1 .undef = vm → s.getD 5 .undef = vi .i64 i →
    (∀ s', s'.length = 43 → Q (.exit 0) ⟨s', h⟩) → X F (.loop f17_1) ⟨s, h⟩ Q := by
  intro d
  induction d with
  | zero =>
    intro i s Q hi hs h0 h1 h5 hQ
    rw [X_loop, X_eq f17_1.eq_1]
    have hlt : ¬ (i : Int) < (l.length : Int) := by rw [hR.len]; omega
    simp only [go_sem, Nat.reduceLT, Nat.reduceEqDiff, reduceCtorEq, Int.reduceLT, Int.reduceEq, hs, h0, h5, hl.ln, hlt]
    exact hQ _ (by simp only [slot_len, hs])
  | succ d ih =>
    intro i s Q hi hs h0 h1 h5 hQ
    rw [X_loop, X_eq f17_1.eq_1]
    have hlt : (i : Int) < (l.length : Int) := by rw [hR.len]; omega
    obtain ⟨e, p, g1, g2, c, rfl, hc⟩ := hR.get (i := i) (by omega)
    obtain ⟨e', p', g3, g4, c', rfl, hc'⟩ := hS.get (i := i) (by omega)
    rw [g2] at g4; cases g4
    have hia : ∀ h : Heap, iaO h 2 vl (vi .i64 (i : Int)) = some (.rptr [.sc (.string ⟨p.1.toArray⟩), c], h) := fun h => hl.ia (by omega) (by exact g1)
    have hib : ∀ h : Heap, iaO h 2 vm (vi .i64 (i : Int)) = some (.rptr [.sc (.string ⟨p.1.toArray⟩), c'], h) := fun h => hm.ia (by omega) (by exact g3)
    have e5 : IntKind.i64.wrap ((i : Int) + 1) = ((i + 1 : Nat) : Int) := by rw [IntWalk.i64_in _ (by omega)]; omega
    simp only [go_sem, Nat.reduceLT, Nat.reduceEqDiff, reduceCtorEq, Int.reduceLT, Int.reduceEq, hs, h0, h5, hl.ln, hlt]
    refine X_draw rfl ?_
    have hne : decide (p.1 ≠ p.1) = false := by simp
    have hne2 : decide (p.2 ≠ p.2) = false := by simp
    simp only [go_sem, Nat.reduceLT, Nat.reduceEqDiff, reduceCtorEq, Int.reduceLT, Int.reduceEq, hs, h0, h1, h5, hia, hib, hc.bs, hc'.bs, e5]
    exact ih (i + 1) _ Q (by omega) (by simp only [slot_len, hs]) (by simp only [go_sem, Nat.reduceLT, Nat.reduceEqDiff, reduceCtorEq, Int.reduceLT, Int.reduceEq, h0]) (by simp only [go_sem, Nat.reduceLT, Nat.reduceEqDiff, reduceCtorEq, Int.reduceLT, Int.reduceEq, h1]) (by simp only [go_sem, Nat.reduceLT, Nat.reduceEqDiff, reduceCtorEq, Int.reduceLT, Int.reduceEq, hs]) hQ

theorem same_f17 (l m : List (List CV)) (k : List (List UInt8 × List UInt8)) (vl vm : VV) (hl : SlV 2 l vl) (hm : SlV 2 m vm) (hR : RowsE l k) (hS : RowsE m k) (hk : k.length ≤ 1000000000) (h : Heap) :
    ∃ v h', call F 17 [vl, vm] h = some (.ret v, h') ∧ ValIs (vb true) v h' := by
  refine call_E (fn := f17) rfl ?_
  simp only [f17]
  generalize hs0 : ([vl, vm] ++ List.replicate _ VV.undef : List VV) = s
  have hs : s.length = 43 := by rw [← hs0]; rfl
  have h0 : s.getD 0 .undef = vl := by rw [← hs0]; rfl
  have h1 : s.getD 1 .undef = vm := by rw [← hs0]; rfl
  clear hs0
  simp only [go_sem, Nat.reduceLT, Nat.reduceEqDiff, reduceCtorEq, Int.reduceLT, Int.reduceEq, hs]
  rw [X_eq f17_0.eq_1]
  have hne : ((l.length : Int) ≠ (m.length : Int)) = False := by simp [hR.len, hS.len]
  simp only [go_sem, Nat.reduceLT, Nat.reduceEqDiff, reduceCtorEq, Int.reduceLT, Int.reduceEq, hs, h0, h1, hl.ln, hm.ln, hR.len, hS.len]
  refine f17_loop l m k vl vm hl hm hR hS hk h k.length 0 _ _ (by omega) (by simp only [slot_len, hs]) (by simp only [go_sem, Nat.reduceLT, Nat.reduceEqDiff, reduceCtorEq, Int.reduceLT, Int.reduceEq, h0]) (by simp only [go_sem, Nat.reduceLT, Nat.reduceEqDiff, reduceCtorEq, Int.reduceLT, Int.reduceEq, h1]) (by simp only [go_sem, Nat.reduceLT, Nat.reduceEqDiff, reduceCtorEq, Int.reduceLT, Int.reduceEq, hs]; rfl) ?_
  intro s' hs'
  simp only [go_sem, Nat.reduceLT, Nat.reduceEqDiff, reduceCtorEq, Int.reduceLT, Int.reduceEq, hs']
  rfl

end Go.V07


set_option linter.unusedSimpArgs false
set_option linter.unusedVariables false
namespace Go.V07
open Go Go.Vm

/-! ### what was put is got -/

/-- Rows that may be. -/
def Fits (kv : List (List UInt8 × List UInt8)) : Prop := ∀ p ∈ kv, p.1.length ≤ 30 ∧ p.2.length ≤ 150

theorem rowL_fits : ∀ n c, Fits (rowL n c)
  | 0, _ => by intro p hp; simp [rowL] at hp
  | n + 1, [] => by intro p hp; simp [rowL] at hp
  | n + 1, [_] => by intro p hp; simp [rowL] at hp
  | n + 1, x :: y :: r => by
    intro p hp
    simp only [rowL, List.mem_cons] at hp
    rcases hp with rfl | hp
    · have := rowV_len x y
      exact ⟨by simp [rowK], by simp only; omega⟩
    · exact rowL_fits n r p hp

/-! ### slices that may be written no more -/

def BufF (h : Heap) (z : Nat) (els : List (List CV)) (v : VV) : Prop := (els = [] ∧ v = nilS) ∨ (∃ id g fr, els ≠ [] ∧ v = .own id g 0 els.length false ∧ h[id]? = some (.arr z els g fr))
theorem BufF.clos {h : Heap} {z : Nat} {els : List (List CV)} {v : VV} (hb : BufF h z els v) : ∃ h1, closA h v = some (slV z els, h1) ∧ BufF h1 z els v := by
  rcases hb with ⟨rfl, rfl⟩ | ⟨id, g, fr, h1, rfl, h3⟩
  · exact ⟨h, rfl, .inl ⟨rfl, rfl⟩⟩
  · have hid : id < h.length := (List.getElem?_eq_some_iff.1 h3).1
    refine ⟨h.set id (.arr z els g true), ?_, .inr ⟨id, g, true, h1, rfl, by rw [List.getElem?_set_self hid]⟩⟩
    simp [closA, Vm.clos, h3, slV, h1]
theorem BufF.ln {h : Heap} {z : Nat} {els : List (List CV)} {v : VV} (hb : BufF h z els v) : lnO false v = some (vi .i64 els.length) := by
  rcases hb with ⟨rfl, rfl⟩ | ⟨id, g, fr, h1, rfl, h3⟩ <;> rfl

theorem RowsE.set {l : List (List CV)} {k : List (List UInt8 × List UInt8)} (h : RowsE l k) : ∀ {i : Nat} {e : List CV} {p : List UInt8 × List UInt8}, k[i]? = some p → rowE e p → RowsE (l.set i e) k := by
  induction h with
  | nil => intro i e p hp; simp at hp
  | @cons e' p' l k h ht ih =>
    intro i e p hp he
    cases i with
    | zero => simp at hp; subst hp; exact .cons he ht
    | succ i => exact .cons h (ih (by simpa using hp) he)

end Go.V07


set_option linter.unusedSimpArgs false
set_option linter.unusedVariables false
namespace Go.V07
open Go Go.Vm

/-! ### more than may be -/

end Go.V07


set_option linter.unusedSimpArgs false
set_option linter.unusedVariables false
namespace Go.V07
open Go Go.Vm

/-! ### what was got is put the same -/

end Go.V07


set_option linter.unusedSimpArgs false
set_option linter.unusedVariables false
namespace Go.V07
open Go Go.Vm

/-! ### sums -/
theorem f82_inner : ∀ (r j n : Nat) (s : List VV) (h : Heap) (Q : Pst), j + r = 8 → n < 4294967296 → s.length = 23 → s.getD 3 .undef = vi .u32 n → s.getD 9 .undef = vi .i64 j →
    (∀ s', s'.length = 23 → s'.getD 1 .undef = s.getD 1 .undef → s'.getD 0 .undef = s.getD 0 .undef → s'.getD 2 .undef = s.getD 2 .undef → s'.getD 4 .undef = s.getD 4 .undef → s'.getD 3 .undef = vi .u32 (cstepN r n) → Q (.exit 2) ⟨s', h⟩) → X F (.loop f82_2) ⟨s, h⟩ Q := by
  intro r
  induction r with
  | zero =>
    intro j n s h Q hj hn hs h3 h9 hQ
    rw [X_loop, X_eq f82_2.eq_1]
    have c : ¬ (j : Int) < 8 := by omega
    simp only [go_sem, Nat.reduceLT, Nat.reduceEqDiff, reduceCtorEq, Int.reduceLT, Int.reduceEq, hs, h9, c]
    rw [X_eq f82_1.eq_1]
    simp only [go_sem, Nat.reduceLT, Nat.reduceEqDiff, reduceCtorEq, Int.reduceLT, Int.reduceEq, hs]
    exact hQ _ (by simp only [slot_len, hs]) (by simp only [go_sem, Nat.reduceLT, Nat.reduceEqDiff, reduceCtorEq, Int.reduceLT, Int.reduceEq]) (by simp only [go_sem, Nat.reduceLT, Nat.reduceEqDiff, reduceCtorEq, Int.reduceLT, Int.reduceEq]) (by simp only [go_sem, Nat.reduceLT, Nat.reduceEqDiff, reduceCtorEq, Int.reduceLT, Int.reduceEq]) (by simp only [go_sem, Nat.reduceLT, Nat.reduceEqDiff, reduceCtorEq, Int.reduceLT, Int.reduceEq]) (by simp only [go_sem, Nat.reduceLT, Nat.reduceEqDiff, reduceCtorEq, Int.reduceLT, Int.reduceEq, h3]; rfl)
  | succ r ih =>
    intro j n s h Q hj hn hs h3 h9 hQ
    rw [X_loop, X_eq f82_2.eq_1]
    have c : (j : Int) < 8 := by omega
    have hw : IntKind.i64.wrap ((j : Int) + 1) = ((j + 1 : Nat) : Int) := by rw [IntWalk.i64_in _ (by omega)]; omega
    have e1 : (n : Int).fdiv (2 ^ min ((1 : Int).toNat) IntKind.u32.bits) = ((n / 2 : Nat) : Int) := by
      show (n : Int).fdiv 2 = _
      rw [Int.fdiv_eq_ediv_of_nonneg _ (by decide)]; omega
    have e1' : (n : Int).fdiv (2 ^ min ((1 : Int).toNat) 32) = ((n / 2 : Nat) : Int) := e1
    have e2 : IntKind.u32.wrap (3988292384 * ((n % 2 : Nat) : Int)) = ((3988292384 * (n % 2) : Nat) : Int) := by
      rw [IntWalk.u32_in _ (by omega)]; omega
    have e3 : bits .xor .u32 ((n / 2 : Nat) : Int) ((3988292384 * (n % 2) : Nat) : Int) = ((cstep n : Nat) : Int) := bits_xor32 (by omega) (by omega)
    simp only [go_sem, Nat.reduceLT, Nat.reduceEqDiff, reduceCtorEq, Int.reduceLT, Int.reduceEq, hs, h9, c]
    rw [X_eq f82_1.eq_1]
    simp only [go_sem, Nat.reduceLT, Nat.reduceEqDiff, reduceCtorEq, Int.reduceLT, Int.reduceEq, hs, h3, h9, bin_shr (show ¬ (1 : Int) < 0 by decide), bits_and1 hn, bin_xor, e1, e1', e2, e3, hw]
    exact ih (j + 1) (cstep n) _ h Q (by omega) (cstep_lt hn) (by simp only [slot_len, hs]) (by simp only [go_sem, Nat.reduceLT, Nat.reduceEqDiff, reduceCtorEq, Int.reduceLT, Int.reduceEq, hs]) (by simp only [go_sem, Nat.reduceLT, Nat.reduceEqDiff, reduceCtorEq, Int.reduceLT, Int.reduceEq, hs]) (fun s' b b1 b0 b2 b4 b3 => hQ s' b (by rw [b1]; simp only [go_sem, Nat.reduceLT, Nat.reduceEqDiff, reduceCtorEq, Int.reduceLT, Int.reduceEq]) (by rw [b0]; simp only [go_sem, Nat.reduceLT, Nat.reduceEqDiff, reduceCtorEq, Int.reduceLT, Int.reduceEq]) (by rw [b2]; simp only [go_sem, Nat.reduceLT, Nat.reduceEqDiff, reduceCtorEq, Int.reduceLT, Int.reduceEq]) (by rw [b4]; simp only [go_sem, Nat.reduceLT, Nat.reduceEqDiff, reduceCtorEq, Int.reduceLT, Int.reduceEq]) (by rw [b3]; rfl))

def tabV (k : Nat) : List VV := (List.range k).map (fun i => vi .u32 (cstepN 8 i)) ++ List.replicate (256 - k) (vi .u32 0)
theorem tabV_len {k : Nat} (h : k ≤ 256) : (tabV k).length = 256 := by simp [tabV]; omega
theorem tabV_set {k : Nat} (h : k < 256) : (tabV k).set k (vi .u32 (cstepN 8 k)) = tabV (k + 1) := by
  unfold tabV
  rw [List.set_append_right _ _ (by simp)]
  have : 256 - k = (256 - (k + 1)) + 1 := by omega
  rw [this, List.replicate_succ]
  simp [List.range_succ]
theorem tabV_get {i : Nat} (h : i < 256) : (tabV 256)[i]? = some (vi .u32 (cstepN 8 i)) := by simp [tabV, h]

theorem f82_loop : ∀ (r k : Nat) (s : List VV) (h : Heap) (p : Nat) (Q : Pst), k + r = 256 → s.length = 23 → s.getD 1 .undef = .ptr p 0 → s.getD 4 .undef = vi .i64 k → h[p]? = some (.box (tabV k) false) →
    (∀ s' h', s'.length = 23 → s'.getD 1 .undef = .ptr p 0 → s'.getD 0 .undef = s.getD 0 .undef → h' = h.set p (.box (tabV 256) false) → Q (.exit 0) ⟨s', h'⟩) → X F (.loop f82_3) ⟨s, h⟩ Q := by
  intro r
  induction r with
  | zero =>
    intro k s h p Q hk hs h1 h4 hp hQ
    rw [X_loop, X_eq f82_3.eq_1]
    have c : ¬ (k : Int) < 256 := by omega
    simp only [go_sem, Nat.reduceLT, Nat.reduceEqDiff, reduceCtorEq, Int.reduceLT, Int.reduceEq, hs, h4, c]
    rw [X_eq f82_0.eq_1]
    simp only [go_sem, Nat.reduceLT, Nat.reduceEqDiff, reduceCtorEq, Int.reduceLT, Int.reduceEq, hs]
    have : k = 256 := by omega
    subst this
    refine hQ _ _ (by simp only [slot_len, hs]) (by simp only [go_sem, Nat.reduceLT, Nat.reduceEqDiff, reduceCtorEq, Int.reduceLT, Int.reduceEq, h1]) (by simp only [go_sem, Nat.reduceLT, Nat.reduceEqDiff, reduceCtorEq, Int.reduceLT, Int.reduceEq]) ?_
    apply List.ext_getElem?
    intro i
    by_cases hi : p = i
    · subst hi; rw [List.getElem?_set_self (lt_at hp), hp]
    · rw [List.getElem?_set_ne hi]
  | succ r ih =>
    intro k s h p Q hk hs h1 h4 hp hQ
    rw [X_loop, X_eq f82_3.eq_1]
    have c : (k : Int) < 256 := by omega
    have hw : IntKind.i64.wrap ((k : Int) + 1) = ((k + 1 : Nat) : Int) := by rw [IntWalk.i64_in _ (by omega)]; omega
    have e1 : IntKind.u32.wrap (k : Int) = (k : Int) := IntWalk.u32_in _ (by omega)
    simp only [go_sem, Nat.reduceLT, Nat.reduceEqDiff, reduceCtorEq, Int.reduceLT, Int.reduceEq, hs, h4, c]
    rw [X_eq f82_0.eq_1]
    simp only [go_sem, Nat.reduceLT, Nat.reduceEqDiff, reduceCtorEq, Int.reduceLT, Int.reduceEq, hs, h4, e1]
    refine f82_inner 8 0 k _ h _ (by omega) (by omega) (by simp only [slot_len, hs]) (by simp only [go_sem, Nat.reduceLT, Nat.reduceEqDiff, reduceCtorEq, Int.reduceLT, Int.reduceEq, hs]) (by simp only [go_sem, Nat.reduceLT, Nat.reduceEqDiff, reduceCtorEq, Int.reduceLT, Int.reduceEq, hs]; rfl) (fun s' b b1 b0 b2 b4 b3 => ?_)
    have b1' : s'.getD 1 .undef = .ptr p 0 := by rw [b1]; simp only [go_sem, Nat.reduceLT, Nat.reduceEqDiff, reduceCtorEq, Int.reduceLT, Int.reduceEq, h1]
    have b2' : s'.getD 2 .undef = vi .i64 k := by rw [b2]; simp only [go_sem, Nat.reduceLT, Nat.reduceEqDiff, reduceCtorEq, Int.reduceLT, Int.reduceEq, hs]
    have b4' : s'.getD 4 .undef = vi .i64 k := by rw [b4]; simp only [go_sem, Nat.reduceLT, Nat.reduceEqDiff, reduceCtorEq, Int.reduceLT, Int.reduceEq, h4]
    have b0' : s'.getD 0 .undef = s.getD 0 .undef := by rw [b0]; simp only [go_sem, Nat.reduceLT, Nat.reduceEqDiff, reduceCtorEq, Int.reduceLT, Int.reduceEq]
    have hst := st_1 (v := vi .u32 (cstepN 8 k)) rfl hp (by rw [tabV_len (by omega)]; omega : k < (tabV k).length)
    simp only [go_sem, Nat.reduceLT, Nat.reduceEqDiff, reduceCtorEq, Int.reduceLT, Int.reduceEq, b, b1', b2', b3, iaA_p (show k < 256 by omega), Nat.mul_one, hst, b4', hw]
    refine ih (k + 1) _ _ p Q (by omega) (by simp only [slot_len, b]) (by simp only [go_sem, Nat.reduceLT, Nat.reduceEqDiff, reduceCtorEq, Int.reduceLT, Int.reduceEq, b1']) (by simp only [go_sem, Nat.reduceLT, Nat.reduceEqDiff, reduceCtorEq, Int.reduceLT, Int.reduceEq, b]) (by rw [List.getElem?_set_self (lt_at hp), tabV_set (by omega)]) (fun s'' h'' d d1 d0 dh => hQ s'' h'' d d1 (by rw [d0]; simp only [go_sem, Nat.reduceLT, Nat.reduceEqDiff, reduceCtorEq, Int.reduceLT, Int.reduceEq, b0']) (by rw [dh, List.set_set]))

theorem table_f82 : ∃ v h', call F 82 [] [] = some (.ret v, h') ∧ closRes h' v = some (.agg (tabV 256)) := by
  refine call_E (P := fun v h' => closRes h' v = some (.agg (tabV 256))) (fn := f82) rfl ?_
  simp only [f82]
  generalize hZ : (List.replicate 256 (VV.cv (.sc (.int .u32 0)))) = Z
  have hZl : Z.length = 256 := by rw [← hZ]; exact List.length_replicate
  have hZt : Z = tabV 0 := by rw [← hZ]; rfl
  generalize hs0 : ([] ++ List.replicate _ VV.undef : List VV) = s
  have hs : s.length = 23 := by rw [← hs0]; rfl
  clear hs0
  simp only [go_sem, Nat.reduceLT, Nat.reduceEqDiff, reduceCtorEq, Int.reduceLT, Int.reduceEq, hs]
  have q0 : ([VO.box Z false] ++ [VO.box Z false])[1]? = some (.box (tabV 0) false) := by rw [hZt]; rfl
  refine f82_loop 256 0 _ _ 1 _ (by omega) (by simp only [slot_len, hs]) (by simp only [go_sem, Nat.reduceLT, Nat.reduceEqDiff, reduceCtorEq, Int.reduceLT, Int.reduceEq, hs]; rfl) (by simp only [go_sem, Nat.reduceLT, Nat.reduceEqDiff, reduceCtorEq, Int.reduceLT, Int.reduceEq, hs]; rfl) q0 (fun s' h' a1 b1 b0 hh => ?_)
  have b0' : s'.getD 0 .undef = .ptr 0 0 := by rw [b0]; simp only [go_sem, Nat.reduceLT, Nat.reduceEqDiff, reduceCtorEq, Int.reduceLT, Int.reduceEq, hs]; rfl
  have q1 : h'[1]? = some (.box (tabV 256) false) := by rw [hh]; rfl
  have q0 : h'[0]? = some (.box Z false) := by rw [hh]; rfl
  have l1 := ld_bxN q1 (tabV_len (Nat.le_refl _))
  have s1 := st_agg (n := 256) (tabV_len (Nat.le_refl _)) q0 hZl
  have hcl : ∀ h2 : Heap, closRes h2 (.agg (tabV 256)) = some (.agg (tabV 256)) := by
    intro h2
    obtain ⟨l, hl⟩ : ∃ l : List CV, tabV 256 = l.map .cv := ⟨(List.range 256).map (fun i => .sc (.int .u32 (cstepN 8 i))), by simp [tabV]⟩
    rw [hl]
    simp [closRes, closA, closL_cv]
  have hTl := tabV_len (Nat.le_refl 256)
  generalize tabV 256 = T at *
  simp only [go_sem, Nat.reduceLT, Nat.reduceEqDiff, reduceCtorEq, Int.reduceLT, Int.reduceEq, a1, b1, b0', l1, s1]
  exact RQ_cell (id := 0) (by simp only [go_sem, Nat.reduceLT, Nat.reduceEqDiff, reduceCtorEq, Int.reduceLT, Int.reduceEq, b0']) (by rw [List.getElem?_set_self (lt_at q0)]) hTl (hcl _)

theorem f78_loop {b : List UInt8} {u : VV} (hu : SlV 1 (eB b) u) (hb : b.length ≤ 1000000000) {h : Heap} {p : Nat} (hp : h[p]? = some (.box (tabV 256) false)) :
    ∀ (r k m : Nat) (s : List VV) (Q : Pst), k + r = b.length → m < 4294967296 → s.length = 29 → s.getD 0 .undef = vi .u32 m → s.getD 5 .undef = .ptr p 0 → s.getD 11 .undef = u → s.getD 12 .undef = vi .i64 b.length → s.getD 13 .undef = vi .i64 k →
      (∀ s', s'.length = 29 → s'.getD 0 .undef = vi .u32 (crcS m (b.drop k)) → Q (.exit 0) ⟨s', h⟩) → X F (.loop f78_1) ⟨s, h⟩ Q := by
  intro r
  induction r with
  | zero =>
    intro k m s Q hk hm hs h0 h5 h11 h12 h13 hQ
    rw [X_loop, X_eq f78_1.eq_1]
    have c : ¬ (k : Int) < (b.length : Int) := by omega
    simp only [go_sem, Nat.reduceLT, Nat.reduceEqDiff, reduceCtorEq, Int.reduceLT, Int.reduceEq, hs, h12, h13, c]
    rw [X_eq f78_0.eq_1]
    simp only [go_sem, Nat.reduceLT, Nat.reduceEqDiff, reduceCtorEq, Int.reduceLT, Int.reduceEq, hs]
    exact hQ _ (by simp only [slot_len, hs]) (by simp only [go_sem, Nat.reduceLT, Nat.reduceEqDiff, reduceCtorEq, Int.reduceLT, Int.reduceEq, h0]; rw [List.drop_eq_nil_of_le (by omega)]; rfl)
  | succ r ih =>
    intro k m s Q hk hm hs h0 h5 h11 h12 h13 hQ
    rw [X_loop, X_eq f78_1.eq_1]
    have c : (k : Int) < (b.length : Int) := by omega
    have hkl : k < b.length := by omega
    have hw : IntKind.i64.wrap ((k : Int) + 1) = ((k + 1 : Nat) : Int) := by rw [IntWalk.i64_in _ (by omega)]; omega
    have hia := hu.ia (h := h) (k := .i64) (j := (k : Int)) (by omega) (eB_get (List.getElem?_eq_getElem hkl))
    have hc := (b[k]).toNat_lt
    have e1 : (m : Int).fdiv (2 ^ min ((8 : Int).toNat) 32) = ((m / 256 : Nat) : Int) := by
      show (m : Int).fdiv 256 = _
      rw [Int.fdiv_eq_ediv_of_nonneg _ (by decide)]; omega
    have e1' : (m : Int).fdiv (2 ^ min ((8 : Int).toNat) IntKind.u32.bits) = ((m / 256 : Nat) : Int) := e1
    have e2 : IntKind.u8.wrap (m : Int) = ((m % 256 : Nat) : Int) := by rw [IntKind.wrap_u8]; omega
    have e3 : bits .xor .u8 ((m % 256 : Nat) : Int) ((b[k].toNat : Nat) : Int) = (((m % 256) ^^^ b[k].toNat : Nat) : Int) := bits_xor8 (by omega) hc
    have hx : (m % 256) ^^^ b[k].toNat < 256 := Nat.xor_lt_two_pow (n := 8) (by omega) (by omega)
    have hld : ldO h false 1 (.ptr p ((m % 256) ^^^ b[k].toNat)) = some (vi .u32 (cstepN 8 ((m % 256) ^^^ b[k].toNat)), h) := ld_ptr hp (tabV_get hx)
    have hcs : cstepN 8 ((m % 256) ^^^ b[k].toNat) < 4294967296 := cstepN_lt 8 (by omega)
    have e4 : bits .xor .u32 ((m / 256 : Nat) : Int) ((cstepN 8 ((m % 256) ^^^ b[k].toNat) : Nat) : Int) = ((cstepN 8 (m ^^^ b[k].toNat) : Nat) : Int) := by
      rw [bits_xor32 (by omega) hcs, cstep8_byte m (b[k])]
    simp only [go_sem, Nat.reduceLT, Nat.reduceEqDiff, reduceCtorEq, Int.reduceLT, Int.reduceEq, hs, h12, h13, c]
    rw [X_eq f78_0.eq_1]
    simp only [go_sem, Nat.reduceLT, Nat.reduceEqDiff, reduceCtorEq, Int.reduceLT, Int.reduceEq, hs, h0, h5, h11, h13, hia, byteCell, bin_shr (show ¬ (8 : Int) < 0 by decide), bin_xor, e1, e1', e2, e3, iaA_p hx, Nat.mul_one, hld, e4, hw]
    refine ih (k + 1) (cstepN 8 (m ^^^ b[k].toNat)) _ Q (by omega) (cstepN_lt 8 (x8_lt hm _)) (by simp only [slot_len, hs]) (by simp only [go_sem, Nat.reduceLT, Nat.reduceEqDiff, reduceCtorEq, Int.reduceLT, Int.reduceEq, hs]) (by simp only [go_sem, Nat.reduceLT, Nat.reduceEqDiff, reduceCtorEq, Int.reduceLT, Int.reduceEq, h5]) (by simp only [go_sem, Nat.reduceLT, Nat.reduceEqDiff, reduceCtorEq, Int.reduceLT, Int.reduceEq, h11]) (by simp only [go_sem, Nat.reduceLT, Nat.reduceEqDiff, reduceCtorEq, Int.reduceLT, Int.reduceEq, h12]) (by simp only [go_sem, Nat.reduceLT, Nat.reduceEqDiff, reduceCtorEq, Int.reduceLT, Int.reduceEq, hs]) (fun s' b1 b2 => hQ s' b1 ?_)
    rw [b2, List.drop_eq_getElem_cons hkl]; rfl

theorem more_f78 {b : List UInt8} {u : VV} (hu : SlV 1 (eB b) u) (hb : b.length ≤ 1000000000) {n : Nat} (hn : n < 4294967296) : ∃ h', call F 78 [vi .u32 n, u] [] = some (.ret (vi .u32 (crcM n b)), h') := by
  have : ∃ v h', call F 78 [vi .u32 n, u] [] = some (.ret v, h') ∧ (fun v h' => v = vi .u32 (crcM n b)) v h' := by
    refine call_E (fn := f78) rfl ?_
    simp only [f78]
    generalize hZ : (List.replicate 256 (VV.cv (.sc (.int .u32 0)))) = Z
    have hZl : Z.length = 256 := by rw [← hZ]; exact List.length_replicate
    generalize hs0 : ([vi .u32 n, u] ++ List.replicate _ VV.undef : List VV) = s
    have hs : s.length = 29 := by rw [← hs0]; rfl
    have h0 : s.getD 0 .undef = vi .u32 n := by rw [← hs0]; rfl
    have h1 : s.getD 1 .undef = u := by rw [← hs0]; rfl
    clear hs0
    obtain ⟨vt, ht, n44, r44⟩ := table_f82
    simp only [go_sem, Nat.reduceLT, Nat.reduceEqDiff, reduceCtorEq, Int.reduceLT, Int.reduceEq, hs]
    refine XO_callP (h1 := []) (by simp only [List.map]; rfl) n44 r44 ?_
    have q0 : ([] ++ [VO.box Z false] : Heap)[0]? = some (.box Z false) := rfl
    have s1 := st_agg (n := 256) (tabV_len (Nat.le_refl _)) q0 hZl
    have q1 : (([] ++ [VO.box Z false] : Heap).set 0 (.box (tabV 256) false))[0]? = some (.box (tabV 256) false) := rfl
    have hx : 4294967295 ^^^ n < 4294967296 := Nat.xor_lt_two_pow (n := 32) (by decide) (by omega)
    generalize hT : tabV 256 = T at *
    simp only [go_sem, Nat.reduceLT, Nat.reduceEqDiff, reduceCtorEq, Int.reduceLT, Int.reduceEq, hs, List.length_nil, s1, h0, h1, un_xor32 hn, hu.ln, eB_len]
    subst hT
    refine f78_loop hu hb q1 b.length 0 _ _ _ (by omega) hx (by simp only [slot_len, hs]) (by simp only [go_sem, Nat.reduceLT, Nat.reduceEqDiff, reduceCtorEq, Int.reduceLT, Int.reduceEq, hs]) (by simp only [go_sem, Nat.reduceLT, Nat.reduceEqDiff, reduceCtorEq, Int.reduceLT, Int.reduceEq, hs]) (by simp only [go_sem, Nat.reduceLT, Nat.reduceEqDiff, reduceCtorEq, Int.reduceLT, Int.reduceEq, hs]) (by simp only [go_sem, Nat.reduceLT, Nat.reduceEqDiff, reduceCtorEq, Int.reduceLT, Int.reduceEq, hs]) (by simp only [go_sem, Nat.reduceLT, Nat.reduceEqDiff, reduceCtorEq, Int.reduceLT, Int.reduceEq, hs]; rfl) (fun s' a1 a0 => ?_)
    have hlt := crcS_lt b hx
    simp only [go_sem, Nat.reduceLT, Nat.reduceEqDiff, reduceCtorEq, Int.reduceLT, Int.reduceEq, a1, a0, un_xor32 hlt]
    rfl
  obtain ⟨v, h', e1, rfl⟩ := this
  exact ⟨h', e1⟩

theorem sum_f71 {b : List UInt8} {u : VV} (hu : SlV 1 (eB b) u) (hb : b.length ≤ 1000000000) : ∃ h', call F 71 [u] [] = some (.ret (vi .u32 (crc b)), h') := by
  have : ∃ v h', call F 71 [u] [] = some (.ret v, h') ∧ (fun v h' => v = vi .u32 (crc b)) v h' := by
    refine call_E (fn := f71) rfl ?_
    simp only [f71]
    generalize hs0 : ([u] ++ List.replicate _ VV.undef : List VV) = s
    have hs : s.length = 5 := by rw [← hs0]; rfl
    have h0 : s.getD 0 .undef = u := by rw [← hs0]; rfl
    clear hs0
    obtain ⟨h', n39⟩ := more_f78 hu hb (n := 0) (by decide)
    simp only [go_sem, Nat.reduceLT, Nat.reduceEqDiff, reduceCtorEq, Int.reduceLT, Int.reduceEq, hs, h0]
    refine XO_callP (h1 := []) (by simp only [List.map, go_sem, Nat.reduceLT, Nat.reduceEqDiff, reduceCtorEq, Int.reduceLT, Int.reduceEq, hs]; exact clos_cv (hu.clos rfl)) n39 rfl ?_
    simp only [go_sem, Nat.reduceLT, Nat.reduceEqDiff, reduceCtorEq, Int.reduceLT, Int.reduceEq, hs]
    rfl
  obtain ⟨v, h', e1, rfl⟩ := this
  exact ⟨h', e1⟩
end Go.V07


set_option linter.unusedSimpArgs false
set_option linter.unusedVariables false
namespace Go.V07
open Go Go.Vm

/-! ### Seal, Right -/
theorem toNat_of {n : Nat} (h : n < 256) : (UInt8.ofNat n).toNat = n := by rw [UInt8.toNat_ofNat']; exact Nat.mod_eq_of_lt h
theorem le4_e (n : Nat) (h : n < 4294967296) : eB (le4 n) = [[.sc (.int .u8 ((n % 256 : Nat) : Int))], [.sc (.int .u8 ((n / 256 % 256 : Nat) : Int))], [.sc (.int .u8 ((n / 65536 % 256 : Nat) : Int))], [.sc (.int .u8 ((n / 16777216 : Nat) : Int))]] := by
  simp only [eB, le4, List.map, byteCell]
  rw [toNat_of (by omega), toNat_of (by omega), toNat_of (by omega), toNat_of (by omega)]

theorem seal_f60 {g0 h : Heap} {b : List UInt8} {u : VV} (hu : BSrc g0 h b u) (hb : b.length ≤ 900000000) : Ret F 60 [u] h fun v h' => NB g0 h' 1 (eB (sealB b)) v := by
  refine call_E (fn := f60) rfl ?_
  simp only [f60]
  generalize hs0 : ([u] ++ List.replicate _ VV.undef : List VV) = s
  have hs : s.length = 27 := by rw [← hs0]; rfl
  have h0 : s.getD 0 .undef = u := by rw [← hs0]; rfl
  clear hs0
  obtain ⟨w, h1, hc, hw, e1, hsrc⟩ := hu.cl
  obtain ⟨hx, n32⟩ := sum_f71 hw (by omega)
  have hlt := crc_lt b
  generalize hn : crc b = n at *
  simp only [go_sem, Nat.reduceLT, Nat.reduceEqDiff, reduceCtorEq, Int.reduceLT, Int.reduceEq, hs, h0]
  refine XO_callP (h1 := h1) (by simp only [List.map, go_sem, Nat.reduceLT, Nat.reduceEqDiff, reduceCtorEq, Int.reduceLT, Int.reduceEq, hs]; exact hc) n32 rfl ?_
  have hw4 : IntKind.i64.wrap ((b.length : Int) + 4) = ((b.length + 4 : Nat) : Int) := by rw [IntWalk.i64_in _ (by omega)]; omega
  simp only [go_sem, Nat.reduceLT, Nat.reduceEqDiff, reduceCtorEq, Int.reduceLT, Int.reduceEq, hs, h0, hu.ln, hw4]
  refine XO_mksNB (k := .i64) (k' := .i64) (b := b.length + 4) e1 (by simp only [go_sem, Nat.reduceLT, Nat.reduceEqDiff, reduceCtorEq, Int.reduceLT, Int.reduceEq]) (by simp only [go_sem, Nat.reduceLT, Nat.reduceEqDiff, reduceCtorEq, Int.reduceLT, Int.reduceEq, hs]) (by omega) (by omega) (by omega) (fun v2 h2 B2 x2 => ?_)
  simp only [go_sem, Nat.reduceLT, Nat.reduceEqDiff, reduceCtorEq, Int.reduceLT, Int.reduceEq, hs, h0]
  refine XO_appNB B2 (new := eB b) (by simp only [go_sem, Nat.reduceLT, Nat.reduceEqDiff, reduceCtorEq, Int.reduceLT, Int.reduceEq, hs]) (by simp only [go_sem, Nat.reduceLT, Nat.reduceEqDiff, reduceCtorEq, Int.reduceLT, Int.reduceEq, hs]; exact hsrc _ x2) (by simp only [List.length_nil, eB_len]; omega) (by simp only [List.length_nil, eB_len]; omega) (fun v3 h3 B3 _ _ _ => ?_)
  have s1 : IntKind.u8.wrap (n : Int) = ((n % 256 : Nat) : Int) := by rw [IntKind.wrap_u8]; omega
  have s2 : IntKind.u8.wrap ((n : Int).fdiv (2 ^ min ((8 : Int).toNat) 32)) = ((n / 256 % 256 : Nat) : Int) := by
    show IntKind.u8.wrap ((n : Int).fdiv 256) = _
    rw [Int.fdiv_eq_ediv_of_nonneg _ (by decide), IntKind.wrap_u8]; omega
  have s3 : IntKind.u8.wrap ((n : Int).fdiv (2 ^ min ((16 : Int).toNat) 32)) = ((n / 65536 % 256 : Nat) : Int) := by
    show IntKind.u8.wrap ((n : Int).fdiv 65536) = _
    rw [Int.fdiv_eq_ediv_of_nonneg _ (by decide), IntKind.wrap_u8]; omega
  have s4 : IntKind.u8.wrap ((n : Int).fdiv (2 ^ min ((24 : Int).toNat) 32)) = ((n / 16777216 : Nat) : Int) := by
    show IntKind.u8.wrap ((n : Int).fdiv 16777216) = _
    rw [Int.fdiv_eq_ediv_of_nonneg _ (by decide), IntKind.wrap_u8]; omega
  have s2' : IntKind.u8.wrap ((n : Int).fdiv (2 ^ min ((8 : Int).toNat) IntKind.u32.bits)) = ((n / 256 % 256 : Nat) : Int) := s2
  have s3' : IntKind.u8.wrap ((n : Int).fdiv (2 ^ min ((16 : Int).toNat) IntKind.u32.bits)) = ((n / 65536 % 256 : Nat) : Int) := s3
  have s4' : IntKind.u8.wrap ((n : Int).fdiv (2 ^ min ((24 : Int).toNat) IntKind.u32.bits)) = ((n / 16777216 : Nat) : Int) := s4
  simp only [go_sem, Nat.reduceLT, Nat.reduceEqDiff, reduceCtorEq, Int.reduceLT, Int.reduceEq, hs, bin_shr (show ¬ (8 : Int) < 0 by decide), bin_shr (show ¬ (16 : Int) < 0 by decide), bin_shr (show ¬ (24 : Int) < 0 by decide), s1, s2, s3, s4, s2', s3', s4', mk_4]
  rw [List.nil_append] at B3
  refine XO_appNB B3 (new := eB (le4 n)) (by simp only [go_sem, Nat.reduceLT, Nat.reduceEqDiff, reduceCtorEq, Int.reduceLT, Int.reduceEq, hs]) (by simp only [go_sem, Nat.reduceLT, Nat.reduceEqDiff, reduceCtorEq, Int.reduceLT, Int.reduceEq, hs]; rw [le4_e n hlt]) (by simp only [eB_len]; rw [show (le4 n).length = 4 from rfl]; omega) (by simp only [eB_len]; rw [show (le4 n).length = 4 from rfl]; omega) (fun v4 h4 B4 _ _ _ => ?_)
  simp only [go_sem, Nat.reduceLT, Nat.reduceEqDiff, reduceCtorEq, Int.reduceLT, Int.reduceEq, hs]
  unfold sealB
  rw [eB_append, hn]
  exact B4
theorem seal_pure {b : List UInt8} {u : VV} (hu : SlV 1 (eB b) u) (hb : b.length ≤ 900000000) : RetP F 60 [u] (SlV 1 (eB (sealB b))) := by
  obtain ⟨v, h', n, B⟩ := seal_f60 (hu.bsrc (HExt.refl [])) hb
  exact ⟨v, h', n, B.res⟩

theorem equal_f40 {a b : List UInt8} {u w : VV} (hu : SlV 1 (eB a) u) (hw : SlV 1 (eB b) w) : call F 40 [u, w] [] = some (.ret (vb (decide (a = b))), []) := by
  refine call_P (fn := f40) rfl ?_
  simp only [f40]
  generalize hs0 : ([u, w] ++ List.replicate _ VV.undef : List VV) = s
  have hs : s.length = 10 := by rw [← hs0]; rfl
  have h0 : s.getD 0 .undef = u := by rw [← hs0]; rfl
  have h1 : s.getD 1 .undef = w := by rw [← hs0]; rfl
  clear hs0
  have te : binO .eql (txt a) (txt b) = some (vb (decide (a = b))) := by
    by_cases h : a = b <;> simp [binO, binV, h]
  simp only [go_sem, Nat.reduceLT, Nat.reduceEqDiff, reduceCtorEq, Int.reduceLT, Int.reduceEq, hs, h0, h1, hu.bs, hw.bs, te]
  exact ⟨rfl, rfl⟩

/-! ### the document's -/
end Go.V07


set_option linter.unusedSimpArgs false
set_option linter.unusedVariables false
namespace Go.V07
open Go Go.Vm

/-! ### a page: plain -/
abbrev KV := List UInt8 × List UInt8
def putR : List UInt8 → Nat → Nat → List KV → List UInt8
  | pg, _, _, [] => pg
  | pg, i, a, p :: r => putR (splice (pg.set (2 + i) (UInt8.ofNat (a - (rowB p).length))) (a - (rowB p).length) (rowB p)) (i + 1) (a - (rowB p).length) r
def page0 (level n : Nat) : List UInt8 := UInt8.ofNat level :: UInt8.ofNat n :: List.replicate 250 0
def pageR (level : Nat) (l : List KV) : List UInt8 := putR (page0 level l.length) 0 252 l
def pageB (level : Nat) (l : List KV) : List UInt8 := sealB (pageR level l)
/-! ### the way back -/
end Go.V07


set_option linter.unusedSimpArgs false
set_option linter.unusedVariables false
namespace Go.V07
open Go Go.Vm

theorem Buf.nb {h0 h : Heap} {z : Nat} {els : List (List CV)} {v : VV} (b : Buf h0 z els v h) : NB h0 h z els v := by
  rcases b with ⟨rfl, rfl, rfl⟩ | ⟨g, rfl, rfl⟩
  · exact NB.nil _ _
  · exact ⟨HExt.push _ _, .inr ⟨h0.length, g, Nat.le_refl _, rfl, at_last⟩⟩

/-! ### a row's bytes -/
end Go.V07


set_option linter.unusedSimpArgs false
set_option linter.unusedVariables false
namespace Go.V07
open Go Go.Vm

/-! ### Fit -/
end Go.V07


set_option linter.unusedSimpArgs false
set_option linter.unusedVariables false
namespace Go.V07
open Go Go.Vm

/-! ### Encode -/
/-- What Encode tells. -/
def EncP (h : Heap) (x : Option (List UInt8)) (v : VV) (h' : Heap) : Prop := match x with
  | none => v = .tup [nilS, vb false]
  | some b => ∃ w, v = .tup [w, vb true] ∧ NB h h' 1 (eB b) w

end Go.V07


set_option linter.unusedSimpArgs false
set_option linter.unusedVariables false
namespace Go.V07
open Go Go.Vm

/-! ### the document's Encode -/
end Go.V07


set_option linter.unusedSimpArgs false
set_option linter.unusedVariables false
namespace Go.V07
open Go Go.Vm

/-! ### a row that ends at a place -/
end Go.V07


set_option linter.unusedSimpArgs false
set_option linter.unusedVariables false
namespace Go.V07
open Go Go.Vm

/-! ### Decode -/
theorem NB.snoc {h0 h : Heap} {els : List (List CV)} {kv : List KV} {v : VV} (hR : RowsE els kv) (p : KV) : RowsE (els ++ [rowC p.1 p.2]) (kv ++ [p]) :=
  hR.snoc ⟨.sl 1 (eB p.2) false, rfl, .inr ⟨false, rfl⟩⟩

theorem EncP.pure {b : Option (List UInt8)} {v : VV} {h' : Heap} (h : EncP [] b v h') : ∃ w, closRes h' v = some (.tup [w, vb b.isSome]) ∧ ∀ c, b = some c → SlV 1 (eB c) w := by
  cases b with
  | none =>
    have : v = .tup [nilS, vb false] := h
    subst this
    exact ⟨nilS, rfl, fun c hc => by cases hc⟩
  | some c =>
    obtain ⟨w, rfl, B⟩ := h
    obtain ⟨x, h1, e1, e2⟩ := B.clos
    refine ⟨x, ?_, fun c' hc => by cases hc; exact e2⟩
    have : closAs h' [w, vb true] = some ([x, vb true], h1) := closAs_cons e1 rfl
    simp only [closRes, this, Option.map_some, Option.isSome_some]
end Go.V07


set_option linter.unusedSimpArgs false
set_option linter.unusedVariables false
namespace Go.V07
open Go Go.Vm

/-! ### the document's Decode -/
/-! ### Find -/
theorem bl_leq {a b : List UInt8} : binO .leq (txt a) (txt b) = some (vb (Op.bytesLess a b || a == b)) := rfl

end Go.V07


set_option linter.unusedSimpArgs false
set_option linter.unusedVariables false
namespace Go.V07
open Go Go.Vm

/-! ### Rising -/
end Go.V07


set_option linter.unusedSimpArgs false
set_option linter.unusedVariables false
namespace Go.V07
open Go Go.Vm

/-! ### the chapter's example -/
/-! ### both tell the same -/
/-! ### rows, as they are read -/
end Go.V07


set_option linter.unusedSimpArgs false
set_option linter.unusedVariables false
namespace Go.V07
open Go Go.Vm

/-! ### PagePuts -/
theorem take_rows {els : List (List CV)} {kv : List KV} (hR : RowsE els kv) (n : Nat) : RowsE (els.take n) (kv.take n) := by
  induction hR generalizing n with
  | nil => simp; exact .nil
  | cons h _ ih =>
    cases n with
    | zero => exact .nil
    | succ n => exact .cons h (ih n)

end Go.V07


set_option linter.unusedSimpArgs false
set_option linter.unusedVariables false
namespace Go.V07
open Go Go.Vm

/-! ### a level -/
def keyOf : List KV → List UInt8
  | [] => []
  | p :: _ => p.1
def aboveL : Nat → List (List KV) → List KV
  | _, [] => []
  | n, g :: r => (keyOf g, num (clamp (n : Int))) :: aboveL (n + 1) r
def sumL (gs : List (List KV)) : Nat := (gs.map List.length).sum
/-- Pages, as they lie. -/
inductive PgE : List (List CV) → List (List UInt8) → Prop
  | nil : PgE [] []
  | cons {c : CV} {b : List UInt8} {l : List (List CV)} {k : List (List UInt8)} (h : SlV 1 (eB b) (.cv c)) (t : PgE l k) : PgE ([c] :: l) (b :: k)
theorem PgE.len {l : List (List CV)} {k : List (List UInt8)} (h : PgE l k) : l.length = k.length := by
  induction h with
  | nil => rfl
  | cons _ _ ih => simp [ih]
theorem PgE.app {l m : List (List CV)} {k j : List (List UInt8)} (h : PgE l k) (h2 : PgE m j) : PgE (l ++ m) (k ++ j) := by
  induction h with
  | nil => exact h2
  | cons h _ ih => exact .cons h ih
theorem PgE.snoc {l : List (List CV)} {k : List (List UInt8)} (h : PgE l k) {c : CV} {b : List UInt8} (hc : SlV 1 (eB b) (.cv c)) : PgE (l ++ [[c]]) (k ++ [b]) := h.app (.cons hc .nil)
theorem PgE.get {l : List (List CV)} {k : List (List UInt8)} (h : PgE l k) {i : Nat} (hi : i < k.length) : ∃ c b, l[i]? = some [c] ∧ k[i]? = some b ∧ SlV 1 (eB b) (.cv c) := by
  induction h generalizing i with
  | nil => simp at hi
  | cons h t ih =>
    cases i with
    | zero => exact ⟨_, _, rfl, rfl, h⟩
    | succ i => obtain ⟨c, b, h1, h2, h3⟩ := ih (i := i) (by simpa using hi); exact ⟨c, b, by simpa using h1, by simpa using h2, h3⟩
theorem PgE.take {l : List (List CV)} {k : List (List UInt8)} (h : PgE l k) (n : Nat) : PgE (l.take n) (k.take n) := by
  induction h generalizing n with
  | nil => simp; exact .nil
  | cons h _ ih =>
    cases n with
    | zero => exact .nil
    | succ n => exact .cons h (ih n)

/-- What a level has done. -/
structure LvB (tb N n : Nat) (pg0 : List (List UInt8)) (g : Heap) (gs : List (List KV)) : Prop where
  i3 : g[N]? = some (.box [.ptr tb 0] false)
  i4 : g[N + 1]? = some (.box [vi .i64 n] false)
  i6 : g[N + 2]? = some (.box [nilS] false)
  i7 : g[N + 3]? = some (.box [vb false] false)
  i8 : ∃ va elsA, g[N + 4]? = some (.box [va] false) ∧ BufG g 2 elsA va ∧ RowsE elsA (aboveL pg0.length gs)
  i9 : g[N + 5]? = some (.box [vi .i64 (sumL gs : Nat)] false)
  it : ∃ vp elsP, g[tb]? = some (.box [vp] false) ∧ BufG g 1 elsP vp ∧ PgE elsP (pg0 ++ gs.map (pageB n))

theorem LvB.loop {tb N n : Nat} {pg0 : List (List UInt8)} {g : Heap} {gs : List (List KV)} (L : LvB tb N n pg0 g gs) (htb : tb < N) {ps : List Nat} {a b : IR} {s : List VV} {t : LoopState} {p : Option Jmp} (ho : g[N + 7]? = some (.loop ps a b s t p)) (o : VO) : LvB tb N n pg0 (g.set (N + 7) o) gs := by
  obtain ⟨va, elsA, a1, a2, a3⟩ := L.i8
  obtain ⟨vp, elsP, b1, b2, b3⟩ := L.it
  have ne : ∀ {j : Nat}, j ≠ N + 7 → (g.set (N + 7) o)[j]? = g[j]? := fun hj => List.getElem?_set_ne (fun e => hj e.symm)
  exact ⟨by rw [ne (by omega)]; exact L.i3, by rw [ne (by omega)]; exact L.i4, by rw [ne (by omega)]; exact L.i6, by rw [ne (by omega)]; exact L.i7, ⟨va, elsA, by rw [ne (by omega)]; exact a1, a2.setLoop ho o, a3⟩, by rw [ne (by omega)]; exact L.i9, ⟨vp, elsP, by rw [ne (by omega)]; exact b1, b2.setLoop ho o, b3⟩⟩

end Go.V07


set_option linter.unusedSimpArgs false
set_option linter.unusedVariables false
namespace Go.V07
open Go Go.Vm

theorem mid {a b : IR} {st : St} {Q : Pst} {P : St → Prop} (h1 : X F a st fun o st' => o = .norm ∧ P st') (h2 : ∀ st', P st' → X F b st' Q) : X F a st (K F b Q) := by
  obtain ⟨o, st', e, rfl, hP⟩ := h1
  exact ⟨.norm, st', e, h2 st' hP⟩
theorem seq_mid {a b : IR} {st : St} {Q : Pst} {P : St → Prop} (h1 : X F a st fun o st' => o = .norm ∧ P st') (h2 : ∀ st', P st' → X F b st' Q) : X F (.seq a b) st Q := by
  obtain ⟨o, st', e, rfl, hP⟩ := h1
  exact X_seq.mpr ⟨.norm, st', e, h2 st' hP⟩

end Go.V07


set_option linter.unusedSimpArgs false
set_option linter.unusedVariables false
namespace Go.V07
open Go Go.Vm

section
variable {a b : List (List UInt8)} {ea eb : List (List CV)} {u w : VV}

end
end Go.V07


set_option linter.unusedSimpArgs false
set_option linter.unusedVariables false
namespace Go.V07
open Go Go.Vm

def layS (r : KV) : List KV → Bool → List KV × Bool
  | [], b => ([], b)
  | p :: t, b => if p.1 = r.1 then layS r t b else if b = false ∧ Op.bytesLess r.1 p.1 = true then (r :: p :: (layS r t true).1, (layS r t true).2) else (p :: (layS r t b).1, (layS r t b).2)
def layF (l : List KV) (r : KV) : List KV := if (layS r l false).2 = true then (layS r l false).1 else (layS r l false).1 ++ [r]

theorem layS_len (r : KV) : ∀ (l : List KV) (b : Bool), (layS r l b).1.length ≤ l.length + 1
  | [], _ => by simp [layS]
  | p :: t, b => by
    have h1 := layS_len r t b
    have h2 : (layS r t true).1.length ≤ t.length := by
      have : ∀ t : List KV, (layS r t true).1.length ≤ t.length := by
        intro t
        induction t with
        | nil => simp [layS]
        | cons p t ih =>
          rw [layS]
          split
          · simp; omega
          · rw [if_neg (by simp)]; simp; omega
      exact this t
    rw [layS]
    split
    · simp; omega
    · split
      · simp; omega
      · simp; omega

theorem bo_gtr {a b : List UInt8} : binO .gtr (txt a) (txt b) = some (vb (Op.bytesLess b a)) := by
  have h1 : binO .gtr (txt a) (txt b) = some (vb (!(Op.bytesLess a b || a == b))) := rfl
  rw [h1]
  have h2 : bl_le a b = (Op.bytesLess a b || a == b) := rfl
  rw [← h2]
  cases h : bl_le a b with
  | true => rw [bl_le_iff.1 h]; rfl
  | false => rw [bl_not_le.1 h]; rfl
theorem bo_eql {a b : List UInt8} : binO .eql (txt a) (txt b) = some (vb (decide (a = b))) := by
  by_cases h : a = b <;> simp [binO, binV, h]

theorem mk_row {h : Heap} {k : List UInt8} {c : CV} : mkO h 2 1 [.cv (.sc (.string ⟨#[]⟩)), .cv (.sc (.slice none 0 0))] [(0, 2, .agg [txt k, .cv c])] = some (.cv (.sl 2 [[.sc (.string ⟨k.toArray⟩), c]] true), h) := mk_agg2

section
variable {l : List KV} {els : List (List CV)} {u : VV} {r : KV} {cr : CV}
theorem f29_loop {h0 : Heap} {p0 : Nat} (hV : ∀ g, HExt h0 g → VF g 2 els u) (hB0 : h0[p0]? = some (.box [txt r.1, .cv cr] false)) (hR : RowsE els l) (hn : l.length ≤ 1000000) (hcr : SlV 1 (eB r.2) (.cv cr)) : ∀ (m i : Nat) (acc : List KV) (elsA : List (List CV)) (va : VV) (b : Bool) (s : List VV) (h : Heap) (Q : Pst), i + m = l.length → acc.length ≤ 2 * i → NB h0 h 2 elsA va → RowsE elsA acc →
    s.length = 52 → s.getD 0 .undef = u → s.getD 3 .undef = .ptr p0 0 → s.getD 5 .undef = va → s.getD 6 .undef = vb b → s.getD 7 .undef = vi .i64 i →
    (∀ s' h' va' elsA', s'.length = 52 → s'.getD 3 .undef = .ptr p0 0 → s'.getD 5 .undef = va' → s'.getD 6 .undef = vb (layS r (l.drop i) b).2 → NB h0 h' 2 elsA' va' → RowsE elsA' (acc ++ (layS r (l.drop i) b).1) → Q (.exit 0) ⟨s', h'⟩) → X F (.loop f29_2) ⟨s, h⟩ Q := by
  intro m
  have hl := hR.len
  induction m with
  | zero =>
    intro i acc elsA va b s h Q hi hac hA hRA hs e0 e3 e5 e6 e7 hQ
    have c : ¬ ((i : Nat) : Int) < (els.length : Int) := by omega
    have hS := hV h hA.ext
    rw [X_loop, X_eq f29_2.eq_1]
    simp only [go_sem, Nat.reduceLT, Nat.reduceEqDiff, reduceCtorEq, Int.reduceLT, Int.reduceEq, hs, e7, e0, hS.ln, c]
    have hd : l.drop i = [] := List.drop_eq_nil_of_le (by omega)
    rw [hd] at hQ
    refine hQ _ _ va elsA (by simp only [slot_len, hs]) (by simp only [go_sem, Nat.reduceLT, Nat.reduceEqDiff, reduceCtorEq, Int.reduceLT, Int.reduceEq, e3]) (by simp only [go_sem, Nat.reduceLT, Nat.reduceEqDiff, reduceCtorEq, Int.reduceLT, Int.reduceEq, e5]) (by simp only [go_sem, Nat.reduceLT, Nat.reduceEqDiff, reduceCtorEq, Int.reduceLT, Int.reduceEq, e6]; rfl) hA ?_
    simpa [layS] using hRA
  | succ m ih =>
    intro i acc elsA va b s h Q hi hac hA hRA hs e0 e3 e5 e6 e7 hQ
    have c : ((i : Nat) : Int) < (els.length : Int) := by omega
    obtain ⟨e, p, he, hp, c', rfl, hc'⟩ := hR.get (i := i) (by omega)
    have hAl := hRA.len
    have hd : l.drop i = p :: l.drop (i + 1) := by
      obtain ⟨la, rfl⟩ := List.getElem?_eq_some_iff.1 hp
      rw [List.drop_eq_getElem_cons la]
    have hS := hV h hA.ext
    obtain ⟨q, ia, la2, q3, _⟩ := (hV h hA.ext).cell (k := .i64) he
    obtain ⟨q', fdr, la⟩ := q3 0 _ rfl
    have hwr : IntKind.i64.wrap ((i : Int) + 1) = ((i + 1 : Nat) : Int) := by rw [IntWalk.i64_in _ (by omega)]; omega
    have hb : h[p0]? = some (.box [txt r.1, .cv cr] false) := hA.ext.get hB0
    have fd0 : fdO 0 (.ptr p0 0) = some (.ptr p0 0) := rfl
    have lb : ldO h false 1 (.ptr p0 0) = some (txt r.1, h) := ld_ptr hb rfl
    rw [hd] at hQ
    rw [X_loop, X_eq f29_2.eq_1]
    simp only [go_sem, Nat.reduceLT, Nat.reduceEqDiff, reduceCtorEq, Int.reduceLT, Int.reduceEq, hs, e7, e0, hS.ln, c]
    rw [X_eq f29_0.eq_1]
    simp only [go_sem, Nat.reduceLT, Nat.reduceEqDiff, reduceCtorEq, Int.reduceLT, Int.reduceEq, hs]
    refine X_draw rfl ?_
    simp only [go_sem, Nat.reduceLT, Nat.reduceEqDiff, reduceCtorEq, Int.reduceLT, Int.reduceEq, hs, e0, e7, ia, fdr, la, e3, fd0, lb, bo_eql]
    by_cases d : p.1 = r.1
    · simp only [go_sem, Nat.reduceLT, Nat.reduceEqDiff, reduceCtorEq, Int.reduceLT, Int.reduceEq, hs, d, e7, hwr]
      refine ih (i + 1) acc elsA va b _ _ Q (by omega) (by omega) hA hRA (by simp only [slot_len, hs]) (by simp only [go_sem, Nat.reduceLT, Nat.reduceEqDiff, reduceCtorEq, Int.reduceLT, Int.reduceEq, e0]) (by simp only [go_sem, Nat.reduceLT, Nat.reduceEqDiff, reduceCtorEq, Int.reduceLT, Int.reduceEq, e3]) (by simp only [go_sem, Nat.reduceLT, Nat.reduceEqDiff, reduceCtorEq, Int.reduceLT, Int.reduceEq, e5]) (by simp only [go_sem, Nat.reduceLT, Nat.reduceEqDiff, reduceCtorEq, Int.reduceLT, Int.reduceEq, e6]) (by simp only [go_sem, Nat.reduceLT, Nat.reduceEqDiff, reduceCtorEq, Int.reduceLT, Int.reduceEq, hs]) ?_
      simp only [layS, if_pos d] at hQ
      exact hQ
    · simp only [layS, if_neg d] at hQ
      simp only [go_sem, Nat.reduceLT, Nat.reduceEqDiff, reduceCtorEq, Int.reduceLT, Int.reduceEq, hs, d]
      refine mid (P := fun st => ∃ acc' elsB vb' b', st.s.length = 52 ∧ st.s.getD 0 .undef = u ∧ st.s.getD 3 .undef = .ptr p0 0 ∧ st.s.getD 5 .undef = vb' ∧ st.s.getD 6 .undef = vb b' ∧ st.s.getD 7 .undef = vi .i64 i ∧ NB h0 st.h 2 elsB vb' ∧ RowsE elsB acc' ∧ acc'.length ≤ 2 * i + 1 ∧
          (if b = false ∧ Op.bytesLess r.1 p.1 = true then (r :: p :: (layS r (l.drop (i + 1)) true).1, (layS r (l.drop (i + 1)) true).2) else (p :: (layS r (l.drop (i + 1)) b).1, (layS r (l.drop (i + 1)) b).2)).2 = (layS r (l.drop (i + 1)) b').2 ∧
          acc ++ (if b = false ∧ Op.bytesLess r.1 p.1 = true then (r :: p :: (layS r (l.drop (i + 1)) true).1, (layS r (l.drop (i + 1)) true).2) else (p :: (layS r (l.drop (i + 1)) b).1, (layS r (l.drop (i + 1)) b).2)).1 = acc' ++ (p :: (layS r (l.drop (i + 1)) b').1)) ?_ ?_
      · rw [X_eq f29_1.eq_1]
        simp only [go_sem, Nat.reduceLT, Nat.reduceEqDiff, reduceCtorEq, Int.reduceLT, Int.reduceEq, hs]
        refine X_draw rfl ?_
        cases b with
        | true =>
          simp only [go_sem, Nat.reduceLT, Nat.reduceEqDiff, reduceCtorEq, Int.reduceLT, Int.reduceEq, hs, e6]
          rw [if_neg (by simp)]
          exact ⟨trivial, acc, elsA, va, true, by simp only [slot_len, hs], by simp only [go_sem, Nat.reduceLT, Nat.reduceEqDiff, reduceCtorEq, Int.reduceLT, Int.reduceEq, e0], by simp only [go_sem, Nat.reduceLT, Nat.reduceEqDiff, reduceCtorEq, Int.reduceLT, Int.reduceEq, e3], by simp only [go_sem, Nat.reduceLT, Nat.reduceEqDiff, reduceCtorEq, Int.reduceLT, Int.reduceEq, e5], by simp only [go_sem, Nat.reduceLT, Nat.reduceEqDiff, reduceCtorEq, Int.reduceLT, Int.reduceEq, e6], by simp only [go_sem, Nat.reduceLT, Nat.reduceEqDiff, reduceCtorEq, Int.reduceLT, Int.reduceEq, e7], hA, hRA, by omega, rfl, rfl⟩
        | false =>
          simp only [go_sem, Nat.reduceLT, Nat.reduceEqDiff, reduceCtorEq, Int.reduceLT, Int.reduceEq, hs, e6, e0, e7, ia, fdr, la, e3, fd0, lb, bo_gtr]
          cases d2 : Op.bytesLess r.1 p.1 with
          | false =>
            simp only [go_sem, Nat.reduceLT, Nat.reduceEqDiff, reduceCtorEq, Int.reduceLT, Int.reduceEq, hs]
            rw [if_neg (by simp)]
            exact ⟨trivial, acc, elsA, va, false, by simp only [slot_len, hs], by simp only [go_sem, Nat.reduceLT, Nat.reduceEqDiff, reduceCtorEq, Int.reduceLT, Int.reduceEq, e0], by simp only [go_sem, Nat.reduceLT, Nat.reduceEqDiff, reduceCtorEq, Int.reduceLT, Int.reduceEq, e3], by simp only [go_sem, Nat.reduceLT, Nat.reduceEqDiff, reduceCtorEq, Int.reduceLT, Int.reduceEq, e5], by simp only [go_sem, Nat.reduceLT, Nat.reduceEqDiff, reduceCtorEq, Int.reduceLT, Int.reduceEq, e6], by simp only [go_sem, Nat.reduceLT, Nat.reduceEqDiff, reduceCtorEq, Int.reduceLT, Int.reduceEq, e7], hA, hRA, by omega, rfl, rfl⟩
          | true =>
            have lb2 : ldO h true 2 (.ptr p0 0) = some (.agg [txt r.1, .cv cr], h) := ld_bxN hb rfl
            simp only [go_sem, Nat.reduceLT, Nat.reduceEqDiff, reduceCtorEq, Int.reduceLT, Int.reduceEq, hs, e5, e3, lb2, mk_row]
            refine XO_appNB hA (by simp only [go_sem, Nat.reduceLT, Nat.reduceEqDiff, reduceCtorEq, Int.reduceLT, Int.reduceEq, hs, e5]) (by simp only [go_sem, Nat.reduceLT, Nat.reduceEqDiff, reduceCtorEq, Int.reduceLT, Int.reduceEq, hs, src_sl]; rfl) (by simp only [List.length_singleton]; omega) (by simp only [List.length_singleton]; omega) (fun va' h4 hA4 _ _ _ => ?_)
            simp only [go_sem, Nat.reduceLT, Nat.reduceEqDiff, reduceCtorEq, Int.reduceLT, Int.reduceEq, hs]
            rw [if_pos (by simp)]
            refine ⟨trivial, acc ++ [r], _, va', true, by simp only [slot_len, hs], by simp only [go_sem, Nat.reduceLT, Nat.reduceEqDiff, reduceCtorEq, Int.reduceLT, Int.reduceEq, e0], by simp only [go_sem, Nat.reduceLT, Nat.reduceEqDiff, reduceCtorEq, Int.reduceLT, Int.reduceEq, e3], by simp only [go_sem, Nat.reduceLT, Nat.reduceEqDiff, reduceCtorEq, Int.reduceLT, Int.reduceEq, hs], by simp only [go_sem, Nat.reduceLT, Nat.reduceEqDiff, reduceCtorEq, Int.reduceLT, Int.reduceEq, hs], by simp only [go_sem, Nat.reduceLT, Nat.reduceEqDiff, reduceCtorEq, Int.reduceLT, Int.reduceEq, e7], hA4, hRA.snoc ⟨_, rfl, hcr⟩, by rw [List.length_append, List.length_singleton]; omega, rfl, by rw [List.append_assoc]; rfl⟩
      rintro ⟨s2, g⟩ ⟨acc', elsB, vb', b', hs, e0, e3, e5, e6, e7, hB, hRB, hlen, E2, E1⟩
      simp only at hs e0 e3 e5 e6 e7 hB
      obtain ⟨qb, ib, lb2, _, _⟩ := (hV g hB.ext).cell (k := .i64) he
      have lb2' : ldO g true 2 qb = some (.agg [txt p.1, .cv c'], g) := lb2 2 rfl
      rw [E2, E1] at hQ
      have hBl := hRB.len
      simp only [go_sem, Nat.reduceLT, Nat.reduceEqDiff, reduceCtorEq, Int.reduceLT, Int.reduceEq, hs, e5, e0, e7, ib, lb2', mk_row]
      refine XO_appNB hB (by simp only [go_sem, Nat.reduceLT, Nat.reduceEqDiff, reduceCtorEq, Int.reduceLT, Int.reduceEq, hs, e5]) (by simp only [go_sem, Nat.reduceLT, Nat.reduceEqDiff, reduceCtorEq, Int.reduceLT, Int.reduceEq, hs, src_sl]; rfl) (by simp only [List.length_singleton]; omega) (by simp only [List.length_singleton]; omega) (fun va' h4 hA4 _ _ _ => ?_)
      simp only [go_sem, Nat.reduceLT, Nat.reduceEqDiff, reduceCtorEq, Int.reduceLT, Int.reduceEq, hs, e7, hwr]
      refine ih (i + 1) (acc' ++ [p]) _ va' b' _ _ Q (by omega) (by rw [List.length_append, List.length_singleton]; omega) hA4 (hRB.snoc ⟨_, rfl, hc'⟩) (by simp only [slot_len, hs]) (by simp only [go_sem, Nat.reduceLT, Nat.reduceEqDiff, reduceCtorEq, Int.reduceLT, Int.reduceEq, e0]) (by simp only [go_sem, Nat.reduceLT, Nat.reduceEqDiff, reduceCtorEq, Int.reduceLT, Int.reduceEq, e3]) (by simp only [go_sem, Nat.reduceLT, Nat.reduceEqDiff, reduceCtorEq, Int.reduceLT, Int.reduceEq, hs]) (by simp only [go_sem, Nat.reduceLT, Nat.reduceEqDiff, reduceCtorEq, Int.reduceLT, Int.reduceEq, e6]) (by simp only [go_sem, Nat.reduceLT, Nat.reduceEqDiff, reduceCtorEq, Int.reduceLT, Int.reduceEq, hs]) ?_
      intro s' h' va' elsA' a1 a2 a3 a4 a6 a7
      exact hQ s' h' va' elsA' a1 a2 a3 a4 a6 (by rw [List.append_assoc] at a7; exact a7)

theorem lay_f29 {h : Heap} (hV : VF h 2 els u) (hR : RowsE els l) (hn : l.length ≤ 1000000) (hcr : SlV 1 (eB r.2) (.cv cr)) : Ret F 29 [u, .agg [txt r.1, .cv cr]] h fun v g => ∃ hh elsA, HExt h hh ∧ NB hh g 2 elsA v ∧ RowsE elsA (layF l r) := by
  refine call_E (fn := f29) rfl ?_
  simp only [f29]
  generalize hs0 : ([u, .agg [txt r.1, .cv cr]] ++ List.replicate _ VV.undef : List VV) = s
  have hs : s.length = 52 := by rw [← hs0]; rfl
  have h0 : s.getD 0 .undef = u := by rw [← hs0]; rfl
  have h1 : s.getD 1 .undef = .agg [txt r.1, .cv cr] := by rw [← hs0]; rfl
  clear hs0
  have bx : bxO h 2 (.agg [txt r.1, .cv cr]) = some (.ptr h.length 0, h ++ [.box [txt r.1, .cv cr] false]) := bx_agg rfl
  have x0 := HExt.push h (VO.box [txt r.1, .cv cr] false)
  have hB0 : (h ++ [VO.box [txt r.1, .cv cr] false])[h.length]? = some (.box [txt r.1, .cv cr] false) := at_last
  simp only [go_sem, Nat.reduceLT, Nat.reduceEqDiff, reduceCtorEq, Int.reduceLT, Int.reduceEq, hs, h1, bx]
  refine f29_loop (h0 := h ++ [VO.box [txt r.1, .cv cr] false]) (p0 := h.length) (fun g hg => hV.ext (x0.trans hg)) hB0 hR hn hcr l.length 0 [] [] nilS false _ _ _ (by omega) (by simp) (NB.nil _ _) .nil (by simp only [slot_len, hs]) (by simp only [go_sem, Nat.reduceLT, Nat.reduceEqDiff, reduceCtorEq, Int.reduceLT, Int.reduceEq, h0]) (by simp only [go_sem, Nat.reduceLT, Nat.reduceEqDiff, reduceCtorEq, Int.reduceLT, Int.reduceEq, hs]) (by simp only [go_sem, Nat.reduceLT, Nat.reduceEqDiff, reduceCtorEq, Int.reduceLT, Int.reduceEq, hs]) (by simp only [go_sem, Nat.reduceLT, Nat.reduceEqDiff, reduceCtorEq, Int.reduceLT, Int.reduceEq, hs]) (by simp only [go_sem, Nat.reduceLT, Nat.reduceEqDiff, reduceCtorEq, Int.reduceLT, Int.reduceEq, hs]; rfl) (fun s' h' va' elsA' a1 a2 a3 a4 a6 a7 => ?_)
  rw [List.drop_zero, List.nil_append] at a7
  rw [List.drop_zero] at a4
  have hAl := a7.len
  have hln := layS_len r l false
  have a5 := a6.ext.get hB0
  simp only [go_sem, Nat.reduceLT, Nat.reduceEqDiff, reduceCtorEq, Int.reduceLT, Int.reduceEq, a1]
  rw [X_eq f29_3.eq_1]
  cases d : (layS r l false).2 with
  | true =>
    rw [d] at a4
    simp only [go_sem, Nat.reduceLT, Nat.reduceEqDiff, reduceCtorEq, Int.reduceLT, Int.reduceEq, a1, a4, a3]
    exact ⟨_, elsA', x0, a6, by unfold layF; rw [if_pos d]; exact a7⟩
  | false =>
    rw [d] at a4
    have lb2 : ldO h' true 2 (.ptr h.length 0) = some (.agg [txt r.1, .cv cr], h') := ld_bxN a5 rfl
    simp only [go_sem, Nat.reduceLT, Nat.reduceEqDiff, reduceCtorEq, Int.reduceLT, Int.reduceEq, a1, a4, a3, a2, lb2, mk_row]
    refine XO_appNB a6 (by simp only [go_sem, Nat.reduceLT, Nat.reduceEqDiff, reduceCtorEq, Int.reduceLT, Int.reduceEq, a1, a3]) (by simp only [go_sem, Nat.reduceLT, Nat.reduceEqDiff, reduceCtorEq, Int.reduceLT, Int.reduceEq, a1, src_sl]; rfl) (by simp only [List.length_singleton]; omega) (by simp only [List.length_singleton]; omega) (fun va' h4 hA4 _ _ _ => ?_)
    simp only [go_sem, Nat.reduceLT, Nat.reduceEqDiff, reduceCtorEq, Int.reduceLT, Int.reduceEq, a1]
    exact ⟨_, _, x0, hA4, by unfold layF; rw [if_neg (by rw [d]; simp)]; exact a7.snoc ⟨_, rfl, hcr⟩⟩
end
end Go.V07


set_option linter.unusedSimpArgs false
set_option linter.unusedVariables false
namespace Go.V07
open Go Go.Vm

theorem layF_len (l : List KV) (r : KV) : (layF l r).length ≤ l.length + 2 := by
  have := layS_len r l false
  unfold layF
  split
  · omega
  · simp; omega
/-- Rows, as choices say, by rising keys. -/
def risL (n : Nat) (c : List UInt8) : List KV := (rowL n c).foldl layF []

theorem f16_loop {h0 : Heap} {L : List KV} {elsL : List (List CV)} {lv : VV} (hL : SlV 2 elsL lv) (hR : RowsE elsL L) (hn : L.length ≤ 1000) : ∀ (m i : Nat) (acc : List KV) (els : List (List CV)) (va : VV) (hh : Heap) (s : List VV) (g : Heap) (Q : Pst), i + m = L.length → acc.length ≤ 2 * i → HExt h0 hh → NB hh g 2 els va → RowsE els acc →
    s.length = 24 → s.getD 5 .undef = lv → s.getD 6 .undef = va → s.getD 7 .undef = vi .i64 i →
    (∀ s' g' hh els' va', s'.length = 24 → s'.getD 6 .undef = va' → HExt h0 hh → NB hh g' 2 els' va' → RowsE els' ((L.drop i).foldl layF acc) → Q (.exit 0) ⟨s', g'⟩) → X F (.loop f16_0) ⟨s, g⟩ Q := by
  intro m
  have hl := hR.len
  induction m with
  | zero =>
    intro i acc els va hh s g Q hi hac hx hA hRA hs e5 e6 e7 hQ
    have c : ¬ ((i : Nat) : Int) < (elsL.length : Int) := by omega
    rw [X_loop, X_eq f16_0.eq_1]
    simp only [go_sem, Nat.reduceLT, Nat.reduceEqDiff, reduceCtorEq, Int.reduceLT, Int.reduceEq, hs, e7, e5, hL.ln, c]
    have hd : L.drop i = [] := List.drop_eq_nil_of_le (by omega)
    rw [hd] at hQ
    exact hQ _ _ hh els va (by simp only [slot_len, hs]) (by simp only [go_sem, Nat.reduceLT, Nat.reduceEqDiff, reduceCtorEq, Int.reduceLT, Int.reduceEq, e6]) hx hA hRA
  | succ m ih =>
    intro i acc els va hh s g Q hi hac hx hA hRA hs e5 e6 e7 hQ
    have c : ((i : Nat) : Int) < (elsL.length : Int) := by omega
    obtain ⟨e, p, he, hp, c', rfl, hc'⟩ := hR.get (i := i) (by omega)
    have hd : L.drop i = p :: L.drop (i + 1) := by
      obtain ⟨la, rfl⟩ := List.getElem?_eq_some_iff.1 hp
      rw [List.drop_eq_getElem_cons la]
    rw [hd, List.foldl_cons] at hQ
    have ia : iaO g 2 lv (vi .i64 (i : Int)) = some (.rptr [.sc (.string ⟨p.1.toArray⟩), c'], g) := hL.ia (by omega) (by rw [Int.toNat_natCast]; exact he)
    have la2 : ldO g true 2 (.rptr [.sc (.string ⟨p.1.toArray⟩), c']) = some (.agg [txt p.1, .cv c'], g) := ld_r_2
    have hwr : IntKind.i64.wrap ((i : Int) + 1) = ((i + 1 : Nat) : Int) := by rw [IntWalk.i64_in _ (by omega)]; omega
    obtain ⟨v22, g2, n22, hh2, els2, x2, hB2, hRB2⟩ := lay_f29 hA.vf hRA (by omega) hc'
    have hlen := layF_len acc p
    rw [X_loop, X_eq f16_0.eq_1]
    simp only [go_sem, Nat.reduceLT, Nat.reduceEqDiff, reduceCtorEq, Int.reduceLT, Int.reduceEq, hs, e7, e5, e6, hL.ln, c, ia, la2]
    refine XO_callR (by simp only [List.map, go_sem, Nat.reduceLT, Nat.reduceEqDiff, reduceCtorEq, Int.reduceLT, Int.reduceEq, hs]; exact n22) ?_
    simp only [go_sem, Nat.reduceLT, Nat.reduceEqDiff, reduceCtorEq, Int.reduceLT, Int.reduceEq, hs, e7, hwr]
    exact ih (i + 1) (layF acc p) els2 v22 hh2 _ _ Q (by omega) (by omega) ((hx.trans hA.ext).trans x2) hB2 hRB2 (by simp only [slot_len, hs]) (by simp only [go_sem, Nat.reduceLT, Nat.reduceEqDiff, reduceCtorEq, Int.reduceLT, Int.reduceEq, e5]) (by simp only [go_sem, Nat.reduceLT, Nat.reduceEqDiff, reduceCtorEq, Int.reduceLT, Int.reduceEq, hs]) (by simp only [go_sem, Nat.reduceLT, Nat.reduceEqDiff, reduceCtorEq, Int.reduceLT, Int.reduceEq, hs]) hQ

theorem rising_f16 {h : Heap} {c : List UInt8} {vc : VV} (hc : SlV 1 (eB c) vc) {n : Nat} (hn : n ≤ 60) : Ret F 16 [vc, vi .i64 n] h fun v g => ∃ hh els, HExt h hh ∧ NB hh g 2 els v ∧ RowsE els (risL n c) := by
  refine call_E (fn := f16) rfl ?_
  simp only [f16]
  generalize hs0 : ([vc, vi .i64 n] ++ List.replicate _ VV.undef : List VV) = s
  have hs : s.length = 24 := by rw [← hs0]; rfl
  have h0 : s.getD 0 .undef = vc := by rw [← hs0]; rfl
  have h1 : s.getD 1 .undef = vi .i64 n := by rw [← hs0]; rfl
  clear hs0
  obtain ⟨v11, h11, els11, n11, r11, R11⟩ := list_pure c vc hc n hn
  have hlen : (rowL n c).length ≤ n := rowL_len n c
  simp only [go_sem, Nat.reduceLT, Nat.reduceEqDiff, reduceCtorEq, Int.reduceLT, Int.reduceEq, hs, h0, h1]
  refine XO_callP (h1 := h) (by simp only [List.map, go_sem, Nat.reduceLT, Nat.reduceEqDiff, reduceCtorEq, Int.reduceLT, Int.reduceEq, hs]; exact hc.clos (clos_cv clos_nil)) n11 r11 ?_
  simp only [go_sem, Nat.reduceLT, Nat.reduceEqDiff, reduceCtorEq, Int.reduceLT, Int.reduceEq, hs]
  refine f16_loop (h0 := h) slV_SlV R11 (by omega) (rowL n c).length 0 [] [] nilS h _ _ _ (by omega) (by simp) (HExt.refl h) (NB.nil _ _) .nil (by simp only [slot_len, hs]) (by simp only [go_sem, Nat.reduceLT, Nat.reduceEqDiff, reduceCtorEq, Int.reduceLT, Int.reduceEq, hs]) (by simp only [go_sem, Nat.reduceLT, Nat.reduceEqDiff, reduceCtorEq, Int.reduceLT, Int.reduceEq, hs]) (by simp only [go_sem, Nat.reduceLT, Nat.reduceEqDiff, reduceCtorEq, Int.reduceLT, Int.reduceEq, hs]; rfl) (fun s' g' hh els' va' a1 a2 a3 a4 a5 => ?_)
  simp only [go_sem, Nat.reduceLT, Nat.reduceEqDiff, reduceCtorEq, Int.reduceLT, Int.reduceEq, a1, a2]
  exact ⟨hh, els', a3, a4, a5⟩
theorem rising_pure {c : List UInt8} {vc : VV} (hc : SlV 1 (eB c) vc) {n : Nat} (hn : n ≤ 60) : RetP F 16 [vc, vi .i64 n] fun w => ∃ els, SlV 2 els w ∧ RowsE els (risL n c) := by
  obtain ⟨v, g, n1, hh, els, _, b, R⟩ := rising_f16 (h := []) hc hn
  obtain ⟨w, c1, c2⟩ := b.res
  exact ⟨v, g, n1, w, c1, els, c2, R⟩
end Go.V07


set_option linter.unusedSimpArgs false
set_option linter.unusedVariables false
namespace Go.V07
open Go Go.Vm

end Go.V07


set_option linter.unusedSimpArgs false
set_option linter.unusedVariables false
namespace Go.V07
open Go Go.Vm

/-! ### TreeBuilds -/
theorem fold_len : ∀ (L acc : List KV), (L.foldl layF acc).length ≤ acc.length + 2 * L.length
  | [], acc => by simp
  | p :: L, acc => by
    have h1 := fold_len L (layF acc p)
    have h2 := layF_len acc p
    simp only [List.foldl_cons, List.length_cons]
    omega
theorem risL_len (n : Nat) (c : List UInt8) : (risL n c).length ≤ 2 * n := by
  have h1 := fold_len (rowL n c) []
  have h2 := rowL_len n c
  simp only [List.length_nil] at h1
  unfold risL
  omega

/-! ### rows, as they are read -/
end Go.V07
