/- Part of a proof: of what it says, and when, each theorem tells itself. -/
import Derived.Test.YtjggjjplnbjcpaaC06Ir
import Derived.Test.YtjggjjplnbjcpaaVmAll2

set_option linter.unusedSimpArgs false
namespace Go.V06
open Go Go.Vm

def u8 (n : Nat) : UInt8 := UInt8.ofNat n
/-- A number's bytes, seven bits each. -/
def numF : Nat → Nat → List UInt8
  | 0, n => [u8 n]
  | k + 1, n => if 127 < n then u8 (128 + n % 128) :: numF k (n / 128) else [u8 n]
def num (n : Nat) : List UInt8 := numF 8 n

theorem eB_append (a b : List UInt8) : eB (a ++ b) = eB a ++ eB b := by simp [eB]
theorem eB_u8 (n : Nat) (h : n < 256) : eB [u8 n] = [[.sc (.int .u8 n)]] := by
  simp only [eB, List.map, byteCell, u8]
  rw [UInt8.toNat_ofNat']
  simp only [Nat.reducePow]
  rw [Nat.mod_eq_of_lt h]

theorem u8_or128 (m : Nat) (h : m < 256) : bits .or .u8 (m : Int) 128 = ((128 + m % 128 : Nat) : Int) := by
  have : ∀ m : Fin 256, bits .or .u8 ((m.val : Nat) : Int) 128 = ((128 + m.val % 128 : Nat) : Int) := by decide +kernel
  exact this ⟨m, h⟩

theorem f33_loop : ∀ (k n : Nat) (out : List UInt8) (h0 : Heap) (s : List VV) (h : Heap) (v : VV) (Q : Pst), n < 128 ^ (k + 1) → n < 9223372036854775808 → out.length + k ≤ 100 → s.length = 22 →
    s.getD 0 .undef = vi .i64 n → s.getD 3 .undef = v → Buf h0 1 (eB out) v h →
    (∀ (n' : Nat) (out' : List UInt8) s' h' v', s'.length = 22 → s'.getD 0 .undef = vi .i64 n' → n' ≤ 127 → s'.getD 3 .undef = v' → Buf h0 1 (eB out') v' h' → out' ++ [u8 n'] = out ++ numF k n → Q (.exit 0) ⟨s', h'⟩) →
    X F (.loop f33_0) ⟨s, h⟩ Q := by
  intro k
  induction k with
  | zero =>
    intro n out h0 s h v Q hn hn2 hlen hs h1 h2 hb hQ
    rw [X_loop, X_eq f33_0.eq_1]
    simp only [X_skip, X_seq, X_reg, X_block, X_scope, X_exit, X_goto, X_ret, X_label, XO_mv, XO_g, XG_tt, XG_tf, XG_ft, XG_ff, XO_bin, XO_cvI, XO_pick, XO_ext, XO_len, XO_mnmx, XD_mv, XD_g, XGD_tt, XGD_tf, XGD_ft, XGD_ff, XD_bin, XD_cvI, XD_pick, XD_ext, XD_len, XD_mnmx, XD_mksl, XD_iadL, XD_ld, XD_fad, XD_nil, XWD_some, XVD_same, XVD_k, XO_alloc, XO_st, XD_st, XO_box, XO_mkslo, XD_mkslo, XO_mrk, XD_mrk, mr_0, XO_build, st_0_2, st_0_3, st_l_2, st_l_3, ld_l_2, ld_l_3, ld_r_2, ld_r_3, ld_l_at, Nat.zero_add, bd_nil, bd_2, bd_3, XD_build, XO_fld, XD_fld, XO_cvBS, XD_cvBS, bs_sl, bs_nil, XO_cvSB, XD_cvSB, sb_txt, XO_slL, XD_slL, Option.map_some, Option.map_none, XO_mksl, XO_iadL, XO_ld, XO_fad, ld_rptr, fd_r, fd_p, fd_e, List.drop_zero, List.drop_succ_cons, mkParts_nil, mkParts_cons, mkO_1, mkO_2, mk_agg2, mk_agg3, src_sl, mmO_min, mmO_max, XW_some, XV_some, ln_nil, ln_sl, ln_own, ln_str, cvO_eq, pkO_t, pkO_f, exO_eq, evalO_t, evalO_c, putD_some, putD_none, slot_len, slot_eq, slot_ne, ne_eq, Nat.reduceLT, Nat.reduceEqDiff, not_false_eq_true, not_true_eq_false, reduceCtorEq, XO_nil, RQ_0, RQ_0n, RQ_1, RQ_2, RQ_3, K_norm, K_exit, K_goto, K_ret, K_pan, B_norm, B_exit, B_goto, B_ret, B_pan, S_norm, S_exit, S_ret, S_pan, X_cnd, XB_true, XB_false, bin_add, bin_sub, bin_mul, bin_and, bin_or, bin_shr, bin_shl, bin_quo, bin_rem, Int.reduceLT, Int.reduceEq, bin_eql, bin_neq, bin_lss, bin_leq, bin_gtr, bin_geq, bin_seql, bin_sneq, decide_true, decide_false, eq_self, if_true, if_false, List.getElem?_cons_zero, List.getElem?_cons_succ, hs, h1]
    refine XB_dec (fun hc => ?_) (fun hc => ?_)
    · omega
    · simp only [X_skip, X_seq, X_reg, X_block, X_scope, X_exit, X_goto, X_ret, X_label, XO_mv, XO_g, XG_tt, XG_tf, XG_ft, XG_ff, XO_bin, XO_cvI, XO_pick, XO_ext, XO_len, XO_mnmx, XD_mv, XD_g, XGD_tt, XGD_tf, XGD_ft, XGD_ff, XD_bin, XD_cvI, XD_pick, XD_ext, XD_len, XD_mnmx, XD_mksl, XD_iadL, XD_ld, XD_fad, XD_nil, XWD_some, XVD_same, XVD_k, XO_alloc, XO_st, XD_st, XO_box, XO_mkslo, XD_mkslo, XO_mrk, XD_mrk, mr_0, XO_build, st_0_2, st_0_3, st_l_2, st_l_3, ld_l_2, ld_l_3, ld_r_2, ld_r_3, ld_l_at, Nat.zero_add, bd_nil, bd_2, bd_3, XD_build, XO_fld, XD_fld, XO_cvBS, XD_cvBS, bs_sl, bs_nil, XO_cvSB, XD_cvSB, sb_txt, XO_slL, XD_slL, Option.map_some, Option.map_none, XO_mksl, XO_iadL, XO_ld, XO_fad, ld_rptr, fd_r, fd_p, fd_e, List.drop_zero, List.drop_succ_cons, mkParts_nil, mkParts_cons, mkO_1, mkO_2, mk_agg2, mk_agg3, src_sl, mmO_min, mmO_max, XW_some, XV_some, ln_nil, ln_sl, ln_own, ln_str, cvO_eq, pkO_t, pkO_f, exO_eq, evalO_t, evalO_c, putD_some, putD_none, slot_len, slot_eq, slot_ne, ne_eq, Nat.reduceLT, Nat.reduceEqDiff, not_false_eq_true, not_true_eq_false, reduceCtorEq, XO_nil, RQ_0, RQ_0n, RQ_1, RQ_2, RQ_3, K_norm, K_exit, K_goto, K_ret, K_pan, B_norm, B_exit, B_goto, B_ret, B_pan, S_norm, S_exit, S_ret, S_pan, X_cnd, XB_true, XB_false, bin_add, bin_sub, bin_mul, bin_and, bin_or, bin_shr, bin_shl, bin_quo, bin_rem, Int.reduceLT, Int.reduceEq, bin_eql, bin_neq, bin_lss, bin_leq, bin_gtr, bin_geq, bin_seql, bin_sneq, decide_true, decide_false, eq_self, if_true, if_false, List.getElem?_cons_zero, List.getElem?_cons_succ]
      refine hQ n out _ h v (by simp only [slot_len, hs]) ?_ (by omega) ?_ hb ?_
      · simp only [slot_ne, ne_eq, Nat.reduceEqDiff, not_false_eq_true, h1]
      · simp only [X_skip, X_seq, X_reg, X_block, X_scope, X_exit, X_goto, X_ret, X_label, XO_mv, XO_g, XG_tt, XG_tf, XG_ft, XG_ff, XO_bin, XO_cvI, XO_pick, XO_ext, XO_len, XO_mnmx, XD_mv, XD_g, XGD_tt, XGD_tf, XGD_ft, XGD_ff, XD_bin, XD_cvI, XD_pick, XD_ext, XD_len, XD_mnmx, XD_mksl, XD_iadL, XD_ld, XD_fad, XD_nil, XWD_some, XVD_same, XVD_k, XO_alloc, XO_st, XD_st, XO_box, XO_mkslo, XD_mkslo, XO_mrk, XD_mrk, mr_0, XO_build, st_0_2, st_0_3, st_l_2, st_l_3, ld_l_2, ld_l_3, ld_r_2, ld_r_3, ld_l_at, Nat.zero_add, bd_nil, bd_2, bd_3, XD_build, XO_fld, XD_fld, XO_cvBS, XD_cvBS, bs_sl, bs_nil, XO_cvSB, XD_cvSB, sb_txt, XO_slL, XD_slL, Option.map_some, Option.map_none, XO_mksl, XO_iadL, XO_ld, XO_fad, ld_rptr, fd_r, fd_p, fd_e, List.drop_zero, List.drop_succ_cons, mkParts_nil, mkParts_cons, mkO_1, mkO_2, mk_agg2, mk_agg3, src_sl, mmO_min, mmO_max, XW_some, XV_some, ln_nil, ln_sl, ln_own, ln_str, cvO_eq, pkO_t, pkO_f, exO_eq, evalO_t, evalO_c, putD_some, putD_none, slot_len, slot_eq, slot_ne, ne_eq, Nat.reduceLT, Nat.reduceEqDiff, not_false_eq_true, not_true_eq_false, reduceCtorEq, XO_nil, RQ_0, RQ_0n, RQ_1, RQ_2, RQ_3, K_norm, K_exit, K_goto, K_ret, K_pan, B_norm, B_exit, B_goto, B_ret, B_pan, S_norm, S_exit, S_ret, S_pan, X_cnd, XB_true, XB_false, bin_add, bin_sub, bin_mul, bin_and, bin_or, bin_shr, bin_shl, bin_quo, bin_rem, Int.reduceLT, Int.reduceEq, bin_eql, bin_neq, bin_lss, bin_leq, bin_gtr, bin_geq, bin_seql, bin_sneq, decide_true, decide_false, eq_self, if_true, if_false, List.getElem?_cons_zero, List.getElem?_cons_succ, hs, h2]
      · rfl
  | succ k ih =>
    intro n out h0 s h v Q hn hn2 hlen hs h1 h2 hb hQ
    rw [X_loop, X_eq f33_0.eq_1]
    simp only [X_skip, X_seq, X_reg, X_block, X_scope, X_exit, X_goto, X_ret, X_label, XO_mv, XO_g, XG_tt, XG_tf, XG_ft, XG_ff, XO_bin, XO_cvI, XO_pick, XO_ext, XO_len, XO_mnmx, XD_mv, XD_g, XGD_tt, XGD_tf, XGD_ft, XGD_ff, XD_bin, XD_cvI, XD_pick, XD_ext, XD_len, XD_mnmx, XD_mksl, XD_iadL, XD_ld, XD_fad, XD_nil, XWD_some, XVD_same, XVD_k, XO_alloc, XO_st, XD_st, XO_box, XO_mkslo, XD_mkslo, XO_mrk, XD_mrk, mr_0, XO_build, st_0_2, st_0_3, st_l_2, st_l_3, ld_l_2, ld_l_3, ld_r_2, ld_r_3, ld_l_at, Nat.zero_add, bd_nil, bd_2, bd_3, XD_build, XO_fld, XD_fld, XO_cvBS, XD_cvBS, bs_sl, bs_nil, XO_cvSB, XD_cvSB, sb_txt, XO_slL, XD_slL, Option.map_some, Option.map_none, XO_mksl, XO_iadL, XO_ld, XO_fad, ld_rptr, fd_r, fd_p, fd_e, List.drop_zero, List.drop_succ_cons, mkParts_nil, mkParts_cons, mkO_1, mkO_2, mk_agg2, mk_agg3, src_sl, mmO_min, mmO_max, XW_some, XV_some, ln_nil, ln_sl, ln_own, ln_str, cvO_eq, pkO_t, pkO_f, exO_eq, evalO_t, evalO_c, putD_some, putD_none, slot_len, slot_eq, slot_ne, ne_eq, Nat.reduceLT, Nat.reduceEqDiff, not_false_eq_true, not_true_eq_false, reduceCtorEq, XO_nil, RQ_0, RQ_0n, RQ_1, RQ_2, RQ_3, K_norm, K_exit, K_goto, K_ret, K_pan, B_norm, B_exit, B_goto, B_ret, B_pan, S_norm, S_exit, S_ret, S_pan, X_cnd, XB_true, XB_false, bin_add, bin_sub, bin_mul, bin_and, bin_or, bin_shr, bin_shl, bin_quo, bin_rem, Int.reduceLT, Int.reduceEq, bin_eql, bin_neq, bin_lss, bin_leq, bin_gtr, bin_geq, bin_seql, bin_sneq, decide_true, decide_false, eq_self, if_true, if_false, List.getElem?_cons_zero, List.getElem?_cons_succ, hs, h1]
    refine XB_dec (fun hc => ?_) (fun hc => ?_)
    · simp only [X_skip, X_seq, X_reg, X_block, X_scope, X_exit, X_goto, X_ret, X_label, XO_mv, XO_g, XG_tt, XG_tf, XG_ft, XG_ff, XO_bin, XO_cvI, XO_pick, XO_ext, XO_len, XO_mnmx, XD_mv, XD_g, XGD_tt, XGD_tf, XGD_ft, XGD_ff, XD_bin, XD_cvI, XD_pick, XD_ext, XD_len, XD_mnmx, XD_mksl, XD_iadL, XD_ld, XD_fad, XD_nil, XWD_some, XVD_same, XVD_k, XO_alloc, XO_st, XD_st, XO_box, XO_mkslo, XD_mkslo, XO_mrk, XD_mrk, mr_0, XO_build, st_0_2, st_0_3, st_l_2, st_l_3, ld_l_2, ld_l_3, ld_r_2, ld_r_3, ld_l_at, Nat.zero_add, bd_nil, bd_2, bd_3, XD_build, XO_fld, XD_fld, XO_cvBS, XD_cvBS, bs_sl, bs_nil, XO_cvSB, XD_cvSB, sb_txt, XO_slL, XD_slL, Option.map_some, Option.map_none, XO_mksl, XO_iadL, XO_ld, XO_fad, ld_rptr, fd_r, fd_p, fd_e, List.drop_zero, List.drop_succ_cons, mkParts_nil, mkParts_cons, mkO_1, mkO_2, mk_agg2, mk_agg3, src_sl, mmO_min, mmO_max, XW_some, XV_some, ln_nil, ln_sl, ln_own, ln_str, cvO_eq, pkO_t, pkO_f, exO_eq, evalO_t, evalO_c, putD_some, putD_none, slot_len, slot_eq, slot_ne, ne_eq, Nat.reduceLT, Nat.reduceEqDiff, not_false_eq_true, not_true_eq_false, reduceCtorEq, XO_nil, RQ_0, RQ_0n, RQ_1, RQ_2, RQ_3, K_norm, K_exit, K_goto, K_ret, K_pan, B_norm, B_exit, B_goto, B_ret, B_pan, S_norm, S_exit, S_ret, S_pan, X_cnd, XB_true, XB_false, bin_add, bin_sub, bin_mul, bin_and, bin_or, bin_shr, bin_shl, bin_quo, bin_rem, Int.reduceLT, Int.reduceEq, bin_eql, bin_neq, bin_lss, bin_leq, bin_gtr, bin_geq, bin_seql, bin_sneq, decide_true, decide_false, eq_self, if_true, if_false, List.getElem?_cons_zero, List.getElem?_cons_succ, hs, h1, h2]
      have e1 : bits .or .u8 (IntKind.u8.wrap n) 128 = ((128 + n % 128 : Nat) : Int) := by
        rw [IntKind.wrap_u8]
        have hm : ((n : Int) % 256) = ((n % 256 : Nat) : Int) := by omega
        rw [hm]
        have := u8_or128 (n % 256) (by omega)
        rw [this]
        omega
      rw [e1]
      refine XO_app (new := eB [u8 (128 + n % 128)]) hb (by simp only [X_skip, X_seq, X_reg, X_block, X_scope, X_exit, X_goto, X_ret, X_label, XO_mv, XO_g, XG_tt, XG_tf, XG_ft, XG_ff, XO_bin, XO_cvI, XO_pick, XO_ext, XO_len, XO_mnmx, XD_mv, XD_g, XGD_tt, XGD_tf, XGD_ft, XGD_ff, XD_bin, XD_cvI, XD_pick, XD_ext, XD_len, XD_mnmx, XD_mksl, XD_iadL, XD_ld, XD_fad, XD_nil, XWD_some, XVD_same, XVD_k, XO_alloc, XO_st, XD_st, XO_box, XO_mkslo, XD_mkslo, XO_mrk, XD_mrk, mr_0, XO_build, st_0_2, st_0_3, st_l_2, st_l_3, ld_l_2, ld_l_3, ld_r_2, ld_r_3, ld_l_at, Nat.zero_add, bd_nil, bd_2, bd_3, XD_build, XO_fld, XD_fld, XO_cvBS, XD_cvBS, bs_sl, bs_nil, XO_cvSB, XD_cvSB, sb_txt, XO_slL, XD_slL, Option.map_some, Option.map_none, XO_mksl, XO_iadL, XO_ld, XO_fad, ld_rptr, fd_r, fd_p, fd_e, List.drop_zero, List.drop_succ_cons, mkParts_nil, mkParts_cons, mkO_1, mkO_2, mk_agg2, mk_agg3, src_sl, mmO_min, mmO_max, XW_some, XV_some, ln_nil, ln_sl, ln_own, ln_str, cvO_eq, pkO_t, pkO_f, exO_eq, evalO_t, evalO_c, putD_some, putD_none, slot_len, slot_eq, slot_ne, ne_eq, Nat.reduceLT, Nat.reduceEqDiff, not_false_eq_true, not_true_eq_false, reduceCtorEq, XO_nil, RQ_0, RQ_0n, RQ_1, RQ_2, RQ_3, K_norm, K_exit, K_goto, K_ret, K_pan, B_norm, B_exit, B_goto, B_ret, B_pan, S_norm, S_exit, S_ret, S_pan, X_cnd, XB_true, XB_false, bin_add, bin_sub, bin_mul, bin_and, bin_or, bin_shr, bin_shl, bin_quo, bin_rem, Int.reduceLT, Int.reduceEq, bin_eql, bin_neq, bin_lss, bin_leq, bin_gtr, bin_geq, bin_seql, bin_sneq, decide_true, decide_false, eq_self, if_true, if_false, List.getElem?_cons_zero, List.getElem?_cons_succ, hs]) ?_ ?_ ?_ (fun v' h' hb' => ?_)
      · simp only [X_skip, X_seq, X_reg, X_block, X_scope, X_exit, X_goto, X_ret, X_label, XO_mv, XO_g, XG_tt, XG_tf, XG_ft, XG_ff, XO_bin, XO_cvI, XO_pick, XO_ext, XO_len, XO_mnmx, XD_mv, XD_g, XGD_tt, XGD_tf, XGD_ft, XGD_ff, XD_bin, XD_cvI, XD_pick, XD_ext, XD_len, XD_mnmx, XD_mksl, XD_iadL, XD_ld, XD_fad, XD_nil, XWD_some, XVD_same, XVD_k, XO_alloc, XO_st, XD_st, XO_box, XO_mkslo, XD_mkslo, XO_mrk, XD_mrk, mr_0, XO_build, st_0_2, st_0_3, st_l_2, st_l_3, ld_l_2, ld_l_3, ld_r_2, ld_r_3, ld_l_at, Nat.zero_add, bd_nil, bd_2, bd_3, XD_build, XO_fld, XD_fld, XO_cvBS, XD_cvBS, bs_sl, bs_nil, XO_cvSB, XD_cvSB, sb_txt, XO_slL, XD_slL, Option.map_some, Option.map_none, XO_mksl, XO_iadL, XO_ld, XO_fad, ld_rptr, fd_r, fd_p, fd_e, List.drop_zero, List.drop_succ_cons, mkParts_nil, mkParts_cons, mkO_1, mkO_2, mk_agg2, mk_agg3, src_sl, mmO_min, mmO_max, XW_some, XV_some, ln_nil, ln_sl, ln_own, ln_str, cvO_eq, pkO_t, pkO_f, exO_eq, evalO_t, evalO_c, putD_some, putD_none, slot_len, slot_eq, slot_ne, ne_eq, Nat.reduceLT, Nat.reduceEqDiff, not_false_eq_true, not_true_eq_false, reduceCtorEq, XO_nil, RQ_0, RQ_0n, RQ_1, RQ_2, RQ_3, K_norm, K_exit, K_goto, K_ret, K_pan, B_norm, B_exit, B_goto, B_ret, B_pan, S_norm, S_exit, S_ret, S_pan, X_cnd, XB_true, XB_false, bin_add, bin_sub, bin_mul, bin_and, bin_or, bin_shr, bin_shl, bin_quo, bin_rem, Int.reduceLT, Int.reduceEq, bin_eql, bin_neq, bin_lss, bin_leq, bin_gtr, bin_geq, bin_seql, bin_sneq, decide_true, decide_false, eq_self, if_true, if_false, List.getElem?_cons_zero, List.getElem?_cons_succ, hs]
        rw [eB_u8 _ (by omega)]
      · simp [eB]; omega
      · simp [eB]; omega
      · simp only [X_skip, X_seq, X_reg, X_block, X_scope, X_exit, X_goto, X_ret, X_label, XO_mv, XO_g, XG_tt, XG_tf, XG_ft, XG_ff, XO_bin, XO_cvI, XO_pick, XO_ext, XO_len, XO_mnmx, XD_mv, XD_g, XGD_tt, XGD_tf, XGD_ft, XGD_ff, XD_bin, XD_cvI, XD_pick, XD_ext, XD_len, XD_mnmx, XD_mksl, XD_iadL, XD_ld, XD_fad, XD_nil, XWD_some, XVD_same, XVD_k, XO_alloc, XO_st, XD_st, XO_box, XO_mkslo, XD_mkslo, XO_mrk, XD_mrk, mr_0, XO_build, st_0_2, st_0_3, st_l_2, st_l_3, ld_l_2, ld_l_3, ld_r_2, ld_r_3, ld_l_at, Nat.zero_add, bd_nil, bd_2, bd_3, XD_build, XO_fld, XD_fld, XO_cvBS, XD_cvBS, bs_sl, bs_nil, XO_cvSB, XD_cvSB, sb_txt, XO_slL, XD_slL, Option.map_some, Option.map_none, XO_mksl, XO_iadL, XO_ld, XO_fad, ld_rptr, fd_r, fd_p, fd_e, List.drop_zero, List.drop_succ_cons, mkParts_nil, mkParts_cons, mkO_1, mkO_2, mk_agg2, mk_agg3, src_sl, mmO_min, mmO_max, XW_some, XV_some, ln_nil, ln_sl, ln_own, ln_str, cvO_eq, pkO_t, pkO_f, exO_eq, evalO_t, evalO_c, putD_some, putD_none, slot_len, slot_eq, slot_ne, ne_eq, Nat.reduceLT, Nat.reduceEqDiff, not_false_eq_true, not_true_eq_false, reduceCtorEq, XO_nil, RQ_0, RQ_0n, RQ_1, RQ_2, RQ_3, K_norm, K_exit, K_goto, K_ret, K_pan, B_norm, B_exit, B_goto, B_ret, B_pan, S_norm, S_exit, S_ret, S_pan, X_cnd, XB_true, XB_false, bin_add, bin_sub, bin_mul, bin_and, bin_or, bin_shr, bin_shl, bin_quo, bin_rem, Int.reduceLT, Int.reduceEq, bin_eql, bin_neq, bin_lss, bin_leq, bin_gtr, bin_geq, bin_seql, bin_sneq, decide_true, decide_false, eq_self, if_true, if_false, List.getElem?_cons_zero, List.getElem?_cons_succ, hs, h1, bin_shr, not_false_eq_true]
        have e2 : ((n : Int).fdiv (2 ^ min (7 : Int).toNat IntKind.i64.bits)) = ((n / 128 : Nat) : Int) := by
          have : (2 : Int) ^ min (7 : Int).toNat IntKind.i64.bits = 128 := by decide
          rw [this, Int.fdiv_eq_ediv_of_nonneg _ (by decide)]
          omega
        rw [e2]
        rw [← eB_append] at hb'
        refine ih (n / 128) (out ++ [u8 (128 + n % 128)]) h0 _ h' v' Q ?_ ?_ ?_ ?_ ?_ ?_ hb' ?_
        · rw [Nat.pow_succ] at hn
          omega
        · omega
        · simp; omega
        · simp only [X_skip, X_seq, X_reg, X_block, X_scope, X_exit, X_goto, X_ret, X_label, XO_mv, XO_g, XG_tt, XG_tf, XG_ft, XG_ff, XO_bin, XO_cvI, XO_pick, XO_ext, XO_len, XO_mnmx, XD_mv, XD_g, XGD_tt, XGD_tf, XGD_ft, XGD_ff, XD_bin, XD_cvI, XD_pick, XD_ext, XD_len, XD_mnmx, XD_mksl, XD_iadL, XD_ld, XD_fad, XD_nil, XWD_some, XVD_same, XVD_k, XO_alloc, XO_st, XD_st, XO_box, XO_mkslo, XD_mkslo, XO_mrk, XD_mrk, mr_0, XO_build, st_0_2, st_0_3, st_l_2, st_l_3, ld_l_2, ld_l_3, ld_r_2, ld_r_3, ld_l_at, Nat.zero_add, bd_nil, bd_2, bd_3, XD_build, XO_fld, XD_fld, XO_cvBS, XD_cvBS, bs_sl, bs_nil, XO_cvSB, XD_cvSB, sb_txt, XO_slL, XD_slL, Option.map_some, Option.map_none, XO_mksl, XO_iadL, XO_ld, XO_fad, ld_rptr, fd_r, fd_p, fd_e, List.drop_zero, List.drop_succ_cons, mkParts_nil, mkParts_cons, mkO_1, mkO_2, mk_agg2, mk_agg3, src_sl, mmO_min, mmO_max, XW_some, XV_some, ln_nil, ln_sl, ln_own, ln_str, cvO_eq, pkO_t, pkO_f, exO_eq, evalO_t, evalO_c, putD_some, putD_none, slot_len, slot_eq, slot_ne, ne_eq, Nat.reduceLT, Nat.reduceEqDiff, not_false_eq_true, not_true_eq_false, reduceCtorEq, XO_nil, RQ_0, RQ_0n, RQ_1, RQ_2, RQ_3, K_norm, K_exit, K_goto, K_ret, K_pan, B_norm, B_exit, B_goto, B_ret, B_pan, S_norm, S_exit, S_ret, S_pan, X_cnd, XB_true, XB_false, bin_add, bin_sub, bin_mul, bin_and, bin_or, bin_shr, bin_shl, bin_quo, bin_rem, Int.reduceLT, Int.reduceEq, bin_eql, bin_neq, bin_lss, bin_leq, bin_gtr, bin_geq, bin_seql, bin_sneq, decide_true, decide_false, eq_self, if_true, if_false, List.getElem?_cons_zero, List.getElem?_cons_succ, hs]
        · simp only [X_skip, X_seq, X_reg, X_block, X_scope, X_exit, X_goto, X_ret, X_label, XO_mv, XO_g, XG_tt, XG_tf, XG_ft, XG_ff, XO_bin, XO_cvI, XO_pick, XO_ext, XO_len, XO_mnmx, XD_mv, XD_g, XGD_tt, XGD_tf, XGD_ft, XGD_ff, XD_bin, XD_cvI, XD_pick, XD_ext, XD_len, XD_mnmx, XD_mksl, XD_iadL, XD_ld, XD_fad, XD_nil, XWD_some, XVD_same, XVD_k, XO_alloc, XO_st, XD_st, XO_box, XO_mkslo, XD_mkslo, XO_mrk, XD_mrk, mr_0, XO_build, st_0_2, st_0_3, st_l_2, st_l_3, ld_l_2, ld_l_3, ld_r_2, ld_r_3, ld_l_at, Nat.zero_add, bd_nil, bd_2, bd_3, XD_build, XO_fld, XD_fld, XO_cvBS, XD_cvBS, bs_sl, bs_nil, XO_cvSB, XD_cvSB, sb_txt, XO_slL, XD_slL, Option.map_some, Option.map_none, XO_mksl, XO_iadL, XO_ld, XO_fad, ld_rptr, fd_r, fd_p, fd_e, List.drop_zero, List.drop_succ_cons, mkParts_nil, mkParts_cons, mkO_1, mkO_2, mk_agg2, mk_agg3, src_sl, mmO_min, mmO_max, XW_some, XV_some, ln_nil, ln_sl, ln_own, ln_str, cvO_eq, pkO_t, pkO_f, exO_eq, evalO_t, evalO_c, putD_some, putD_none, slot_len, slot_eq, slot_ne, ne_eq, Nat.reduceLT, Nat.reduceEqDiff, not_false_eq_true, not_true_eq_false, reduceCtorEq, XO_nil, RQ_0, RQ_0n, RQ_1, RQ_2, RQ_3, K_norm, K_exit, K_goto, K_ret, K_pan, B_norm, B_exit, B_goto, B_ret, B_pan, S_norm, S_exit, S_ret, S_pan, X_cnd, XB_true, XB_false, bin_add, bin_sub, bin_mul, bin_and, bin_or, bin_shr, bin_shl, bin_quo, bin_rem, Int.reduceLT, Int.reduceEq, bin_eql, bin_neq, bin_lss, bin_leq, bin_gtr, bin_geq, bin_seql, bin_sneq, decide_true, decide_false, eq_self, if_true, if_false, List.getElem?_cons_zero, List.getElem?_cons_succ, hs]
        · simp only [X_skip, X_seq, X_reg, X_block, X_scope, X_exit, X_goto, X_ret, X_label, XO_mv, XO_g, XG_tt, XG_tf, XG_ft, XG_ff, XO_bin, XO_cvI, XO_pick, XO_ext, XO_len, XO_mnmx, XD_mv, XD_g, XGD_tt, XGD_tf, XGD_ft, XGD_ff, XD_bin, XD_cvI, XD_pick, XD_ext, XD_len, XD_mnmx, XD_mksl, XD_iadL, XD_ld, XD_fad, XD_nil, XWD_some, XVD_same, XVD_k, XO_alloc, XO_st, XD_st, XO_box, XO_mkslo, XD_mkslo, XO_mrk, XD_mrk, mr_0, XO_build, st_0_2, st_0_3, st_l_2, st_l_3, ld_l_2, ld_l_3, ld_r_2, ld_r_3, ld_l_at, Nat.zero_add, bd_nil, bd_2, bd_3, XD_build, XO_fld, XD_fld, XO_cvBS, XD_cvBS, bs_sl, bs_nil, XO_cvSB, XD_cvSB, sb_txt, XO_slL, XD_slL, Option.map_some, Option.map_none, XO_mksl, XO_iadL, XO_ld, XO_fad, ld_rptr, fd_r, fd_p, fd_e, List.drop_zero, List.drop_succ_cons, mkParts_nil, mkParts_cons, mkO_1, mkO_2, mk_agg2, mk_agg3, src_sl, mmO_min, mmO_max, XW_some, XV_some, ln_nil, ln_sl, ln_own, ln_str, cvO_eq, pkO_t, pkO_f, exO_eq, evalO_t, evalO_c, putD_some, putD_none, slot_len, slot_eq, slot_ne, ne_eq, Nat.reduceLT, Nat.reduceEqDiff, not_false_eq_true, not_true_eq_false, reduceCtorEq, XO_nil, RQ_0, RQ_0n, RQ_1, RQ_2, RQ_3, K_norm, K_exit, K_goto, K_ret, K_pan, B_norm, B_exit, B_goto, B_ret, B_pan, S_norm, S_exit, S_ret, S_pan, X_cnd, XB_true, XB_false, bin_add, bin_sub, bin_mul, bin_and, bin_or, bin_shr, bin_shl, bin_quo, bin_rem, Int.reduceLT, Int.reduceEq, bin_eql, bin_neq, bin_lss, bin_leq, bin_gtr, bin_geq, bin_seql, bin_sneq, decide_true, decide_false, eq_self, if_true, if_false, List.getElem?_cons_zero, List.getElem?_cons_succ, hs]
        · intro n' out' s' h'' v'' a1 a2 a3 a4 a5 a6
          refine hQ n' out' s' h'' v'' a1 a2 a3 a4 a5 ?_
          rw [a6]
          have : 127 < n := by omega
          simp [numF, this]
    · simp only [X_skip, X_seq, X_reg, X_block, X_scope, X_exit, X_goto, X_ret, X_label, XO_mv, XO_g, XG_tt, XG_tf, XG_ft, XG_ff, XO_bin, XO_cvI, XO_pick, XO_ext, XO_len, XO_mnmx, XD_mv, XD_g, XGD_tt, XGD_tf, XGD_ft, XGD_ff, XD_bin, XD_cvI, XD_pick, XD_ext, XD_len, XD_mnmx, XD_mksl, XD_iadL, XD_ld, XD_fad, XD_nil, XWD_some, XVD_same, XVD_k, XO_alloc, XO_st, XD_st, XO_box, XO_mkslo, XD_mkslo, XO_mrk, XD_mrk, mr_0, XO_build, st_0_2, st_0_3, st_l_2, st_l_3, ld_l_2, ld_l_3, ld_r_2, ld_r_3, ld_l_at, Nat.zero_add, bd_nil, bd_2, bd_3, XD_build, XO_fld, XD_fld, XO_cvBS, XD_cvBS, bs_sl, bs_nil, XO_cvSB, XD_cvSB, sb_txt, XO_slL, XD_slL, Option.map_some, Option.map_none, XO_mksl, XO_iadL, XO_ld, XO_fad, ld_rptr, fd_r, fd_p, fd_e, List.drop_zero, List.drop_succ_cons, mkParts_nil, mkParts_cons, mkO_1, mkO_2, mk_agg2, mk_agg3, src_sl, mmO_min, mmO_max, XW_some, XV_some, ln_nil, ln_sl, ln_own, ln_str, cvO_eq, pkO_t, pkO_f, exO_eq, evalO_t, evalO_c, putD_some, putD_none, slot_len, slot_eq, slot_ne, ne_eq, Nat.reduceLT, Nat.reduceEqDiff, not_false_eq_true, not_true_eq_false, reduceCtorEq, XO_nil, RQ_0, RQ_0n, RQ_1, RQ_2, RQ_3, K_norm, K_exit, K_goto, K_ret, K_pan, B_norm, B_exit, B_goto, B_ret, B_pan, S_norm, S_exit, S_ret, S_pan, X_cnd, XB_true, XB_false, bin_add, bin_sub, bin_mul, bin_and, bin_or, bin_shr, bin_shl, bin_quo, bin_rem, Int.reduceLT, Int.reduceEq, bin_eql, bin_neq, bin_lss, bin_leq, bin_gtr, bin_geq, bin_seql, bin_sneq, decide_true, decide_false, eq_self, if_true, if_false, List.getElem?_cons_zero, List.getElem?_cons_succ]
      refine hQ n out _ h v (by simp only [slot_len, hs]) ?_ (by omega) ?_ hb ?_
      · simp only [X_skip, X_seq, X_reg, X_block, X_scope, X_exit, X_goto, X_ret, X_label, XO_mv, XO_g, XG_tt, XG_tf, XG_ft, XG_ff, XO_bin, XO_cvI, XO_pick, XO_ext, XO_len, XO_mnmx, XD_mv, XD_g, XGD_tt, XGD_tf, XGD_ft, XGD_ff, XD_bin, XD_cvI, XD_pick, XD_ext, XD_len, XD_mnmx, XD_mksl, XD_iadL, XD_ld, XD_fad, XD_nil, XWD_some, XVD_same, XVD_k, XO_alloc, XO_st, XD_st, XO_box, XO_mkslo, XD_mkslo, XO_mrk, XD_mrk, mr_0, XO_build, st_0_2, st_0_3, st_l_2, st_l_3, ld_l_2, ld_l_3, ld_r_2, ld_r_3, ld_l_at, Nat.zero_add, bd_nil, bd_2, bd_3, XD_build, XO_fld, XD_fld, XO_cvBS, XD_cvBS, bs_sl, bs_nil, XO_cvSB, XD_cvSB, sb_txt, XO_slL, XD_slL, Option.map_some, Option.map_none, XO_mksl, XO_iadL, XO_ld, XO_fad, ld_rptr, fd_r, fd_p, fd_e, List.drop_zero, List.drop_succ_cons, mkParts_nil, mkParts_cons, mkO_1, mkO_2, mk_agg2, mk_agg3, src_sl, mmO_min, mmO_max, XW_some, XV_some, ln_nil, ln_sl, ln_own, ln_str, cvO_eq, pkO_t, pkO_f, exO_eq, evalO_t, evalO_c, putD_some, putD_none, slot_len, slot_eq, slot_ne, ne_eq, Nat.reduceLT, Nat.reduceEqDiff, not_false_eq_true, not_true_eq_false, reduceCtorEq, XO_nil, RQ_0, RQ_0n, RQ_1, RQ_2, RQ_3, K_norm, K_exit, K_goto, K_ret, K_pan, B_norm, B_exit, B_goto, B_ret, B_pan, S_norm, S_exit, S_ret, S_pan, X_cnd, XB_true, XB_false, bin_add, bin_sub, bin_mul, bin_and, bin_or, bin_shr, bin_shl, bin_quo, bin_rem, Int.reduceLT, Int.reduceEq, bin_eql, bin_neq, bin_lss, bin_leq, bin_gtr, bin_geq, bin_seql, bin_sneq, decide_true, decide_false, eq_self, if_true, if_false, List.getElem?_cons_zero, List.getElem?_cons_succ, hs, h1]
      · simp only [X_skip, X_seq, X_reg, X_block, X_scope, X_exit, X_goto, X_ret, X_label, XO_mv, XO_g, XG_tt, XG_tf, XG_ft, XG_ff, XO_bin, XO_cvI, XO_pick, XO_ext, XO_len, XO_mnmx, XD_mv, XD_g, XGD_tt, XGD_tf, XGD_ft, XGD_ff, XD_bin, XD_cvI, XD_pick, XD_ext, XD_len, XD_mnmx, XD_mksl, XD_iadL, XD_ld, XD_fad, XD_nil, XWD_some, XVD_same, XVD_k, XO_alloc, XO_st, XD_st, XO_box, XO_mkslo, XD_mkslo, XO_mrk, XD_mrk, mr_0, XO_build, st_0_2, st_0_3, st_l_2, st_l_3, ld_l_2, ld_l_3, ld_r_2, ld_r_3, ld_l_at, Nat.zero_add, bd_nil, bd_2, bd_3, XD_build, XO_fld, XD_fld, XO_cvBS, XD_cvBS, bs_sl, bs_nil, XO_cvSB, XD_cvSB, sb_txt, XO_slL, XD_slL, Option.map_some, Option.map_none, XO_mksl, XO_iadL, XO_ld, XO_fad, ld_rptr, fd_r, fd_p, fd_e, List.drop_zero, List.drop_succ_cons, mkParts_nil, mkParts_cons, mkO_1, mkO_2, mk_agg2, mk_agg3, src_sl, mmO_min, mmO_max, XW_some, XV_some, ln_nil, ln_sl, ln_own, ln_str, cvO_eq, pkO_t, pkO_f, exO_eq, evalO_t, evalO_c, putD_some, putD_none, slot_len, slot_eq, slot_ne, ne_eq, Nat.reduceLT, Nat.reduceEqDiff, not_false_eq_true, not_true_eq_false, reduceCtorEq, XO_nil, RQ_0, RQ_0n, RQ_1, RQ_2, RQ_3, K_norm, K_exit, K_goto, K_ret, K_pan, B_norm, B_exit, B_goto, B_ret, B_pan, S_norm, S_exit, S_ret, S_pan, X_cnd, XB_true, XB_false, bin_add, bin_sub, bin_mul, bin_and, bin_or, bin_shr, bin_shl, bin_quo, bin_rem, Int.reduceLT, Int.reduceEq, bin_eql, bin_neq, bin_lss, bin_leq, bin_gtr, bin_geq, bin_seql, bin_sneq, decide_true, decide_false, eq_self, if_true, if_false, List.getElem?_cons_zero, List.getElem?_cons_succ, hs, h2]
      · have : ¬ 127 < n := by omega
        simp only [numF, if_neg this]

def clamp (n : Int) : Nat := (max 0 (min n 9007199254740992)).toNat

theorem numF_le : ∀ k n, (numF k n).length ≤ k + 1
  | 0, _ => by simp [numF]
  | k + 1, n => by
    simp only [numF]
    split
    · simp only [List.length_cons]
      have := numF_le k (n / 128)
      omega
    · simp

theorem num_f33 (n : Int) (h : Heap) : ∃ v h', call F 33 [vi .i64 n] h = some (.ret v, h') ∧ Buf h 1 (eB (num (clamp n))) v h' := by
  refine call_E (fn := f33) rfl ?_
  simp only [f33, List.length_cons, List.length_nil, List.cons_append, List.nil_append]
  generalize hs0 : (vi .i64 n :: List.replicate (22 - (0 + 1)) VV.undef) = s
  have hs : s.length = 22 := by rw [← hs0]; rfl
  have h0 : s.getD 0 .undef = vi .i64 n := by rw [← hs0]; rfl
  clear hs0
  simp only [X_skip, X_seq, X_reg, X_block, X_scope, X_exit, X_goto, X_ret, X_label, XO_mv, XO_g, XG_tt, XG_tf, XG_ft, XG_ff, XO_bin, XO_cvI, XO_pick, XO_ext, XO_len, XO_mnmx, XD_mv, XD_g, XGD_tt, XGD_tf, XGD_ft, XGD_ff, XD_bin, XD_cvI, XD_pick, XD_ext, XD_len, XD_mnmx, XD_mksl, XD_iadL, XD_ld, XD_fad, XD_nil, XWD_some, XVD_same, XVD_k, XO_alloc, XO_st, XD_st, XO_box, XO_mkslo, XD_mkslo, XO_mrk, XD_mrk, mr_0, XO_build, st_0_2, st_0_3, st_l_2, st_l_3, ld_l_2, ld_l_3, ld_r_2, ld_r_3, ld_l_at, Nat.zero_add, bd_nil, bd_2, bd_3, XD_build, XO_fld, XD_fld, XO_cvBS, XD_cvBS, bs_sl, bs_nil, XO_cvSB, XD_cvSB, sb_txt, XO_slL, XD_slL, Option.map_some, Option.map_none, XO_mksl, XO_iadL, XO_ld, XO_fad, ld_rptr, fd_r, fd_p, fd_e, List.drop_zero, List.drop_succ_cons, mkParts_nil, mkParts_cons, mkO_1, mkO_2, mk_agg2, mk_agg3, src_sl, mmO_min, mmO_max, XW_some, XV_some, ln_nil, ln_sl, ln_own, ln_str, cvO_eq, pkO_t, pkO_f, exO_eq, evalO_t, evalO_c, putD_some, putD_none, slot_len, slot_eq, slot_ne, ne_eq, Nat.reduceLT, Nat.reduceEqDiff, not_false_eq_true, not_true_eq_false, reduceCtorEq, XO_nil, RQ_0, RQ_0n, RQ_1, RQ_2, RQ_3, K_norm, K_exit, K_goto, K_ret, K_pan, B_norm, B_exit, B_goto, B_ret, B_pan, S_norm, S_exit, S_ret, S_pan, X_cnd, XB_true, XB_false, bin_add, bin_sub, bin_mul, bin_and, bin_or, bin_shr, bin_shl, bin_quo, bin_rem, Int.reduceLT, Int.reduceEq, bin_eql, bin_neq, bin_lss, bin_leq, bin_gtr, bin_geq, bin_seql, bin_sneq, decide_true, decide_false, eq_self, if_true, if_false, List.getElem?_cons_zero, List.getElem?_cons_succ, hs, h0]
  have ec : max 0 (min n 9007199254740992) = ((clamp n : Nat) : Int) := by unfold clamp; omega
  have hc : clamp n ≤ 9007199254740992 := by unfold clamp; omega
  refine f33_loop 8 (clamp n) [] h _ h nilS _ ?_ ?_ ?_ ?_ ?_ ?_ (Buf.nil _ _) ?_
  · have : (128 : Nat) ^ (8 + 1) = 9223372036854775808 := by decide
    omega
  · omega
  · decide
  · simp only [X_skip, X_seq, X_reg, X_block, X_scope, X_exit, X_goto, X_ret, X_label, XO_mv, XO_g, XG_tt, XG_tf, XG_ft, XG_ff, XO_bin, XO_cvI, XO_pick, XO_ext, XO_len, XO_mnmx, XD_mv, XD_g, XGD_tt, XGD_tf, XGD_ft, XGD_ff, XD_bin, XD_cvI, XD_pick, XD_ext, XD_len, XD_mnmx, XD_mksl, XD_iadL, XD_ld, XD_fad, XD_nil, XWD_some, XVD_same, XVD_k, XO_alloc, XO_st, XD_st, XO_box, XO_mkslo, XD_mkslo, XO_mrk, XD_mrk, mr_0, XO_build, st_0_2, st_0_3, st_l_2, st_l_3, ld_l_2, ld_l_3, ld_r_2, ld_r_3, ld_l_at, Nat.zero_add, bd_nil, bd_2, bd_3, XD_build, XO_fld, XD_fld, XO_cvBS, XD_cvBS, bs_sl, bs_nil, XO_cvSB, XD_cvSB, sb_txt, XO_slL, XD_slL, Option.map_some, Option.map_none, XO_mksl, XO_iadL, XO_ld, XO_fad, ld_rptr, fd_r, fd_p, fd_e, List.drop_zero, List.drop_succ_cons, mkParts_nil, mkParts_cons, mkO_1, mkO_2, mk_agg2, mk_agg3, src_sl, mmO_min, mmO_max, XW_some, XV_some, ln_nil, ln_sl, ln_own, ln_str, cvO_eq, pkO_t, pkO_f, exO_eq, evalO_t, evalO_c, putD_some, putD_none, slot_len, slot_eq, slot_ne, ne_eq, Nat.reduceLT, Nat.reduceEqDiff, not_false_eq_true, not_true_eq_false, reduceCtorEq, XO_nil, RQ_0, RQ_0n, RQ_1, RQ_2, RQ_3, K_norm, K_exit, K_goto, K_ret, K_pan, B_norm, B_exit, B_goto, B_ret, B_pan, S_norm, S_exit, S_ret, S_pan, X_cnd, XB_true, XB_false, bin_add, bin_sub, bin_mul, bin_and, bin_or, bin_shr, bin_shl, bin_quo, bin_rem, Int.reduceLT, Int.reduceEq, bin_eql, bin_neq, bin_lss, bin_leq, bin_gtr, bin_geq, bin_seql, bin_sneq, decide_true, decide_false, eq_self, if_true, if_false, List.getElem?_cons_zero, List.getElem?_cons_succ, hs]
  · simp only [X_skip, X_seq, X_reg, X_block, X_scope, X_exit, X_goto, X_ret, X_label, XO_mv, XO_g, XG_tt, XG_tf, XG_ft, XG_ff, XO_bin, XO_cvI, XO_pick, XO_ext, XO_len, XO_mnmx, XD_mv, XD_g, XGD_tt, XGD_tf, XGD_ft, XGD_ff, XD_bin, XD_cvI, XD_pick, XD_ext, XD_len, XD_mnmx, XD_mksl, XD_iadL, XD_ld, XD_fad, XD_nil, XWD_some, XVD_same, XVD_k, XO_alloc, XO_st, XD_st, XO_box, XO_mkslo, XD_mkslo, XO_mrk, XD_mrk, mr_0, XO_build, st_0_2, st_0_3, st_l_2, st_l_3, ld_l_2, ld_l_3, ld_r_2, ld_r_3, ld_l_at, Nat.zero_add, bd_nil, bd_2, bd_3, XD_build, XO_fld, XD_fld, XO_cvBS, XD_cvBS, bs_sl, bs_nil, XO_cvSB, XD_cvSB, sb_txt, XO_slL, XD_slL, Option.map_some, Option.map_none, XO_mksl, XO_iadL, XO_ld, XO_fad, ld_rptr, fd_r, fd_p, fd_e, List.drop_zero, List.drop_succ_cons, mkParts_nil, mkParts_cons, mkO_1, mkO_2, mk_agg2, mk_agg3, src_sl, mmO_min, mmO_max, XW_some, XV_some, ln_nil, ln_sl, ln_own, ln_str, cvO_eq, pkO_t, pkO_f, exO_eq, evalO_t, evalO_c, putD_some, putD_none, slot_len, slot_eq, slot_ne, ne_eq, Nat.reduceLT, Nat.reduceEqDiff, not_false_eq_true, not_true_eq_false, reduceCtorEq, XO_nil, RQ_0, RQ_0n, RQ_1, RQ_2, RQ_3, K_norm, K_exit, K_goto, K_ret, K_pan, B_norm, B_exit, B_goto, B_ret, B_pan, S_norm, S_exit, S_ret, S_pan, X_cnd, XB_true, XB_false, bin_add, bin_sub, bin_mul, bin_and, bin_or, bin_shr, bin_shl, bin_quo, bin_rem, Int.reduceLT, Int.reduceEq, bin_eql, bin_neq, bin_lss, bin_leq, bin_gtr, bin_geq, bin_seql, bin_sneq, decide_true, decide_false, eq_self, if_true, if_false, List.getElem?_cons_zero, List.getElem?_cons_succ, hs, ec]
  · simp only [X_skip, X_seq, X_reg, X_block, X_scope, X_exit, X_goto, X_ret, X_label, XO_mv, XO_g, XG_tt, XG_tf, XG_ft, XG_ff, XO_bin, XO_cvI, XO_pick, XO_ext, XO_len, XO_mnmx, XD_mv, XD_g, XGD_tt, XGD_tf, XGD_ft, XGD_ff, XD_bin, XD_cvI, XD_pick, XD_ext, XD_len, XD_mnmx, XD_mksl, XD_iadL, XD_ld, XD_fad, XD_nil, XWD_some, XVD_same, XVD_k, XO_alloc, XO_st, XD_st, XO_box, XO_mkslo, XD_mkslo, XO_mrk, XD_mrk, mr_0, XO_build, st_0_2, st_0_3, st_l_2, st_l_3, ld_l_2, ld_l_3, ld_r_2, ld_r_3, ld_l_at, Nat.zero_add, bd_nil, bd_2, bd_3, XD_build, XO_fld, XD_fld, XO_cvBS, XD_cvBS, bs_sl, bs_nil, XO_cvSB, XD_cvSB, sb_txt, XO_slL, XD_slL, Option.map_some, Option.map_none, XO_mksl, XO_iadL, XO_ld, XO_fad, ld_rptr, fd_r, fd_p, fd_e, List.drop_zero, List.drop_succ_cons, mkParts_nil, mkParts_cons, mkO_1, mkO_2, mk_agg2, mk_agg3, src_sl, mmO_min, mmO_max, XW_some, XV_some, ln_nil, ln_sl, ln_own, ln_str, cvO_eq, pkO_t, pkO_f, exO_eq, evalO_t, evalO_c, putD_some, putD_none, slot_len, slot_eq, slot_ne, ne_eq, Nat.reduceLT, Nat.reduceEqDiff, not_false_eq_true, not_true_eq_false, reduceCtorEq, XO_nil, RQ_0, RQ_0n, RQ_1, RQ_2, RQ_3, K_norm, K_exit, K_goto, K_ret, K_pan, B_norm, B_exit, B_goto, B_ret, B_pan, S_norm, S_exit, S_ret, S_pan, X_cnd, XB_true, XB_false, bin_add, bin_sub, bin_mul, bin_and, bin_or, bin_shr, bin_shl, bin_quo, bin_rem, Int.reduceLT, Int.reduceEq, bin_eql, bin_neq, bin_lss, bin_leq, bin_gtr, bin_geq, bin_seql, bin_sneq, decide_true, decide_false, eq_self, if_true, if_false, List.getElem?_cons_zero, List.getElem?_cons_succ, hs]
  · intro n' out' s' h' v' a1 a2 a3 a4 a5 a6
    simp only [X_skip, X_seq, X_reg, X_block, X_scope, X_exit, X_goto, X_ret, X_label, XO_mv, XO_g, XG_tt, XG_tf, XG_ft, XG_ff, XO_bin, XO_cvI, XO_pick, XO_ext, XO_len, XO_mnmx, XD_mv, XD_g, XGD_tt, XGD_tf, XGD_ft, XGD_ff, XD_bin, XD_cvI, XD_pick, XD_ext, XD_len, XD_mnmx, XD_mksl, XD_iadL, XD_ld, XD_fad, XD_nil, XWD_some, XVD_same, XVD_k, XO_alloc, XO_st, XD_st, XO_box, XO_mkslo, XD_mkslo, XO_mrk, XD_mrk, mr_0, XO_build, st_0_2, st_0_3, st_l_2, st_l_3, ld_l_2, ld_l_3, ld_r_2, ld_r_3, ld_l_at, Nat.zero_add, bd_nil, bd_2, bd_3, XD_build, XO_fld, XD_fld, XO_cvBS, XD_cvBS, bs_sl, bs_nil, XO_cvSB, XD_cvSB, sb_txt, XO_slL, XD_slL, Option.map_some, Option.map_none, XO_mksl, XO_iadL, XO_ld, XO_fad, ld_rptr, fd_r, fd_p, fd_e, List.drop_zero, List.drop_succ_cons, mkParts_nil, mkParts_cons, mkO_1, mkO_2, mk_agg2, mk_agg3, src_sl, mmO_min, mmO_max, XW_some, XV_some, ln_nil, ln_sl, ln_own, ln_str, cvO_eq, pkO_t, pkO_f, exO_eq, evalO_t, evalO_c, putD_some, putD_none, slot_len, slot_eq, slot_ne, ne_eq, Nat.reduceLT, Nat.reduceEqDiff, not_false_eq_true, not_true_eq_false, reduceCtorEq, XO_nil, RQ_0, RQ_0n, RQ_1, RQ_2, RQ_3, K_norm, K_exit, K_goto, K_ret, K_pan, B_norm, B_exit, B_goto, B_ret, B_pan, S_norm, S_exit, S_ret, S_pan, X_cnd, XB_true, XB_false, bin_add, bin_sub, bin_mul, bin_and, bin_or, bin_shr, bin_shl, bin_quo, bin_rem, Int.reduceLT, Int.reduceEq, bin_eql, bin_neq, bin_lss, bin_leq, bin_gtr, bin_geq, bin_seql, bin_sneq, decide_true, decide_false, eq_self, if_true, if_false, List.getElem?_cons_zero, List.getElem?_cons_succ, a1, a2, a4]
    have e1 : IntKind.u8.wrap (n' : Int) = n' := IntWalk.u8_in _ (by omega)
    rw [e1]
    have hl : (out' ++ [u8 n']).length ≤ 20 := by rw [a6]; simp only [List.nil_append]; have := numF_le 8 (clamp n); omega
    simp at hl
    refine XO_app (new := eB [u8 n']) a5 (by simp only [X_skip, X_seq, X_reg, X_block, X_scope, X_exit, X_goto, X_ret, X_label, XO_mv, XO_g, XG_tt, XG_tf, XG_ft, XG_ff, XO_bin, XO_cvI, XO_pick, XO_ext, XO_len, XO_mnmx, XD_mv, XD_g, XGD_tt, XGD_tf, XGD_ft, XGD_ff, XD_bin, XD_cvI, XD_pick, XD_ext, XD_len, XD_mnmx, XD_mksl, XD_iadL, XD_ld, XD_fad, XD_nil, XWD_some, XVD_same, XVD_k, XO_alloc, XO_st, XD_st, XO_box, XO_mkslo, XD_mkslo, XO_mrk, XD_mrk, mr_0, XO_build, st_0_2, st_0_3, st_l_2, st_l_3, ld_l_2, ld_l_3, ld_r_2, ld_r_3, ld_l_at, Nat.zero_add, bd_nil, bd_2, bd_3, XD_build, XO_fld, XD_fld, XO_cvBS, XD_cvBS, bs_sl, bs_nil, XO_cvSB, XD_cvSB, sb_txt, XO_slL, XD_slL, Option.map_some, Option.map_none, XO_mksl, XO_iadL, XO_ld, XO_fad, ld_rptr, fd_r, fd_p, fd_e, List.drop_zero, List.drop_succ_cons, mkParts_nil, mkParts_cons, mkO_1, mkO_2, mk_agg2, mk_agg3, src_sl, mmO_min, mmO_max, XW_some, XV_some, ln_nil, ln_sl, ln_own, ln_str, cvO_eq, pkO_t, pkO_f, exO_eq, evalO_t, evalO_c, putD_some, putD_none, slot_len, slot_eq, slot_ne, ne_eq, Nat.reduceLT, Nat.reduceEqDiff, not_false_eq_true, not_true_eq_false, reduceCtorEq, XO_nil, RQ_0, RQ_0n, RQ_1, RQ_2, RQ_3, K_norm, K_exit, K_goto, K_ret, K_pan, B_norm, B_exit, B_goto, B_ret, B_pan, S_norm, S_exit, S_ret, S_pan, X_cnd, XB_true, XB_false, bin_add, bin_sub, bin_mul, bin_and, bin_or, bin_shr, bin_shl, bin_quo, bin_rem, Int.reduceLT, Int.reduceEq, bin_eql, bin_neq, bin_lss, bin_leq, bin_gtr, bin_geq, bin_seql, bin_sneq, decide_true, decide_false, eq_self, if_true, if_false, List.getElem?_cons_zero, List.getElem?_cons_succ, a1]) ?_ ?_ ?_ (fun v' h' hb' => ?_)
    · simp only [X_skip, X_seq, X_reg, X_block, X_scope, X_exit, X_goto, X_ret, X_label, XO_mv, XO_g, XG_tt, XG_tf, XG_ft, XG_ff, XO_bin, XO_cvI, XO_pick, XO_ext, XO_len, XO_mnmx, XD_mv, XD_g, XGD_tt, XGD_tf, XGD_ft, XGD_ff, XD_bin, XD_cvI, XD_pick, XD_ext, XD_len, XD_mnmx, XD_mksl, XD_iadL, XD_ld, XD_fad, XD_nil, XWD_some, XVD_same, XVD_k, XO_alloc, XO_st, XD_st, XO_box, XO_mkslo, XD_mkslo, XO_mrk, XD_mrk, mr_0, XO_build, st_0_2, st_0_3, st_l_2, st_l_3, ld_l_2, ld_l_3, ld_r_2, ld_r_3, ld_l_at, Nat.zero_add, bd_nil, bd_2, bd_3, XD_build, XO_fld, XD_fld, XO_cvBS, XD_cvBS, bs_sl, bs_nil, XO_cvSB, XD_cvSB, sb_txt, XO_slL, XD_slL, Option.map_some, Option.map_none, XO_mksl, XO_iadL, XO_ld, XO_fad, ld_rptr, fd_r, fd_p, fd_e, List.drop_zero, List.drop_succ_cons, mkParts_nil, mkParts_cons, mkO_1, mkO_2, mk_agg2, mk_agg3, src_sl, mmO_min, mmO_max, XW_some, XV_some, ln_nil, ln_sl, ln_own, ln_str, cvO_eq, pkO_t, pkO_f, exO_eq, evalO_t, evalO_c, putD_some, putD_none, slot_len, slot_eq, slot_ne, ne_eq, Nat.reduceLT, Nat.reduceEqDiff, not_false_eq_true, not_true_eq_false, reduceCtorEq, XO_nil, RQ_0, RQ_0n, RQ_1, RQ_2, RQ_3, K_norm, K_exit, K_goto, K_ret, K_pan, B_norm, B_exit, B_goto, B_ret, B_pan, S_norm, S_exit, S_ret, S_pan, X_cnd, XB_true, XB_false, bin_add, bin_sub, bin_mul, bin_and, bin_or, bin_shr, bin_shl, bin_quo, bin_rem, Int.reduceLT, Int.reduceEq, bin_eql, bin_neq, bin_lss, bin_leq, bin_gtr, bin_geq, bin_seql, bin_sneq, decide_true, decide_false, eq_self, if_true, if_false, List.getElem?_cons_zero, List.getElem?_cons_succ, a1]
      rw [eB_u8 _ (by omega)]
    · simp [eB]; omega
    · simp [eB]; omega
    · simp only [X_skip, X_seq, X_reg, X_block, X_scope, X_exit, X_goto, X_ret, X_label, XO_mv, XO_g, XG_tt, XG_tf, XG_ft, XG_ff, XO_bin, XO_cvI, XO_pick, XO_ext, XO_len, XO_mnmx, XD_mv, XD_g, XGD_tt, XGD_tf, XGD_ft, XGD_ff, XD_bin, XD_cvI, XD_pick, XD_ext, XD_len, XD_mnmx, XD_mksl, XD_iadL, XD_ld, XD_fad, XD_nil, XWD_some, XVD_same, XVD_k, XO_alloc, XO_st, XD_st, XO_box, XO_mkslo, XD_mkslo, XO_mrk, XD_mrk, mr_0, XO_build, st_0_2, st_0_3, st_l_2, st_l_3, ld_l_2, ld_l_3, ld_r_2, ld_r_3, ld_l_at, Nat.zero_add, bd_nil, bd_2, bd_3, XD_build, XO_fld, XD_fld, XO_cvBS, XD_cvBS, bs_sl, bs_nil, XO_cvSB, XD_cvSB, sb_txt, XO_slL, XD_slL, Option.map_some, Option.map_none, XO_mksl, XO_iadL, XO_ld, XO_fad, ld_rptr, fd_r, fd_p, fd_e, List.drop_zero, List.drop_succ_cons, mkParts_nil, mkParts_cons, mkO_1, mkO_2, mk_agg2, mk_agg3, src_sl, mmO_min, mmO_max, XW_some, XV_some, ln_nil, ln_sl, ln_own, ln_str, cvO_eq, pkO_t, pkO_f, exO_eq, evalO_t, evalO_c, putD_some, putD_none, slot_len, slot_eq, slot_ne, ne_eq, Nat.reduceLT, Nat.reduceEqDiff, not_false_eq_true, not_true_eq_false, reduceCtorEq, XO_nil, RQ_0, RQ_0n, RQ_1, RQ_2, RQ_3, K_norm, K_exit, K_goto, K_ret, K_pan, B_norm, B_exit, B_goto, B_ret, B_pan, S_norm, S_exit, S_ret, S_pan, X_cnd, XB_true, XB_false, bin_add, bin_sub, bin_mul, bin_and, bin_or, bin_shr, bin_shl, bin_quo, bin_rem, Int.reduceLT, Int.reduceEq, bin_eql, bin_neq, bin_lss, bin_leq, bin_gtr, bin_geq, bin_seql, bin_sneq, decide_true, decide_false, eq_self, if_true, if_false, List.getElem?_cons_zero, List.getElem?_cons_succ, a1]
      rw [← eB_append, a6] at hb'
      exact hb'

def text (l : List UInt8) : List UInt8 := num (clamp l.length) ++ l

theorem text_f50 (l : List UInt8) (h : Heap) (hl : l.length ≤ 1000000000) : ∃ v h', call F 50 [txt l] h = some (.ret v, h') ∧ Buf h 1 (eB (text l)) v h' := by
  refine call_E (fn := f50) rfl ?_
  simp only [f50]
  generalize hs0 : ([txt l] ++ List.replicate _ VV.undef : List VV) = s
  have hs : s.length = 8 := by rw [← hs0]; rfl
  have h0 : s.getD 0 .undef = txt l := by rw [← hs0]; rfl
  clear hs0
  simp only [X_skip, X_seq, X_reg, X_block, X_scope, X_exit, X_goto, X_ret, X_label, XO_mv, XO_g, XG_tt, XG_tf, XG_ft, XG_ff, XO_bin, XO_cvI, XO_pick, XO_ext, XO_len, XO_mnmx, XD_mv, XD_g, XGD_tt, XGD_tf, XGD_ft, XGD_ff, XD_bin, XD_cvI, XD_pick, XD_ext, XD_len, XD_mnmx, XD_mksl, XD_iadL, XD_ld, XD_fad, XD_nil, XWD_some, XVD_same, XVD_k, XO_alloc, XO_st, XD_st, XO_box, XO_mkslo, XD_mkslo, XO_mrk, XD_mrk, mr_0, XO_build, st_0_2, st_0_3, st_l_2, st_l_3, ld_l_2, ld_l_3, ld_r_2, ld_r_3, ld_l_at, Nat.zero_add, bd_nil, bd_2, bd_3, XD_build, XO_fld, XD_fld, XO_cvBS, XD_cvBS, bs_sl, bs_nil, XO_cvSB, XD_cvSB, sb_txt, XO_slL, XD_slL, Option.map_some, Option.map_none, XO_mksl, XO_iadL, XO_ld, XO_fad, ld_rptr, fd_r, fd_p, fd_e, List.drop_zero, List.drop_succ_cons, mkParts_nil, mkParts_cons, mkO_1, mkO_2, mk_agg2, mk_agg3, src_sl, mmO_min, mmO_max, XW_some, XV_some, ln_nil, ln_sl, ln_own, ln_str, cvO_eq, pkO_t, pkO_f, exO_eq, evalO_t, evalO_c, putD_some, putD_none, slot_len, slot_eq, slot_ne, ne_eq, Nat.reduceLT, Nat.reduceEqDiff, not_false_eq_true, not_true_eq_false, reduceCtorEq, XO_nil, RQ_0, RQ_0n, RQ_1, RQ_2, RQ_3, K_norm, K_exit, K_goto, K_ret, K_pan, B_norm, B_exit, B_goto, B_ret, B_pan, S_norm, S_exit, S_ret, S_pan, X_cnd, XB_true, XB_false, bin_add, bin_sub, bin_mul, bin_and, bin_or, bin_shr, bin_shl, bin_quo, bin_rem, Int.reduceLT, Int.reduceEq, bin_eql, bin_neq, bin_lss, bin_leq, bin_gtr, bin_geq, bin_seql, bin_sneq, decide_true, decide_false, eq_self, if_true, if_false, List.getElem?_cons_zero, List.getElem?_cons_succ, hs, h0]
  obtain ⟨v, h', hc, hb⟩ := num_f33 l.length h
  refine XO_callR (v := v) (h' := h') (by simp only [List.map, X_skip, X_seq, X_reg, X_block, X_scope, X_exit, X_goto, X_ret, X_label, XO_mv, XO_g, XG_tt, XG_tf, XG_ft, XG_ff, XO_bin, XO_cvI, XO_pick, XO_ext, XO_len, XO_mnmx, XD_mv, XD_g, XGD_tt, XGD_tf, XGD_ft, XGD_ff, XD_bin, XD_cvI, XD_pick, XD_ext, XD_len, XD_mnmx, XD_mksl, XD_iadL, XD_ld, XD_fad, XD_nil, XWD_some, XVD_same, XVD_k, XO_alloc, XO_st, XD_st, XO_box, XO_mkslo, XD_mkslo, XO_mrk, XD_mrk, mr_0, XO_build, st_0_2, st_0_3, st_l_2, st_l_3, ld_l_2, ld_l_3, ld_r_2, ld_r_3, ld_l_at, Nat.zero_add, bd_nil, bd_2, bd_3, XD_build, XO_fld, XD_fld, XO_cvBS, XD_cvBS, bs_sl, bs_nil, XO_cvSB, XD_cvSB, sb_txt, XO_slL, XD_slL, Option.map_some, Option.map_none, XO_mksl, XO_iadL, XO_ld, XO_fad, ld_rptr, fd_r, fd_p, fd_e, List.drop_zero, List.drop_succ_cons, mkParts_nil, mkParts_cons, mkO_1, mkO_2, mk_agg2, mk_agg3, src_sl, mmO_min, mmO_max, XW_some, XV_some, ln_nil, ln_sl, ln_own, ln_str, cvO_eq, pkO_t, pkO_f, exO_eq, evalO_t, evalO_c, putD_some, putD_none, slot_len, slot_eq, slot_ne, ne_eq, Nat.reduceLT, Nat.reduceEqDiff, not_false_eq_true, not_true_eq_false, reduceCtorEq, XO_nil, RQ_0, RQ_0n, RQ_1, RQ_2, RQ_3, K_norm, K_exit, K_goto, K_ret, K_pan, B_norm, B_exit, B_goto, B_ret, B_pan, S_norm, S_exit, S_ret, S_pan, X_cnd, XB_true, XB_false, bin_add, bin_sub, bin_mul, bin_and, bin_or, bin_shr, bin_shl, bin_quo, bin_rem, Int.reduceLT, Int.reduceEq, bin_eql, bin_neq, bin_lss, bin_leq, bin_gtr, bin_geq, bin_seql, bin_sneq, decide_true, decide_false, eq_self, if_true, if_false, List.getElem?_cons_zero, List.getElem?_cons_succ, hs]; exact hc) ?_
  simp only [X_skip, X_seq, X_reg, X_block, X_scope, X_exit, X_goto, X_ret, X_label, XO_mv, XO_g, XG_tt, XG_tf, XG_ft, XG_ff, XO_bin, XO_cvI, XO_pick, XO_ext, XO_len, XO_mnmx, XD_mv, XD_g, XGD_tt, XGD_tf, XGD_ft, XGD_ff, XD_bin, XD_cvI, XD_pick, XD_ext, XD_len, XD_mnmx, XD_mksl, XD_iadL, XD_ld, XD_fad, XD_nil, XWD_some, XVD_same, XVD_k, XO_alloc, XO_st, XD_st, XO_box, XO_mkslo, XD_mkslo, XO_mrk, XD_mrk, mr_0, XO_build, st_0_2, st_0_3, st_l_2, st_l_3, ld_l_2, ld_l_3, ld_r_2, ld_r_3, ld_l_at, Nat.zero_add, bd_nil, bd_2, bd_3, XD_build, XO_fld, XD_fld, XO_cvBS, XD_cvBS, bs_sl, bs_nil, XO_cvSB, XD_cvSB, sb_txt, XO_slL, XD_slL, Option.map_some, Option.map_none, XO_mksl, XO_iadL, XO_ld, XO_fad, ld_rptr, fd_r, fd_p, fd_e, List.drop_zero, List.drop_succ_cons, mkParts_nil, mkParts_cons, mkO_1, mkO_2, mk_agg2, mk_agg3, src_sl, mmO_min, mmO_max, XW_some, XV_some, ln_nil, ln_sl, ln_own, ln_str, cvO_eq, pkO_t, pkO_f, exO_eq, evalO_t, evalO_c, putD_some, putD_none, slot_len, slot_eq, slot_ne, ne_eq, Nat.reduceLT, Nat.reduceEqDiff, not_false_eq_true, not_true_eq_false, reduceCtorEq, XO_nil, RQ_0, RQ_0n, RQ_1, RQ_2, RQ_3, K_norm, K_exit, K_goto, K_ret, K_pan, B_norm, B_exit, B_goto, B_ret, B_pan, S_norm, S_exit, S_ret, S_pan, X_cnd, XB_true, XB_false, bin_add, bin_sub, bin_mul, bin_and, bin_or, bin_shr, bin_shl, bin_quo, bin_rem, Int.reduceLT, Int.reduceEq, bin_eql, bin_neq, bin_lss, bin_leq, bin_gtr, bin_geq, bin_seql, bin_sneq, decide_true, decide_false, eq_self, if_true, if_false, List.getElem?_cons_zero, List.getElem?_cons_succ, hs, h0]
  have hn : (num (clamp l.length)).length ≤ 9 := numF_le 8 _
  refine XO_app hb (new := eB l) (by simp only [X_skip, X_seq, X_reg, X_block, X_scope, X_exit, X_goto, X_ret, X_label, XO_mv, XO_g, XG_tt, XG_tf, XG_ft, XG_ff, XO_bin, XO_cvI, XO_pick, XO_ext, XO_len, XO_mnmx, XD_mv, XD_g, XGD_tt, XGD_tf, XGD_ft, XGD_ff, XD_bin, XD_cvI, XD_pick, XD_ext, XD_len, XD_mnmx, XD_mksl, XD_iadL, XD_ld, XD_fad, XD_nil, XWD_some, XVD_same, XVD_k, XO_alloc, XO_st, XD_st, XO_box, XO_mkslo, XD_mkslo, XO_mrk, XD_mrk, mr_0, XO_build, st_0_2, st_0_3, st_l_2, st_l_3, ld_l_2, ld_l_3, ld_r_2, ld_r_3, ld_l_at, Nat.zero_add, bd_nil, bd_2, bd_3, XD_build, XO_fld, XD_fld, XO_cvBS, XD_cvBS, bs_sl, bs_nil, XO_cvSB, XD_cvSB, sb_txt, XO_slL, XD_slL, Option.map_some, Option.map_none, XO_mksl, XO_iadL, XO_ld, XO_fad, ld_rptr, fd_r, fd_p, fd_e, List.drop_zero, List.drop_succ_cons, mkParts_nil, mkParts_cons, mkO_1, mkO_2, mk_agg2, mk_agg3, src_sl, mmO_min, mmO_max, XW_some, XV_some, ln_nil, ln_sl, ln_own, ln_str, cvO_eq, pkO_t, pkO_f, exO_eq, evalO_t, evalO_c, putD_some, putD_none, slot_len, slot_eq, slot_ne, ne_eq, Nat.reduceLT, Nat.reduceEqDiff, not_false_eq_true, not_true_eq_false, reduceCtorEq, XO_nil, RQ_0, RQ_0n, RQ_1, RQ_2, RQ_3, K_norm, K_exit, K_goto, K_ret, K_pan, B_norm, B_exit, B_goto, B_ret, B_pan, S_norm, S_exit, S_ret, S_pan, X_cnd, XB_true, XB_false, bin_add, bin_sub, bin_mul, bin_and, bin_or, bin_shr, bin_shl, bin_quo, bin_rem, Int.reduceLT, Int.reduceEq, bin_eql, bin_neq, bin_lss, bin_leq, bin_gtr, bin_geq, bin_seql, bin_sneq, decide_true, decide_false, eq_self, if_true, if_false, List.getElem?_cons_zero, List.getElem?_cons_succ, hs]) (by simp only [X_skip, X_seq, X_reg, X_block, X_scope, X_exit, X_goto, X_ret, X_label, XO_mv, XO_g, XG_tt, XG_tf, XG_ft, XG_ff, XO_bin, XO_cvI, XO_pick, XO_ext, XO_len, XO_mnmx, XD_mv, XD_g, XGD_tt, XGD_tf, XGD_ft, XGD_ff, XD_bin, XD_cvI, XD_pick, XD_ext, XD_len, XD_mnmx, XD_mksl, XD_iadL, XD_ld, XD_fad, XD_nil, XWD_some, XVD_same, XVD_k, XO_alloc, XO_st, XD_st, XO_box, XO_mkslo, XD_mkslo, XO_mrk, XD_mrk, mr_0, XO_build, st_0_2, st_0_3, st_l_2, st_l_3, ld_l_2, ld_l_3, ld_r_2, ld_r_3, ld_l_at, Nat.zero_add, bd_nil, bd_2, bd_3, XD_build, XO_fld, XD_fld, XO_cvBS, XD_cvBS, bs_sl, bs_nil, XO_cvSB, XD_cvSB, sb_txt, XO_slL, XD_slL, Option.map_some, Option.map_none, XO_mksl, XO_iadL, XO_ld, XO_fad, ld_rptr, fd_r, fd_p, fd_e, List.drop_zero, List.drop_succ_cons, mkParts_nil, mkParts_cons, mkO_1, mkO_2, mk_agg2, mk_agg3, src_sl, mmO_min, mmO_max, XW_some, XV_some, ln_nil, ln_sl, ln_own, ln_str, cvO_eq, pkO_t, pkO_f, exO_eq, evalO_t, evalO_c, putD_some, putD_none, slot_len, slot_eq, slot_ne, ne_eq, Nat.reduceLT, Nat.reduceEqDiff, not_false_eq_true, not_true_eq_false, reduceCtorEq, XO_nil, RQ_0, RQ_0n, RQ_1, RQ_2, RQ_3, K_norm, K_exit, K_goto, K_ret, K_pan, B_norm, B_exit, B_goto, B_ret, B_pan, S_norm, S_exit, S_ret, S_pan, X_cnd, XB_true, XB_false, bin_add, bin_sub, bin_mul, bin_and, bin_or, bin_shr, bin_shl, bin_quo, bin_rem, Int.reduceLT, Int.reduceEq, bin_eql, bin_neq, bin_lss, bin_leq, bin_gtr, bin_geq, bin_seql, bin_sneq, decide_true, decide_false, eq_self, if_true, if_false, List.getElem?_cons_zero, List.getElem?_cons_succ, hs]; exact src_txt) (by simp only [eB_len]; omega) (by simp only [eB_len]; omega) (fun v' h' hb' => ?_)
  simp only [X_skip, X_seq, X_reg, X_block, X_scope, X_exit, X_goto, X_ret, X_label, XO_mv, XO_g, XG_tt, XG_tf, XG_ft, XG_ff, XO_bin, XO_cvI, XO_pick, XO_ext, XO_len, XO_mnmx, XD_mv, XD_g, XGD_tt, XGD_tf, XGD_ft, XGD_ff, XD_bin, XD_cvI, XD_pick, XD_ext, XD_len, XD_mnmx, XD_mksl, XD_iadL, XD_ld, XD_fad, XD_nil, XWD_some, XVD_same, XVD_k, XO_alloc, XO_st, XD_st, XO_box, XO_mkslo, XD_mkslo, XO_mrk, XD_mrk, mr_0, XO_build, st_0_2, st_0_3, st_l_2, st_l_3, ld_l_2, ld_l_3, ld_r_2, ld_r_3, ld_l_at, Nat.zero_add, bd_nil, bd_2, bd_3, XD_build, XO_fld, XD_fld, XO_cvBS, XD_cvBS, bs_sl, bs_nil, XO_cvSB, XD_cvSB, sb_txt, XO_slL, XD_slL, Option.map_some, Option.map_none, XO_mksl, XO_iadL, XO_ld, XO_fad, ld_rptr, fd_r, fd_p, fd_e, List.drop_zero, List.drop_succ_cons, mkParts_nil, mkParts_cons, mkO_1, mkO_2, mk_agg2, mk_agg3, src_sl, mmO_min, mmO_max, XW_some, XV_some, ln_nil, ln_sl, ln_own, ln_str, cvO_eq, pkO_t, pkO_f, exO_eq, evalO_t, evalO_c, putD_some, putD_none, slot_len, slot_eq, slot_ne, ne_eq, Nat.reduceLT, Nat.reduceEqDiff, not_false_eq_true, not_true_eq_false, reduceCtorEq, XO_nil, RQ_0, RQ_0n, RQ_1, RQ_2, RQ_3, K_norm, K_exit, K_goto, K_ret, K_pan, B_norm, B_exit, B_goto, B_ret, B_pan, S_norm, S_exit, S_ret, S_pan, X_cnd, XB_true, XB_false, bin_add, bin_sub, bin_mul, bin_and, bin_or, bin_shr, bin_shl, bin_quo, bin_rem, Int.reduceLT, Int.reduceEq, bin_eql, bin_neq, bin_lss, bin_leq, bin_gtr, bin_geq, bin_seql, bin_sneq, decide_true, decide_false, eq_self, if_true, if_false, List.getElem?_cons_zero, List.getElem?_cons_succ, hs]
  rw [← eB_append] at hb'
  exact hb'

/-- A number, from its bytes. -/
def getN : Nat → List UInt8 → Nat → Nat → Nat → Nat × Nat × Nat
  | 0, _, _, _, _ => (0, 0, 11)
  | _ + 1, [], _, _, _ => (0, 0, 10)
  | k + 1, c :: r, at_, i, n =>
    let m := n + c.toNat % 128 * 128 ^ i
    if c.toNat < 128 then (if (c.toNat = 0 ∧ 0 < i) ∨ 9007199254740992 < m then (0, 0, 11) else (m, at_ + i + 1, 0)) else getN k r at_ (i + 1) m
def getNum (b : List UInt8) (at_ : Int) : Nat × Nat × Nat := if at_ < 0 ∨ (b.length : Int) < at_ then (0, 0, 10) else getN 8 (b.drop at_.toNat) at_.toNat 0 0

theorem u8_and128 (m : Nat) (h : m < 256) : bits .and .u8 (m : Int) 128 = if m < 128 then 0 else 128 := by
  have : ∀ m : Fin 256, bits .and .u8 ((m.val : Nat) : Int) 128 = if m.val < 128 then 0 else 128 := by decide +kernel
  exact this ⟨m, h⟩
theorem u8_and127' (m : Nat) (h : m < 256) : bits .and .u8 (m : Int) 127 = ((m % 128 : Nat) : Int) := by
  have : ∀ m : Fin 256, bits .and .u8 ((m.val : Nat) : Int) 127 = ((m.val % 128 : Nat) : Int) := by decide +kernel
  exact this ⟨m, h⟩

theorem pow_le (i : Nat) (h : i ≤ 7) : 128 ^ (i + 1) ≤ 72057594037927936 ∧ 0 < 128 ^ i := by
  have : ∀ i : Fin 8, 128 ^ (i.val + 1) ≤ 72057594037927936 ∧ 0 < 128 ^ i.val := by decide +kernel
  exact this ⟨i, by omega⟩
theorem shl_i64 (i c : Nat) (hi : i ≤ 7) (hc : c < 128) : IntKind.i64.wrap ((c : Int) * 2 ^ min (7 * (i : Int)).toNat IntKind.i64.bits) = ((c * 128 ^ i : Nat) : Int) := by
  have h1 : min (7 * (i : Int)).toNat IntKind.i64.bits = 7 * i := by
    have : IntKind.i64.bits = 64 := rfl
    omega
  have h2 : (2 : Int) ^ (7 * i) = ((128 ^ i : Nat) : Int) := by
    rw [Int.pow_mul]; simp
  rw [h1, h2, ← Int.natCast_mul]
  have h3 : c * 128 ^ i ≤ 127 * 128 ^ i := Nat.mul_le_mul_right _ (by omega)
  have h4 := (pow_le i hi).1
  rw [Nat.pow_succ] at h4
  exact IntWalk.i64_in _ (by omega)
theorem or_i64 (i n c : Nat) (hi : i ≤ 7) (hn : n < 128 ^ i) (hc : c < 128) : bits .or .i64 (n : Int) ((c * 128 ^ i : Nat) : Int) = ((n + c * 128 ^ i : Nat) : Int) := by
  have h3 : c * 128 ^ i ≤ 127 * 128 ^ i := Nat.mul_le_mul_right _ (by omega)
  have h4 := (pow_le i hi).1
  rw [Nat.pow_succ] at h4
  have h63 : (2 : Nat) ^ 63 = 9223372036854775808 := by decide
  rw [(bits_nat .i64 63 (by decide) (fun n a b => IntWalk.i64_in _ (by have : (2 : Int) ^ 63 = 9223372036854775808 := by decide
                                                                       omega)) n (c * 128 ^ i) (by omega) (by omega)).2]
  congr 1
  have h5 : 128 ^ i = 2 ^ (7 * i) := by rw [Nat.pow_mul]
  rw [h5] at hn ⊢
  rw [Nat.mul_comm c, Nat.or_comm, ← Nat.two_pow_add_eq_or_of_lt hn c]
  omega

/-- How the loop of GetNum ends. -/
def GN (x : Nat × Nat × Nat) (o : Out) (s : List VV) : Prop :=
  (x = (0, 0, 11) ∧ (o = .exit 0 ∨ o = .goto 1)) ∨ (x = (0, 0, 10) ∧ o = .goto 0) ∨
  (∃ m j, x = (m, j, 0) ∧ o = .ret ∧ s.getD 4 .undef = vi .i64 m ∧ s.getD 5 .undef = vi .i64 j ∧ s.getD 6 .undef = vi .u16 0)

theorem f47_loop (b : List UInt8) (v : VV) (hv : SlV 1 (eB b) v) (at_ : Nat) (h : Heap) (Q : Pst) (hat : at_ ≤ b.length) (hb : b.length ≤ 1000000000) : ∀ (k i n : Nat) (s : List VV), i + k = 8 → n < 128 ^ i → s.length = 60 →
    s.getD 0 .undef = v → s.getD 1 .undef = vi .i64 at_ → s.getD 7 .undef = vi .i64 n → s.getD 8 .undef = vi .i64 i → at_ + i ≤ b.length →
    (∀ o s', s'.length = 60 → GN (getN k (b.drop (at_ + i)) at_ i n) o s' → Q o ⟨s', h⟩) →
    X F (.loop f47_0) ⟨s, h⟩ Q := by
  intro k
  induction k with
  | zero =>
    intro i n s hi hn hs h0 h1 h7 h8 hai hQ
    have hlt : ¬ (i : Int) < 8 := by omega
    rw [X_loop, X_eq f47_0.eq_1]
    simp only [X_skip, X_seq, X_reg, X_block, X_scope, X_exit, X_goto, X_ret, X_label, XO_mv, XO_g, XG_tt, XG_tf, XG_ft, XG_ff, XO_bin, XO_cvI, XO_pick, XO_ext, XO_len, XO_mnmx, XD_mv, XD_g, XGD_tt, XGD_tf, XGD_ft, XGD_ff, XD_bin, XD_cvI, XD_pick, XD_ext, XD_len, XD_mnmx, XD_mksl, XD_iadL, XD_ld, XD_fad, XD_nil, XWD_some, XVD_same, XVD_k, XO_alloc, XO_st, XD_st, XO_box, XO_mkslo, XD_mkslo, XO_mrk, XD_mrk, mr_0, XO_build, st_0_2, st_0_3, st_l_2, st_l_3, ld_l_2, ld_l_3, ld_r_2, ld_r_3, ld_l_at, Nat.zero_add, bd_nil, bd_2, bd_3, XD_build, XO_fld, XD_fld, XO_cvBS, XD_cvBS, bs_sl, bs_nil, XO_cvSB, XD_cvSB, sb_txt, XO_slL, XD_slL, Option.map_some, Option.map_none, XO_mksl, XO_iadL, XO_ld, XO_fad, ld_rptr, fd_r, fd_p, fd_e, List.drop_zero, List.drop_succ_cons, mkParts_nil, mkParts_cons, mkO_1, mkO_2, mk_agg2, mk_agg3, src_sl, mmO_min, mmO_max, XW_some, XV_some, ln_nil, ln_sl, ln_own, ln_str, cvO_eq, pkO_t, pkO_f, exO_eq, evalO_t, evalO_c, putD_some, putD_none, slot_len, slot_eq, slot_ne, ne_eq, Nat.reduceLT, Nat.reduceEqDiff, not_false_eq_true, not_true_eq_false, reduceCtorEq, XO_nil, RQ_0, RQ_0n, RQ_1, RQ_2, RQ_3, K_norm, K_exit, K_goto, K_ret, K_pan, B_norm, B_exit, B_goto, B_ret, B_pan, S_norm, S_exit, S_ret, S_pan, X_cnd, XB_true, XB_false, bin_add, bin_sub, bin_mul, bin_and, bin_or, bin_shr, bin_shl, bin_quo, bin_rem, Int.reduceLT, Int.reduceEq, bin_eql, bin_neq, bin_lss, bin_leq, bin_gtr, bin_geq, bin_seql, bin_sneq, decide_true, decide_false, eq_self, if_true, if_false, List.getElem?_cons_zero, List.getElem?_cons_succ, hs, h8, hlt]
    refine hQ _ _ (by simp only [slot_len, hs]) (.inl ⟨?_, .inl rfl⟩)
    simp only [getN]
  | succ k ih =>
    intro i n s hi hn hs h0 h1 h7 h8 hai hQ
    have hlt : (i : Int) < 8 := by omega
    rw [X_loop, X_eq f47_0.eq_1]
    have ea : IntKind.i64.wrap ((at_ : Int) + (i : Int)) = ((at_ + i : Nat) : Int) := by rw [IntWalk.i64_in _ (by omega)]; omega
    simp only [X_skip, X_seq, X_reg, X_block, X_scope, X_exit, X_goto, X_ret, X_label, XO_mv, XO_g, XG_tt, XG_tf, XG_ft, XG_ff, XO_bin, XO_cvI, XO_pick, XO_ext, XO_len, XO_mnmx, XD_mv, XD_g, XGD_tt, XGD_tf, XGD_ft, XGD_ff, XD_bin, XD_cvI, XD_pick, XD_ext, XD_len, XD_mnmx, XD_mksl, XD_iadL, XD_ld, XD_fad, XD_nil, XWD_some, XVD_same, XVD_k, XO_alloc, XO_st, XD_st, XO_box, XO_mkslo, XD_mkslo, XO_mrk, XD_mrk, mr_0, XO_build, st_0_2, st_0_3, st_l_2, st_l_3, ld_l_2, ld_l_3, ld_r_2, ld_r_3, ld_l_at, Nat.zero_add, bd_nil, bd_2, bd_3, XD_build, XO_fld, XD_fld, XO_cvBS, XD_cvBS, bs_sl, bs_nil, XO_cvSB, XD_cvSB, sb_txt, XO_slL, XD_slL, Option.map_some, Option.map_none, XO_mksl, XO_iadL, XO_ld, XO_fad, ld_rptr, fd_r, fd_p, fd_e, List.drop_zero, List.drop_succ_cons, mkParts_nil, mkParts_cons, mkO_1, mkO_2, mk_agg2, mk_agg3, src_sl, mmO_min, mmO_max, XW_some, XV_some, ln_nil, ln_sl, ln_own, ln_str, cvO_eq, pkO_t, pkO_f, exO_eq, evalO_t, evalO_c, putD_some, putD_none, slot_len, slot_eq, slot_ne, ne_eq, Nat.reduceLT, Nat.reduceEqDiff, not_false_eq_true, not_true_eq_false, reduceCtorEq, XO_nil, RQ_0, RQ_0n, RQ_1, RQ_2, RQ_3, K_norm, K_exit, K_goto, K_ret, K_pan, B_norm, B_exit, B_goto, B_ret, B_pan, S_norm, S_exit, S_ret, S_pan, X_cnd, XB_true, XB_false, bin_add, bin_sub, bin_mul, bin_and, bin_or, bin_shr, bin_shl, bin_quo, bin_rem, Int.reduceLT, Int.reduceEq, bin_eql, bin_neq, bin_lss, bin_leq, bin_gtr, bin_geq, bin_seql, bin_sneq, decide_true, decide_false, eq_self, if_true, if_false, List.getElem?_cons_zero, List.getElem?_cons_succ, hs, h0, h1, h7, h8, hlt, ea, eB_len, hv.ln]
    refine XB_dec (fun hc => ?_) (fun hc => ?_)
    · simp only [X_skip, X_seq, X_reg, X_block, X_scope, X_exit, X_goto, X_ret, X_label, XO_mv, XO_g, XG_tt, XG_tf, XG_ft, XG_ff, XO_bin, XO_cvI, XO_pick, XO_ext, XO_len, XO_mnmx, XD_mv, XD_g, XGD_tt, XGD_tf, XGD_ft, XGD_ff, XD_bin, XD_cvI, XD_pick, XD_ext, XD_len, XD_mnmx, XD_mksl, XD_iadL, XD_ld, XD_fad, XD_nil, XWD_some, XVD_same, XVD_k, XO_alloc, XO_st, XD_st, XO_box, XO_mkslo, XD_mkslo, XO_mrk, XD_mrk, mr_0, XO_build, st_0_2, st_0_3, st_l_2, st_l_3, ld_l_2, ld_l_3, ld_r_2, ld_r_3, ld_l_at, Nat.zero_add, bd_nil, bd_2, bd_3, XD_build, XO_fld, XD_fld, XO_cvBS, XD_cvBS, bs_sl, bs_nil, XO_cvSB, XD_cvSB, sb_txt, XO_slL, XD_slL, Option.map_some, Option.map_none, XO_mksl, XO_iadL, XO_ld, XO_fad, ld_rptr, fd_r, fd_p, fd_e, List.drop_zero, List.drop_succ_cons, mkParts_nil, mkParts_cons, mkO_1, mkO_2, mk_agg2, mk_agg3, src_sl, mmO_min, mmO_max, XW_some, XV_some, ln_nil, ln_sl, ln_own, ln_str, cvO_eq, pkO_t, pkO_f, exO_eq, evalO_t, evalO_c, putD_some, putD_none, slot_len, slot_eq, slot_ne, ne_eq, Nat.reduceLT, Nat.reduceEqDiff, not_false_eq_true, not_true_eq_false, reduceCtorEq, XO_nil, RQ_0, RQ_0n, RQ_1, RQ_2, RQ_3, K_norm, K_exit, K_goto, K_ret, K_pan, B_norm, B_exit, B_goto, B_ret, B_pan, S_norm, S_exit, S_ret, S_pan, X_cnd, XB_true, XB_false, bin_add, bin_sub, bin_mul, bin_and, bin_or, bin_shr, bin_shl, bin_quo, bin_rem, Int.reduceLT, Int.reduceEq, bin_eql, bin_neq, bin_lss, bin_leq, bin_gtr, bin_geq, bin_seql, bin_sneq, decide_true, decide_false, eq_self, if_true, if_false, List.getElem?_cons_zero, List.getElem?_cons_succ]
      refine hQ _ _ (by simp only [slot_len, hs]) (.inr (.inl ⟨?_, rfl⟩))
      rw [List.drop_eq_nil_of_le (by omega)]
      simp only [getN]
    · have hlt2 : at_ + i < b.length := by omega
      obtain ⟨c, hget⟩ : ∃ c, b[at_ + i]? = some c := ⟨_, List.getElem?_eq_getElem hlt2⟩
      have hd : b.drop (at_ + i) = c :: b.drop (at_ + i + 1) := by
        rw [List.drop_eq_getElem_cons hlt2]
        rw [List.getElem?_eq_getElem hlt2] at hget
        cases hget; rfl
      have hc256 : c.toNat < 256 := c.toNat_lt
      simp only [X_skip, X_seq, X_reg, X_block, X_scope, X_exit, X_goto, X_ret, X_label, XO_mv, XO_g, XG_tt, XG_tf, XG_ft, XG_ff, XO_bin, XO_cvI, XO_pick, XO_ext, XO_len, XO_mnmx, XD_mv, XD_g, XGD_tt, XGD_tf, XGD_ft, XGD_ff, XD_bin, XD_cvI, XD_pick, XD_ext, XD_len, XD_mnmx, XD_mksl, XD_iadL, XD_ld, XD_fad, XD_nil, XWD_some, XVD_same, XVD_k, XO_alloc, XO_st, XD_st, XO_box, XO_mkslo, XD_mkslo, XO_mrk, XD_mrk, mr_0, XO_build, st_0_2, st_0_3, st_l_2, st_l_3, ld_l_2, ld_l_3, ld_r_2, ld_r_3, ld_l_at, Nat.zero_add, bd_nil, bd_2, bd_3, XD_build, XO_fld, XD_fld, XO_cvBS, XD_cvBS, bs_sl, bs_nil, XO_cvSB, XD_cvSB, sb_txt, XO_slL, XD_slL, Option.map_some, Option.map_none, XO_mksl, XO_iadL, XO_ld, XO_fad, ld_rptr, fd_r, fd_p, fd_e, List.drop_zero, List.drop_succ_cons, mkParts_nil, mkParts_cons, mkO_1, mkO_2, mk_agg2, mk_agg3, src_sl, mmO_min, mmO_max, XW_some, XV_some, ln_nil, ln_sl, ln_own, ln_str, cvO_eq, pkO_t, pkO_f, exO_eq, evalO_t, evalO_c, putD_some, putD_none, slot_len, slot_eq, slot_ne, ne_eq, Nat.reduceLT, Nat.reduceEqDiff, not_false_eq_true, not_true_eq_false, reduceCtorEq, XO_nil, RQ_0, RQ_0n, RQ_1, RQ_2, RQ_3, K_norm, K_exit, K_goto, K_ret, K_pan, B_norm, B_exit, B_goto, B_ret, B_pan, S_norm, S_exit, S_ret, S_pan, X_cnd, XB_true, XB_false, bin_add, bin_sub, bin_mul, bin_and, bin_or, bin_shr, bin_shl, bin_quo, bin_rem, Int.reduceLT, Int.reduceEq, bin_eql, bin_neq, bin_lss, bin_leq, bin_gtr, bin_geq, bin_seql, bin_sneq, decide_true, decide_false, eq_self, if_true, if_false, List.getElem?_cons_zero, List.getElem?_cons_succ, hs, h0, h1, h7, h8, ea]
      rw [hv.ia (e := byteCell c) (by omega) (by rw [show ((at_ + i : Nat) : Int).toNat = at_ + i from rfl]; exact eB_get hget)]
      simp only [X_skip, X_seq, X_reg, X_block, X_scope, X_exit, X_goto, X_ret, X_label, XO_mv, XO_g, XG_tt, XG_tf, XG_ft, XG_ff, XO_bin, XO_cvI, XO_pick, XO_ext, XO_len, XO_mnmx, XD_mv, XD_g, XGD_tt, XGD_tf, XGD_ft, XGD_ff, XD_bin, XD_cvI, XD_pick, XD_ext, XD_len, XD_mnmx, XD_mksl, XD_iadL, XD_ld, XD_fad, XD_nil, XWD_some, XVD_same, XVD_k, XO_alloc, XO_st, XD_st, XO_box, XO_mkslo, XD_mkslo, XO_mrk, XD_mrk, mr_0, XO_build, st_0_2, st_0_3, st_l_2, st_l_3, ld_l_2, ld_l_3, ld_r_2, ld_r_3, ld_l_at, Nat.zero_add, bd_nil, bd_2, bd_3, XD_build, XO_fld, XD_fld, XO_cvBS, XD_cvBS, bs_sl, bs_nil, XO_cvSB, XD_cvSB, sb_txt, XO_slL, XD_slL, Option.map_some, Option.map_none, XO_mksl, XO_iadL, XO_ld, XO_fad, ld_rptr, fd_r, fd_p, fd_e, List.drop_zero, List.drop_succ_cons, mkParts_nil, mkParts_cons, mkO_1, mkO_2, mk_agg2, mk_agg3, src_sl, mmO_min, mmO_max, XW_some, XV_some, ln_nil, ln_sl, ln_own, ln_str, cvO_eq, pkO_t, pkO_f, exO_eq, evalO_t, evalO_c, putD_some, putD_none, slot_len, slot_eq, slot_ne, ne_eq, Nat.reduceLT, Nat.reduceEqDiff, not_false_eq_true, not_true_eq_false, reduceCtorEq, XO_nil, RQ_0, RQ_0n, RQ_1, RQ_2, RQ_3, K_norm, K_exit, K_goto, K_ret, K_pan, B_norm, B_exit, B_goto, B_ret, B_pan, S_norm, S_exit, S_ret, S_pan, X_cnd, XB_true, XB_false, bin_add, bin_sub, bin_mul, bin_and, bin_or, bin_shr, bin_shl, bin_quo, bin_rem, Int.reduceLT, Int.reduceEq, bin_eql, bin_neq, bin_lss, bin_leq, bin_gtr, bin_geq, bin_seql, bin_sneq, decide_true, decide_false, eq_self, if_true, if_false, List.getElem?_cons_zero, List.getElem?_cons_succ, hs, h0, h1, h7, h8, byteCell, u8_and127' c.toNat hc256, u8_and128 c.toNat hc256]
      have e1 : IntKind.i64.wrap ((c.toNat % 128 : Nat) : Int) = ((c.toNat % 128 : Nat) : Int) := IntWalk.i64_in _ (by omega)
      have e2 : IntKind.i64.wrap (7 * (i : Int)) = 7 * (i : Int) := IntWalk.i64_in _ (by omega)
      have e3 : ¬ (7 * (i : Int)) < 0 := by omega
      simp only [X_skip, X_seq, X_reg, X_block, X_scope, X_exit, X_goto, X_ret, X_label, XO_mv, XO_g, XG_tt, XG_tf, XG_ft, XG_ff, XO_bin, XO_cvI, XO_pick, XO_ext, XO_len, XO_mnmx, XD_mv, XD_g, XGD_tt, XGD_tf, XGD_ft, XGD_ff, XD_bin, XD_cvI, XD_pick, XD_ext, XD_len, XD_mnmx, XD_mksl, XD_iadL, XD_ld, XD_fad, XD_nil, XWD_some, XVD_same, XVD_k, XO_alloc, XO_st, XD_st, XO_box, XO_mkslo, XD_mkslo, XO_mrk, XD_mrk, mr_0, XO_build, st_0_2, st_0_3, st_l_2, st_l_3, ld_l_2, ld_l_3, ld_r_2, ld_r_3, ld_l_at, Nat.zero_add, bd_nil, bd_2, bd_3, XD_build, XO_fld, XD_fld, XO_cvBS, XD_cvBS, bs_sl, bs_nil, XO_cvSB, XD_cvSB, sb_txt, XO_slL, XD_slL, Option.map_some, Option.map_none, XO_mksl, XO_iadL, XO_ld, XO_fad, ld_rptr, fd_r, fd_p, fd_e, List.drop_zero, List.drop_succ_cons, mkParts_nil, mkParts_cons, mkO_1, mkO_2, mk_agg2, mk_agg3, src_sl, mmO_min, mmO_max, XW_some, XV_some, ln_nil, ln_sl, ln_own, ln_str, cvO_eq, pkO_t, pkO_f, exO_eq, evalO_t, evalO_c, putD_some, putD_none, slot_len, slot_eq, slot_ne, ne_eq, Nat.reduceLT, Nat.reduceEqDiff, not_false_eq_true, not_true_eq_false, reduceCtorEq, XO_nil, RQ_0, RQ_0n, RQ_1, RQ_2, RQ_3, K_norm, K_exit, K_goto, K_ret, K_pan, B_norm, B_exit, B_goto, B_ret, B_pan, S_norm, S_exit, S_ret, S_pan, X_cnd, XB_true, XB_false, bin_add, bin_sub, bin_mul, bin_and, bin_or, bin_shr, bin_shl, bin_quo, bin_rem, Int.reduceLT, Int.reduceEq, bin_eql, bin_neq, bin_lss, bin_leq, bin_gtr, bin_geq, bin_seql, bin_sneq, decide_true, decide_false, eq_self, if_true, if_false, List.getElem?_cons_zero, List.getElem?_cons_succ, hs, h0, h1, h7, h8, e1, e2, e3, shl_i64 i _ (by omega) (Nat.mod_lt _ (by decide : 128 > 0)), or_i64 i n _ (by omega) hn (Nat.mod_lt _ (by decide : 128 > 0))]
      have hm : n + c.toNat % 128 * 128 ^ i < 128 ^ (i + 1) := by
        have : c.toNat % 128 * 128 ^ i ≤ 127 * 128 ^ i := Nat.mul_le_mul_right _ (by omega)
        rw [Nat.pow_succ]; omega
      have hp := (pow_le i (by omega)).1
      rw [hd] at hQ
      simp only [getN] at hQ
      generalize n + c.toNat % 128 * 128 ^ i = m at hm hQ ⊢
      by_cases hcm : c.toNat < 128
      · simp only [hcm, if_true] at hQ
        have e4 : bits .and .u8 (c.toNat : Int) 128 = 0 := by rw [u8_and128 _ hc256, if_pos hcm]
        have e5 : IntKind.i64.wrap (((at_ + i : Nat) : Int) + 1) = ((at_ + i + 1 : Nat) : Int) := by rw [IntWalk.i64_in _ (by omega)]; omega
        have ret : ∀ s', s'.length = 60 → ¬ ((c.toNat = 0 ∧ 0 < i) ∨ 9007199254740992 < m) → s'.getD 4 .undef = vi .i64 m → s'.getD 5 .undef = vi .i64 ((at_ + i + 1 : Nat) : Int) → s'.getD 6 .undef = vi .u16 0 → Q .ret ⟨s', h⟩ := by
          intro s' a1 a2 a3 a4 a5
          refine hQ _ _ a1 ?_
          rw [if_neg a2]
          exact .inr (.inr ⟨_, _, rfl, rfl, a3, a4, a5⟩)
        have bad : ∀ s', s'.length = 60 → ((c.toNat = 0 ∧ 0 < i) ∨ 9007199254740992 < m) → Q (.goto 1) ⟨s', h⟩ := by
          intro s' a1 a2
          refine hQ _ _ a1 ?_
          rw [if_pos a2]
          exact .inl ⟨rfl, .inr rfl⟩
        clear hQ ih
        by_cases hM : 9007199254740992 < (m : Int)
        · by_cases hz : (c.toNat : Int) = 0
          · by_cases hi0 : (0 : Int) < i
            · simp only [X_skip, X_seq, X_reg, X_block, X_scope, X_exit, X_goto, X_ret, X_label, XO_mv, XO_g, XG_tt, XG_tf, XG_ft, XG_ff, XO_bin, XO_cvI, XO_pick, XO_ext, XO_len, XO_mnmx, XD_mv, XD_g, XGD_tt, XGD_tf, XGD_ft, XGD_ff, XD_bin, XD_cvI, XD_pick, XD_ext, XD_len, XD_mnmx, XD_mksl, XD_iadL, XD_ld, XD_fad, XD_nil, XWD_some, XVD_same, XVD_k, XO_alloc, XO_st, XD_st, XO_box, XO_mkslo, XD_mkslo, XO_mrk, XD_mrk, mr_0, XO_build, st_0_2, st_0_3, st_l_2, st_l_3, ld_l_2, ld_l_3, ld_r_2, ld_r_3, ld_l_at, Nat.zero_add, bd_nil, bd_2, bd_3, XD_build, XO_fld, XD_fld, XO_cvBS, XD_cvBS, bs_sl, bs_nil, XO_cvSB, XD_cvSB, sb_txt, XO_slL, XD_slL, Option.map_some, Option.map_none, XO_mksl, XO_iadL, XO_ld, XO_fad, ld_rptr, fd_r, fd_p, fd_e, List.drop_zero, List.drop_succ_cons, mkParts_nil, mkParts_cons, mkO_1, mkO_2, mk_agg2, mk_agg3, src_sl, mmO_min, mmO_max, XW_some, XV_some, ln_nil, ln_sl, ln_own, ln_str, cvO_eq, pkO_t, pkO_f, exO_eq, evalO_t, evalO_c, putD_some, putD_none, slot_len, slot_eq, slot_ne, ne_eq, Nat.reduceLT, Nat.reduceEqDiff, not_false_eq_true, not_true_eq_false, reduceCtorEq, XO_nil, RQ_0, RQ_0n, RQ_1, RQ_2, RQ_3, K_norm, K_exit, K_goto, K_ret, K_pan, B_norm, B_exit, B_goto, B_ret, B_pan, S_norm, S_exit, S_ret, S_pan, X_cnd, XB_true, XB_false, bin_add, bin_sub, bin_mul, bin_and, bin_or, bin_shr, bin_shl, bin_quo, bin_rem, Int.reduceLT, Int.reduceEq, bin_eql, bin_neq, bin_lss, bin_leq, bin_gtr, bin_geq, bin_seql, bin_sneq, decide_true, decide_false, eq_self, if_true, if_false, List.getElem?_cons_zero, List.getElem?_cons_succ, hs, h1, h8, e4, e5, ea, eq_true hz, hi0, hM]
              exact bad _ (by simp only [slot_len, hs]) (by omega)
            · simp only [X_skip, X_seq, X_reg, X_block, X_scope, X_exit, X_goto, X_ret, X_label, XO_mv, XO_g, XG_tt, XG_tf, XG_ft, XG_ff, XO_bin, XO_cvI, XO_pick, XO_ext, XO_len, XO_mnmx, XD_mv, XD_g, XGD_tt, XGD_tf, XGD_ft, XGD_ff, XD_bin, XD_cvI, XD_pick, XD_ext, XD_len, XD_mnmx, XD_mksl, XD_iadL, XD_ld, XD_fad, XD_nil, XWD_some, XVD_same, XVD_k, XO_alloc, XO_st, XD_st, XO_box, XO_mkslo, XD_mkslo, XO_mrk, XD_mrk, mr_0, XO_build, st_0_2, st_0_3, st_l_2, st_l_3, ld_l_2, ld_l_3, ld_r_2, ld_r_3, ld_l_at, Nat.zero_add, bd_nil, bd_2, bd_3, XD_build, XO_fld, XD_fld, XO_cvBS, XD_cvBS, bs_sl, bs_nil, XO_cvSB, XD_cvSB, sb_txt, XO_slL, XD_slL, Option.map_some, Option.map_none, XO_mksl, XO_iadL, XO_ld, XO_fad, ld_rptr, fd_r, fd_p, fd_e, List.drop_zero, List.drop_succ_cons, mkParts_nil, mkParts_cons, mkO_1, mkO_2, mk_agg2, mk_agg3, src_sl, mmO_min, mmO_max, XW_some, XV_some, ln_nil, ln_sl, ln_own, ln_str, cvO_eq, pkO_t, pkO_f, exO_eq, evalO_t, evalO_c, putD_some, putD_none, slot_len, slot_eq, slot_ne, ne_eq, Nat.reduceLT, Nat.reduceEqDiff, not_false_eq_true, not_true_eq_false, reduceCtorEq, XO_nil, RQ_0, RQ_0n, RQ_1, RQ_2, RQ_3, K_norm, K_exit, K_goto, K_ret, K_pan, B_norm, B_exit, B_goto, B_ret, B_pan, S_norm, S_exit, S_ret, S_pan, X_cnd, XB_true, XB_false, bin_add, bin_sub, bin_mul, bin_and, bin_or, bin_shr, bin_shl, bin_quo, bin_rem, Int.reduceLT, Int.reduceEq, bin_eql, bin_neq, bin_lss, bin_leq, bin_gtr, bin_geq, bin_seql, bin_sneq, decide_true, decide_false, eq_self, if_true, if_false, List.getElem?_cons_zero, List.getElem?_cons_succ, hs, h1, h8, e4, e5, ea, eq_true hz, hi0, hM]
              exact bad _ (by simp only [slot_len, hs]) (by omega)
          · simp only [X_skip, X_seq, X_reg, X_block, X_scope, X_exit, X_goto, X_ret, X_label, XO_mv, XO_g, XG_tt, XG_tf, XG_ft, XG_ff, XO_bin, XO_cvI, XO_pick, XO_ext, XO_len, XO_mnmx, XD_mv, XD_g, XGD_tt, XGD_tf, XGD_ft, XGD_ff, XD_bin, XD_cvI, XD_pick, XD_ext, XD_len, XD_mnmx, XD_mksl, XD_iadL, XD_ld, XD_fad, XD_nil, XWD_some, XVD_same, XVD_k, XO_alloc, XO_st, XD_st, XO_box, XO_mkslo, XD_mkslo, XO_mrk, XD_mrk, mr_0, XO_build, st_0_2, st_0_3, st_l_2, st_l_3, ld_l_2, ld_l_3, ld_r_2, ld_r_3, ld_l_at, Nat.zero_add, bd_nil, bd_2, bd_3, XD_build, XO_fld, XD_fld, XO_cvBS, XD_cvBS, bs_sl, bs_nil, XO_cvSB, XD_cvSB, sb_txt, XO_slL, XD_slL, Option.map_some, Option.map_none, XO_mksl, XO_iadL, XO_ld, XO_fad, ld_rptr, fd_r, fd_p, fd_e, List.drop_zero, List.drop_succ_cons, mkParts_nil, mkParts_cons, mkO_1, mkO_2, mk_agg2, mk_agg3, src_sl, mmO_min, mmO_max, XW_some, XV_some, ln_nil, ln_sl, ln_own, ln_str, cvO_eq, pkO_t, pkO_f, exO_eq, evalO_t, evalO_c, putD_some, putD_none, slot_len, slot_eq, slot_ne, ne_eq, Nat.reduceLT, Nat.reduceEqDiff, not_false_eq_true, not_true_eq_false, reduceCtorEq, XO_nil, RQ_0, RQ_0n, RQ_1, RQ_2, RQ_3, K_norm, K_exit, K_goto, K_ret, K_pan, B_norm, B_exit, B_goto, B_ret, B_pan, S_norm, S_exit, S_ret, S_pan, X_cnd, XB_true, XB_false, bin_add, bin_sub, bin_mul, bin_and, bin_or, bin_shr, bin_shl, bin_quo, bin_rem, Int.reduceLT, Int.reduceEq, bin_eql, bin_neq, bin_lss, bin_leq, bin_gtr, bin_geq, bin_seql, bin_sneq, decide_true, decide_false, eq_self, if_true, if_false, List.getElem?_cons_zero, List.getElem?_cons_succ, hs, h1, h8, e4, e5, ea, hz, hM]
            exact bad _ (by simp only [slot_len, hs]) (by omega)
        · by_cases hz : (c.toNat : Int) = 0
          · by_cases hi0 : (0 : Int) < i
            · simp only [X_skip, X_seq, X_reg, X_block, X_scope, X_exit, X_goto, X_ret, X_label, XO_mv, XO_g, XG_tt, XG_tf, XG_ft, XG_ff, XO_bin, XO_cvI, XO_pick, XO_ext, XO_len, XO_mnmx, XD_mv, XD_g, XGD_tt, XGD_tf, XGD_ft, XGD_ff, XD_bin, XD_cvI, XD_pick, XD_ext, XD_len, XD_mnmx, XD_mksl, XD_iadL, XD_ld, XD_fad, XD_nil, XWD_some, XVD_same, XVD_k, XO_alloc, XO_st, XD_st, XO_box, XO_mkslo, XD_mkslo, XO_mrk, XD_mrk, mr_0, XO_build, st_0_2, st_0_3, st_l_2, st_l_3, ld_l_2, ld_l_3, ld_r_2, ld_r_3, ld_l_at, Nat.zero_add, bd_nil, bd_2, bd_3, XD_build, XO_fld, XD_fld, XO_cvBS, XD_cvBS, bs_sl, bs_nil, XO_cvSB, XD_cvSB, sb_txt, XO_slL, XD_slL, Option.map_some, Option.map_none, XO_mksl, XO_iadL, XO_ld, XO_fad, ld_rptr, fd_r, fd_p, fd_e, List.drop_zero, List.drop_succ_cons, mkParts_nil, mkParts_cons, mkO_1, mkO_2, mk_agg2, mk_agg3, src_sl, mmO_min, mmO_max, XW_some, XV_some, ln_nil, ln_sl, ln_own, ln_str, cvO_eq, pkO_t, pkO_f, exO_eq, evalO_t, evalO_c, putD_some, putD_none, slot_len, slot_eq, slot_ne, ne_eq, Nat.reduceLT, Nat.reduceEqDiff, not_false_eq_true, not_true_eq_false, reduceCtorEq, XO_nil, RQ_0, RQ_0n, RQ_1, RQ_2, RQ_3, K_norm, K_exit, K_goto, K_ret, K_pan, B_norm, B_exit, B_goto, B_ret, B_pan, S_norm, S_exit, S_ret, S_pan, X_cnd, XB_true, XB_false, bin_add, bin_sub, bin_mul, bin_and, bin_or, bin_shr, bin_shl, bin_quo, bin_rem, Int.reduceLT, Int.reduceEq, bin_eql, bin_neq, bin_lss, bin_leq, bin_gtr, bin_geq, bin_seql, bin_sneq, decide_true, decide_false, eq_self, if_true, if_false, List.getElem?_cons_zero, List.getElem?_cons_succ, hs, h1, h8, e4, e5, ea, eq_true hz, hi0, hM]
              exact bad _ (by simp only [slot_len, hs]) (by omega)
            · simp only [X_skip, X_seq, X_reg, X_block, X_scope, X_exit, X_goto, X_ret, X_label, XO_mv, XO_g, XG_tt, XG_tf, XG_ft, XG_ff, XO_bin, XO_cvI, XO_pick, XO_ext, XO_len, XO_mnmx, XD_mv, XD_g, XGD_tt, XGD_tf, XGD_ft, XGD_ff, XD_bin, XD_cvI, XD_pick, XD_ext, XD_len, XD_mnmx, XD_mksl, XD_iadL, XD_ld, XD_fad, XD_nil, XWD_some, XVD_same, XVD_k, XO_alloc, XO_st, XD_st, XO_box, XO_mkslo, XD_mkslo, XO_mrk, XD_mrk, mr_0, XO_build, st_0_2, st_0_3, st_l_2, st_l_3, ld_l_2, ld_l_3, ld_r_2, ld_r_3, ld_l_at, Nat.zero_add, bd_nil, bd_2, bd_3, XD_build, XO_fld, XD_fld, XO_cvBS, XD_cvBS, bs_sl, bs_nil, XO_cvSB, XD_cvSB, sb_txt, XO_slL, XD_slL, Option.map_some, Option.map_none, XO_mksl, XO_iadL, XO_ld, XO_fad, ld_rptr, fd_r, fd_p, fd_e, List.drop_zero, List.drop_succ_cons, mkParts_nil, mkParts_cons, mkO_1, mkO_2, mk_agg2, mk_agg3, src_sl, mmO_min, mmO_max, XW_some, XV_some, ln_nil, ln_sl, ln_own, ln_str, cvO_eq, pkO_t, pkO_f, exO_eq, evalO_t, evalO_c, putD_some, putD_none, slot_len, slot_eq, slot_ne, ne_eq, Nat.reduceLT, Nat.reduceEqDiff, not_false_eq_true, not_true_eq_false, reduceCtorEq, XO_nil, RQ_0, RQ_0n, RQ_1, RQ_2, RQ_3, K_norm, K_exit, K_goto, K_ret, K_pan, B_norm, B_exit, B_goto, B_ret, B_pan, S_norm, S_exit, S_ret, S_pan, X_cnd, XB_true, XB_false, bin_add, bin_sub, bin_mul, bin_and, bin_or, bin_shr, bin_shl, bin_quo, bin_rem, Int.reduceLT, Int.reduceEq, bin_eql, bin_neq, bin_lss, bin_leq, bin_gtr, bin_geq, bin_seql, bin_sneq, decide_true, decide_false, eq_self, if_true, if_false, List.getElem?_cons_zero, List.getElem?_cons_succ, hs, h1, h8, e4, e5, ea, eq_true hz, hi0, hM]
              exact ret _ (by simp only [slot_len, hs]) (by omega) (by simp only [X_skip, X_seq, X_reg, X_block, X_scope, X_exit, X_goto, X_ret, X_label, XO_mv, XO_g, XG_tt, XG_tf, XG_ft, XG_ff, XO_bin, XO_cvI, XO_pick, XO_ext, XO_len, XO_mnmx, XD_mv, XD_g, XGD_tt, XGD_tf, XGD_ft, XGD_ff, XD_bin, XD_cvI, XD_pick, XD_ext, XD_len, XD_mnmx, XD_mksl, XD_iadL, XD_ld, XD_fad, XD_nil, XWD_some, XVD_same, XVD_k, XO_alloc, XO_st, XD_st, XO_box, XO_mkslo, XD_mkslo, XO_mrk, XD_mrk, mr_0, XO_build, st_0_2, st_0_3, st_l_2, st_l_3, ld_l_2, ld_l_3, ld_r_2, ld_r_3, ld_l_at, Nat.zero_add, bd_nil, bd_2, bd_3, XD_build, XO_fld, XD_fld, XO_cvBS, XD_cvBS, bs_sl, bs_nil, XO_cvSB, XD_cvSB, sb_txt, XO_slL, XD_slL, Option.map_some, Option.map_none, XO_mksl, XO_iadL, XO_ld, XO_fad, ld_rptr, fd_r, fd_p, fd_e, List.drop_zero, List.drop_succ_cons, mkParts_nil, mkParts_cons, mkO_1, mkO_2, mk_agg2, mk_agg3, src_sl, mmO_min, mmO_max, XW_some, XV_some, ln_nil, ln_sl, ln_own, ln_str, cvO_eq, pkO_t, pkO_f, exO_eq, evalO_t, evalO_c, putD_some, putD_none, slot_len, slot_eq, slot_ne, ne_eq, Nat.reduceLT, Nat.reduceEqDiff, not_false_eq_true, not_true_eq_false, reduceCtorEq, XO_nil, RQ_0, RQ_0n, RQ_1, RQ_2, RQ_3, K_norm, K_exit, K_goto, K_ret, K_pan, B_norm, B_exit, B_goto, B_ret, B_pan, S_norm, S_exit, S_ret, S_pan, X_cnd, XB_true, XB_false, bin_add, bin_sub, bin_mul, bin_and, bin_or, bin_shr, bin_shl, bin_quo, bin_rem, Int.reduceLT, Int.reduceEq, bin_eql, bin_neq, bin_lss, bin_leq, bin_gtr, bin_geq, bin_seql, bin_sneq, decide_true, decide_false, eq_self, if_true, if_false, List.getElem?_cons_zero, List.getElem?_cons_succ, hs]) (by simp only [X_skip, X_seq, X_reg, X_block, X_scope, X_exit, X_goto, X_ret, X_label, XO_mv, XO_g, XG_tt, XG_tf, XG_ft, XG_ff, XO_bin, XO_cvI, XO_pick, XO_ext, XO_len, XO_mnmx, XD_mv, XD_g, XGD_tt, XGD_tf, XGD_ft, XGD_ff, XD_bin, XD_cvI, XD_pick, XD_ext, XD_len, XD_mnmx, XD_mksl, XD_iadL, XD_ld, XD_fad, XD_nil, XWD_some, XVD_same, XVD_k, XO_alloc, XO_st, XD_st, XO_box, XO_mkslo, XD_mkslo, XO_mrk, XD_mrk, mr_0, XO_build, st_0_2, st_0_3, st_l_2, st_l_3, ld_l_2, ld_l_3, ld_r_2, ld_r_3, ld_l_at, Nat.zero_add, bd_nil, bd_2, bd_3, XD_build, XO_fld, XD_fld, XO_cvBS, XD_cvBS, bs_sl, bs_nil, XO_cvSB, XD_cvSB, sb_txt, XO_slL, XD_slL, Option.map_some, Option.map_none, XO_mksl, XO_iadL, XO_ld, XO_fad, ld_rptr, fd_r, fd_p, fd_e, List.drop_zero, List.drop_succ_cons, mkParts_nil, mkParts_cons, mkO_1, mkO_2, mk_agg2, mk_agg3, src_sl, mmO_min, mmO_max, XW_some, XV_some, ln_nil, ln_sl, ln_own, ln_str, cvO_eq, pkO_t, pkO_f, exO_eq, evalO_t, evalO_c, putD_some, putD_none, slot_len, slot_eq, slot_ne, ne_eq, Nat.reduceLT, Nat.reduceEqDiff, not_false_eq_true, not_true_eq_false, reduceCtorEq, XO_nil, RQ_0, RQ_0n, RQ_1, RQ_2, RQ_3, K_norm, K_exit, K_goto, K_ret, K_pan, B_norm, B_exit, B_goto, B_ret, B_pan, S_norm, S_exit, S_ret, S_pan, X_cnd, XB_true, XB_false, bin_add, bin_sub, bin_mul, bin_and, bin_or, bin_shr, bin_shl, bin_quo, bin_rem, Int.reduceLT, Int.reduceEq, bin_eql, bin_neq, bin_lss, bin_leq, bin_gtr, bin_geq, bin_seql, bin_sneq, decide_true, decide_false, eq_self, if_true, if_false, List.getElem?_cons_zero, List.getElem?_cons_succ, hs]) (by simp only [X_skip, X_seq, X_reg, X_block, X_scope, X_exit, X_goto, X_ret, X_label, XO_mv, XO_g, XG_tt, XG_tf, XG_ft, XG_ff, XO_bin, XO_cvI, XO_pick, XO_ext, XO_len, XO_mnmx, XD_mv, XD_g, XGD_tt, XGD_tf, XGD_ft, XGD_ff, XD_bin, XD_cvI, XD_pick, XD_ext, XD_len, XD_mnmx, XD_mksl, XD_iadL, XD_ld, XD_fad, XD_nil, XWD_some, XVD_same, XVD_k, XO_alloc, XO_st, XD_st, XO_box, XO_mkslo, XD_mkslo, XO_mrk, XD_mrk, mr_0, XO_build, st_0_2, st_0_3, st_l_2, st_l_3, ld_l_2, ld_l_3, ld_r_2, ld_r_3, ld_l_at, Nat.zero_add, bd_nil, bd_2, bd_3, XD_build, XO_fld, XD_fld, XO_cvBS, XD_cvBS, bs_sl, bs_nil, XO_cvSB, XD_cvSB, sb_txt, XO_slL, XD_slL, Option.map_some, Option.map_none, XO_mksl, XO_iadL, XO_ld, XO_fad, ld_rptr, fd_r, fd_p, fd_e, List.drop_zero, List.drop_succ_cons, mkParts_nil, mkParts_cons, mkO_1, mkO_2, mk_agg2, mk_agg3, src_sl, mmO_min, mmO_max, XW_some, XV_some, ln_nil, ln_sl, ln_own, ln_str, cvO_eq, pkO_t, pkO_f, exO_eq, evalO_t, evalO_c, putD_some, putD_none, slot_len, slot_eq, slot_ne, ne_eq, Nat.reduceLT, Nat.reduceEqDiff, not_false_eq_true, not_true_eq_false, reduceCtorEq, XO_nil, RQ_0, RQ_0n, RQ_1, RQ_2, RQ_3, K_norm, K_exit, K_goto, K_ret, K_pan, B_norm, B_exit, B_goto, B_ret, B_pan, S_norm, S_exit, S_ret, S_pan, X_cnd, XB_true, XB_false, bin_add, bin_sub, bin_mul, bin_and, bin_or, bin_shr, bin_shl, bin_quo, bin_rem, Int.reduceLT, Int.reduceEq, bin_eql, bin_neq, bin_lss, bin_leq, bin_gtr, bin_geq, bin_seql, bin_sneq, decide_true, decide_false, eq_self, if_true, if_false, List.getElem?_cons_zero, List.getElem?_cons_succ, hs])
          · simp only [X_skip, X_seq, X_reg, X_block, X_scope, X_exit, X_goto, X_ret, X_label, XO_mv, XO_g, XG_tt, XG_tf, XG_ft, XG_ff, XO_bin, XO_cvI, XO_pick, XO_ext, XO_len, XO_mnmx, XD_mv, XD_g, XGD_tt, XGD_tf, XGD_ft, XGD_ff, XD_bin, XD_cvI, XD_pick, XD_ext, XD_len, XD_mnmx, XD_mksl, XD_iadL, XD_ld, XD_fad, XD_nil, XWD_some, XVD_same, XVD_k, XO_alloc, XO_st, XD_st, XO_box, XO_mkslo, XD_mkslo, XO_mrk, XD_mrk, mr_0, XO_build, st_0_2, st_0_3, st_l_2, st_l_3, ld_l_2, ld_l_3, ld_r_2, ld_r_3, ld_l_at, Nat.zero_add, bd_nil, bd_2, bd_3, XD_build, XO_fld, XD_fld, XO_cvBS, XD_cvBS, bs_sl, bs_nil, XO_cvSB, XD_cvSB, sb_txt, XO_slL, XD_slL, Option.map_some, Option.map_none, XO_mksl, XO_iadL, XO_ld, XO_fad, ld_rptr, fd_r, fd_p, fd_e, List.drop_zero, List.drop_succ_cons, mkParts_nil, mkParts_cons, mkO_1, mkO_2, mk_agg2, mk_agg3, src_sl, mmO_min, mmO_max, XW_some, XV_some, ln_nil, ln_sl, ln_own, ln_str, cvO_eq, pkO_t, pkO_f, exO_eq, evalO_t, evalO_c, putD_some, putD_none, slot_len, slot_eq, slot_ne, ne_eq, Nat.reduceLT, Nat.reduceEqDiff, not_false_eq_true, not_true_eq_false, reduceCtorEq, XO_nil, RQ_0, RQ_0n, RQ_1, RQ_2, RQ_3, K_norm, K_exit, K_goto, K_ret, K_pan, B_norm, B_exit, B_goto, B_ret, B_pan, S_norm, S_exit, S_ret, S_pan, X_cnd, XB_true, XB_false, bin_add, bin_sub, bin_mul, bin_and, bin_or, bin_shr, bin_shl, bin_quo, bin_rem, Int.reduceLT, Int.reduceEq, bin_eql, bin_neq, bin_lss, bin_leq, bin_gtr, bin_geq, bin_seql, bin_sneq, decide_true, decide_false, eq_self, if_true, if_false, List.getElem?_cons_zero, List.getElem?_cons_succ, hs, h1, h8, e4, e5, ea, hz, hM]
            exact ret _ (by simp only [slot_len, hs]) (by omega) (by simp only [X_skip, X_seq, X_reg, X_block, X_scope, X_exit, X_goto, X_ret, X_label, XO_mv, XO_g, XG_tt, XG_tf, XG_ft, XG_ff, XO_bin, XO_cvI, XO_pick, XO_ext, XO_len, XO_mnmx, XD_mv, XD_g, XGD_tt, XGD_tf, XGD_ft, XGD_ff, XD_bin, XD_cvI, XD_pick, XD_ext, XD_len, XD_mnmx, XD_mksl, XD_iadL, XD_ld, XD_fad, XD_nil, XWD_some, XVD_same, XVD_k, XO_alloc, XO_st, XD_st, XO_box, XO_mkslo, XD_mkslo, XO_mrk, XD_mrk, mr_0, XO_build, st_0_2, st_0_3, st_l_2, st_l_3, ld_l_2, ld_l_3, ld_r_2, ld_r_3, ld_l_at, Nat.zero_add, bd_nil, bd_2, bd_3, XD_build, XO_fld, XD_fld, XO_cvBS, XD_cvBS, bs_sl, bs_nil, XO_cvSB, XD_cvSB, sb_txt, XO_slL, XD_slL, Option.map_some, Option.map_none, XO_mksl, XO_iadL, XO_ld, XO_fad, ld_rptr, fd_r, fd_p, fd_e, List.drop_zero, List.drop_succ_cons, mkParts_nil, mkParts_cons, mkO_1, mkO_2, mk_agg2, mk_agg3, src_sl, mmO_min, mmO_max, XW_some, XV_some, ln_nil, ln_sl, ln_own, ln_str, cvO_eq, pkO_t, pkO_f, exO_eq, evalO_t, evalO_c, putD_some, putD_none, slot_len, slot_eq, slot_ne, ne_eq, Nat.reduceLT, Nat.reduceEqDiff, not_false_eq_true, not_true_eq_false, reduceCtorEq, XO_nil, RQ_0, RQ_0n, RQ_1, RQ_2, RQ_3, K_norm, K_exit, K_goto, K_ret, K_pan, B_norm, B_exit, B_goto, B_ret, B_pan, S_norm, S_exit, S_ret, S_pan, X_cnd, XB_true, XB_false, bin_add, bin_sub, bin_mul, bin_and, bin_or, bin_shr, bin_shl, bin_quo, bin_rem, Int.reduceLT, Int.reduceEq, bin_eql, bin_neq, bin_lss, bin_leq, bin_gtr, bin_geq, bin_seql, bin_sneq, decide_true, decide_false, eq_self, if_true, if_false, List.getElem?_cons_zero, List.getElem?_cons_succ, hs]) (by simp only [X_skip, X_seq, X_reg, X_block, X_scope, X_exit, X_goto, X_ret, X_label, XO_mv, XO_g, XG_tt, XG_tf, XG_ft, XG_ff, XO_bin, XO_cvI, XO_pick, XO_ext, XO_len, XO_mnmx, XD_mv, XD_g, XGD_tt, XGD_tf, XGD_ft, XGD_ff, XD_bin, XD_cvI, XD_pick, XD_ext, XD_len, XD_mnmx, XD_mksl, XD_iadL, XD_ld, XD_fad, XD_nil, XWD_some, XVD_same, XVD_k, XO_alloc, XO_st, XD_st, XO_box, XO_mkslo, XD_mkslo, XO_mrk, XD_mrk, mr_0, XO_build, st_0_2, st_0_3, st_l_2, st_l_3, ld_l_2, ld_l_3, ld_r_2, ld_r_3, ld_l_at, Nat.zero_add, bd_nil, bd_2, bd_3, XD_build, XO_fld, XD_fld, XO_cvBS, XD_cvBS, bs_sl, bs_nil, XO_cvSB, XD_cvSB, sb_txt, XO_slL, XD_slL, Option.map_some, Option.map_none, XO_mksl, XO_iadL, XO_ld, XO_fad, ld_rptr, fd_r, fd_p, fd_e, List.drop_zero, List.drop_succ_cons, mkParts_nil, mkParts_cons, mkO_1, mkO_2, mk_agg2, mk_agg3, src_sl, mmO_min, mmO_max, XW_some, XV_some, ln_nil, ln_sl, ln_own, ln_str, cvO_eq, pkO_t, pkO_f, exO_eq, evalO_t, evalO_c, putD_some, putD_none, slot_len, slot_eq, slot_ne, ne_eq, Nat.reduceLT, Nat.reduceEqDiff, not_false_eq_true, not_true_eq_false, reduceCtorEq, XO_nil, RQ_0, RQ_0n, RQ_1, RQ_2, RQ_3, K_norm, K_exit, K_goto, K_ret, K_pan, B_norm, B_exit, B_goto, B_ret, B_pan, S_norm, S_exit, S_ret, S_pan, X_cnd, XB_true, XB_false, bin_add, bin_sub, bin_mul, bin_and, bin_or, bin_shr, bin_shl, bin_quo, bin_rem, Int.reduceLT, Int.reduceEq, bin_eql, bin_neq, bin_lss, bin_leq, bin_gtr, bin_geq, bin_seql, bin_sneq, decide_true, decide_false, eq_self, if_true, if_false, List.getElem?_cons_zero, List.getElem?_cons_succ, hs]) (by simp only [X_skip, X_seq, X_reg, X_block, X_scope, X_exit, X_goto, X_ret, X_label, XO_mv, XO_g, XG_tt, XG_tf, XG_ft, XG_ff, XO_bin, XO_cvI, XO_pick, XO_ext, XO_len, XO_mnmx, XD_mv, XD_g, XGD_tt, XGD_tf, XGD_ft, XGD_ff, XD_bin, XD_cvI, XD_pick, XD_ext, XD_len, XD_mnmx, XD_mksl, XD_iadL, XD_ld, XD_fad, XD_nil, XWD_some, XVD_same, XVD_k, XO_alloc, XO_st, XD_st, XO_box, XO_mkslo, XD_mkslo, XO_mrk, XD_mrk, mr_0, XO_build, st_0_2, st_0_3, st_l_2, st_l_3, ld_l_2, ld_l_3, ld_r_2, ld_r_3, ld_l_at, Nat.zero_add, bd_nil, bd_2, bd_3, XD_build, XO_fld, XD_fld, XO_cvBS, XD_cvBS, bs_sl, bs_nil, XO_cvSB, XD_cvSB, sb_txt, XO_slL, XD_slL, Option.map_some, Option.map_none, XO_mksl, XO_iadL, XO_ld, XO_fad, ld_rptr, fd_r, fd_p, fd_e, List.drop_zero, List.drop_succ_cons, mkParts_nil, mkParts_cons, mkO_1, mkO_2, mk_agg2, mk_agg3, src_sl, mmO_min, mmO_max, XW_some, XV_some, ln_nil, ln_sl, ln_own, ln_str, cvO_eq, pkO_t, pkO_f, exO_eq, evalO_t, evalO_c, putD_some, putD_none, slot_len, slot_eq, slot_ne, ne_eq, Nat.reduceLT, Nat.reduceEqDiff, not_false_eq_true, not_true_eq_false, reduceCtorEq, XO_nil, RQ_0, RQ_0n, RQ_1, RQ_2, RQ_3, K_norm, K_exit, K_goto, K_ret, K_pan, B_norm, B_exit, B_goto, B_ret, B_pan, S_norm, S_exit, S_ret, S_pan, X_cnd, XB_true, XB_false, bin_add, bin_sub, bin_mul, bin_and, bin_or, bin_shr, bin_shl, bin_quo, bin_rem, Int.reduceLT, Int.reduceEq, bin_eql, bin_neq, bin_lss, bin_leq, bin_gtr, bin_geq, bin_seql, bin_sneq, decide_true, decide_false, eq_self, if_true, if_false, List.getElem?_cons_zero, List.getElem?_cons_succ, hs])
      · simp only [hcm, if_false] at hQ
        have e4 : ¬ bits .and .u8 (c.toNat : Int) 128 = 0 := by rw [u8_and128 _ hc256, if_neg hcm]; decide
        have e5 : IntKind.i64.wrap ((i : Int) + 1) = ((i + 1 : Nat) : Int) := by rw [IntWalk.i64_in _ (by omega)]; omega
        simp only [X_skip, X_seq, X_reg, X_block, X_scope, X_exit, X_goto, X_ret, X_label, XO_mv, XO_g, XG_tt, XG_tf, XG_ft, XG_ff, XO_bin, XO_cvI, XO_pick, XO_ext, XO_len, XO_mnmx, XD_mv, XD_g, XGD_tt, XGD_tf, XGD_ft, XGD_ff, XD_bin, XD_cvI, XD_pick, XD_ext, XD_len, XD_mnmx, XD_mksl, XD_iadL, XD_ld, XD_fad, XD_nil, XWD_some, XVD_same, XVD_k, XO_alloc, XO_st, XD_st, XO_box, XO_mkslo, XD_mkslo, XO_mrk, XD_mrk, mr_0, XO_build, st_0_2, st_0_3, st_l_2, st_l_3, ld_l_2, ld_l_3, ld_r_2, ld_r_3, ld_l_at, Nat.zero_add, bd_nil, bd_2, bd_3, XD_build, XO_fld, XD_fld, XO_cvBS, XD_cvBS, bs_sl, bs_nil, XO_cvSB, XD_cvSB, sb_txt, XO_slL, XD_slL, Option.map_some, Option.map_none, XO_mksl, XO_iadL, XO_ld, XO_fad, ld_rptr, fd_r, fd_p, fd_e, List.drop_zero, List.drop_succ_cons, mkParts_nil, mkParts_cons, mkO_1, mkO_2, mk_agg2, mk_agg3, src_sl, mmO_min, mmO_max, XW_some, XV_some, ln_nil, ln_sl, ln_own, ln_str, cvO_eq, pkO_t, pkO_f, exO_eq, evalO_t, evalO_c, putD_some, putD_none, slot_len, slot_eq, slot_ne, ne_eq, Nat.reduceLT, Nat.reduceEqDiff, not_false_eq_true, not_true_eq_false, reduceCtorEq, XO_nil, RQ_0, RQ_0n, RQ_1, RQ_2, RQ_3, K_norm, K_exit, K_goto, K_ret, K_pan, B_norm, B_exit, B_goto, B_ret, B_pan, S_norm, S_exit, S_ret, S_pan, X_cnd, XB_true, XB_false, bin_add, bin_sub, bin_mul, bin_and, bin_or, bin_shr, bin_shl, bin_quo, bin_rem, Int.reduceLT, Int.reduceEq, bin_eql, bin_neq, bin_lss, bin_leq, bin_gtr, bin_geq, bin_seql, bin_sneq, decide_true, decide_false, eq_self, if_true, if_false, List.getElem?_cons_zero, List.getElem?_cons_succ, hs, h8, e4, e5]
        refine ih (i + 1) m _ (by omega) hm ?_ ?_ ?_ ?_ ?_ (by omega) ?_
        · simp only [slot_len, hs]
        · simp only [X_skip, X_seq, X_reg, X_block, X_scope, X_exit, X_goto, X_ret, X_label, XO_mv, XO_g, XG_tt, XG_tf, XG_ft, XG_ff, XO_bin, XO_cvI, XO_pick, XO_ext, XO_len, XO_mnmx, XD_mv, XD_g, XGD_tt, XGD_tf, XGD_ft, XGD_ff, XD_bin, XD_cvI, XD_pick, XD_ext, XD_len, XD_mnmx, XD_mksl, XD_iadL, XD_ld, XD_fad, XD_nil, XWD_some, XVD_same, XVD_k, XO_alloc, XO_st, XD_st, XO_box, XO_mkslo, XD_mkslo, XO_mrk, XD_mrk, mr_0, XO_build, st_0_2, st_0_3, st_l_2, st_l_3, ld_l_2, ld_l_3, ld_r_2, ld_r_3, ld_l_at, Nat.zero_add, bd_nil, bd_2, bd_3, XD_build, XO_fld, XD_fld, XO_cvBS, XD_cvBS, bs_sl, bs_nil, XO_cvSB, XD_cvSB, sb_txt, XO_slL, XD_slL, Option.map_some, Option.map_none, XO_mksl, XO_iadL, XO_ld, XO_fad, ld_rptr, fd_r, fd_p, fd_e, List.drop_zero, List.drop_succ_cons, mkParts_nil, mkParts_cons, mkO_1, mkO_2, mk_agg2, mk_agg3, src_sl, mmO_min, mmO_max, XW_some, XV_some, ln_nil, ln_sl, ln_own, ln_str, cvO_eq, pkO_t, pkO_f, exO_eq, evalO_t, evalO_c, putD_some, putD_none, slot_len, slot_eq, slot_ne, ne_eq, Nat.reduceLT, Nat.reduceEqDiff, not_false_eq_true, not_true_eq_false, reduceCtorEq, XO_nil, RQ_0, RQ_0n, RQ_1, RQ_2, RQ_3, K_norm, K_exit, K_goto, K_ret, K_pan, B_norm, B_exit, B_goto, B_ret, B_pan, S_norm, S_exit, S_ret, S_pan, X_cnd, XB_true, XB_false, bin_add, bin_sub, bin_mul, bin_and, bin_or, bin_shr, bin_shl, bin_quo, bin_rem, Int.reduceLT, Int.reduceEq, bin_eql, bin_neq, bin_lss, bin_leq, bin_gtr, bin_geq, bin_seql, bin_sneq, decide_true, decide_false, eq_self, if_true, if_false, List.getElem?_cons_zero, List.getElem?_cons_succ, hs, h0]
        · simp only [X_skip, X_seq, X_reg, X_block, X_scope, X_exit, X_goto, X_ret, X_label, XO_mv, XO_g, XG_tt, XG_tf, XG_ft, XG_ff, XO_bin, XO_cvI, XO_pick, XO_ext, XO_len, XO_mnmx, XD_mv, XD_g, XGD_tt, XGD_tf, XGD_ft, XGD_ff, XD_bin, XD_cvI, XD_pick, XD_ext, XD_len, XD_mnmx, XD_mksl, XD_iadL, XD_ld, XD_fad, XD_nil, XWD_some, XVD_same, XVD_k, XO_alloc, XO_st, XD_st, XO_box, XO_mkslo, XD_mkslo, XO_mrk, XD_mrk, mr_0, XO_build, st_0_2, st_0_3, st_l_2, st_l_3, ld_l_2, ld_l_3, ld_r_2, ld_r_3, ld_l_at, Nat.zero_add, bd_nil, bd_2, bd_3, XD_build, XO_fld, XD_fld, XO_cvBS, XD_cvBS, bs_sl, bs_nil, XO_cvSB, XD_cvSB, sb_txt, XO_slL, XD_slL, Option.map_some, Option.map_none, XO_mksl, XO_iadL, XO_ld, XO_fad, ld_rptr, fd_r, fd_p, fd_e, List.drop_zero, List.drop_succ_cons, mkParts_nil, mkParts_cons, mkO_1, mkO_2, mk_agg2, mk_agg3, src_sl, mmO_min, mmO_max, XW_some, XV_some, ln_nil, ln_sl, ln_own, ln_str, cvO_eq, pkO_t, pkO_f, exO_eq, evalO_t, evalO_c, putD_some, putD_none, slot_len, slot_eq, slot_ne, ne_eq, Nat.reduceLT, Nat.reduceEqDiff, not_false_eq_true, not_true_eq_false, reduceCtorEq, XO_nil, RQ_0, RQ_0n, RQ_1, RQ_2, RQ_3, K_norm, K_exit, K_goto, K_ret, K_pan, B_norm, B_exit, B_goto, B_ret, B_pan, S_norm, S_exit, S_ret, S_pan, X_cnd, XB_true, XB_false, bin_add, bin_sub, bin_mul, bin_and, bin_or, bin_shr, bin_shl, bin_quo, bin_rem, Int.reduceLT, Int.reduceEq, bin_eql, bin_neq, bin_lss, bin_leq, bin_gtr, bin_geq, bin_seql, bin_sneq, decide_true, decide_false, eq_self, if_true, if_false, List.getElem?_cons_zero, List.getElem?_cons_succ, hs, h1]
        · simp only [X_skip, X_seq, X_reg, X_block, X_scope, X_exit, X_goto, X_ret, X_label, XO_mv, XO_g, XG_tt, XG_tf, XG_ft, XG_ff, XO_bin, XO_cvI, XO_pick, XO_ext, XO_len, XO_mnmx, XD_mv, XD_g, XGD_tt, XGD_tf, XGD_ft, XGD_ff, XD_bin, XD_cvI, XD_pick, XD_ext, XD_len, XD_mnmx, XD_mksl, XD_iadL, XD_ld, XD_fad, XD_nil, XWD_some, XVD_same, XVD_k, XO_alloc, XO_st, XD_st, XO_box, XO_mkslo, XD_mkslo, XO_mrk, XD_mrk, mr_0, XO_build, st_0_2, st_0_3, st_l_2, st_l_3, ld_l_2, ld_l_3, ld_r_2, ld_r_3, ld_l_at, Nat.zero_add, bd_nil, bd_2, bd_3, XD_build, XO_fld, XD_fld, XO_cvBS, XD_cvBS, bs_sl, bs_nil, XO_cvSB, XD_cvSB, sb_txt, XO_slL, XD_slL, Option.map_some, Option.map_none, XO_mksl, XO_iadL, XO_ld, XO_fad, ld_rptr, fd_r, fd_p, fd_e, List.drop_zero, List.drop_succ_cons, mkParts_nil, mkParts_cons, mkO_1, mkO_2, mk_agg2, mk_agg3, src_sl, mmO_min, mmO_max, XW_some, XV_some, ln_nil, ln_sl, ln_own, ln_str, cvO_eq, pkO_t, pkO_f, exO_eq, evalO_t, evalO_c, putD_some, putD_none, slot_len, slot_eq, slot_ne, ne_eq, Nat.reduceLT, Nat.reduceEqDiff, not_false_eq_true, not_true_eq_false, reduceCtorEq, XO_nil, RQ_0, RQ_0n, RQ_1, RQ_2, RQ_3, K_norm, K_exit, K_goto, K_ret, K_pan, B_norm, B_exit, B_goto, B_ret, B_pan, S_norm, S_exit, S_ret, S_pan, X_cnd, XB_true, XB_false, bin_add, bin_sub, bin_mul, bin_and, bin_or, bin_shr, bin_shl, bin_quo, bin_rem, Int.reduceLT, Int.reduceEq, bin_eql, bin_neq, bin_lss, bin_leq, bin_gtr, bin_geq, bin_seql, bin_sneq, decide_true, decide_false, eq_self, if_true, if_false, List.getElem?_cons_zero, List.getElem?_cons_succ, hs]
        · simp only [X_skip, X_seq, X_reg, X_block, X_scope, X_exit, X_goto, X_ret, X_label, XO_mv, XO_g, XG_tt, XG_tf, XG_ft, XG_ff, XO_bin, XO_cvI, XO_pick, XO_ext, XO_len, XO_mnmx, XD_mv, XD_g, XGD_tt, XGD_tf, XGD_ft, XGD_ff, XD_bin, XD_cvI, XD_pick, XD_ext, XD_len, XD_mnmx, XD_mksl, XD_iadL, XD_ld, XD_fad, XD_nil, XWD_some, XVD_same, XVD_k, XO_alloc, XO_st, XD_st, XO_box, XO_mkslo, XD_mkslo, XO_mrk, XD_mrk, mr_0, XO_build, st_0_2, st_0_3, st_l_2, st_l_3, ld_l_2, ld_l_3, ld_r_2, ld_r_3, ld_l_at, Nat.zero_add, bd_nil, bd_2, bd_3, XD_build, XO_fld, XD_fld, XO_cvBS, XD_cvBS, bs_sl, bs_nil, XO_cvSB, XD_cvSB, sb_txt, XO_slL, XD_slL, Option.map_some, Option.map_none, XO_mksl, XO_iadL, XO_ld, XO_fad, ld_rptr, fd_r, fd_p, fd_e, List.drop_zero, List.drop_succ_cons, mkParts_nil, mkParts_cons, mkO_1, mkO_2, mk_agg2, mk_agg3, src_sl, mmO_min, mmO_max, XW_some, XV_some, ln_nil, ln_sl, ln_own, ln_str, cvO_eq, pkO_t, pkO_f, exO_eq, evalO_t, evalO_c, putD_some, putD_none, slot_len, slot_eq, slot_ne, ne_eq, Nat.reduceLT, Nat.reduceEqDiff, not_false_eq_true, not_true_eq_false, reduceCtorEq, XO_nil, RQ_0, RQ_0n, RQ_1, RQ_2, RQ_3, K_norm, K_exit, K_goto, K_ret, K_pan, B_norm, B_exit, B_goto, B_ret, B_pan, S_norm, S_exit, S_ret, S_pan, X_cnd, XB_true, XB_false, bin_add, bin_sub, bin_mul, bin_and, bin_or, bin_shr, bin_shl, bin_quo, bin_rem, Int.reduceLT, Int.reduceEq, bin_eql, bin_neq, bin_lss, bin_leq, bin_gtr, bin_geq, bin_seql, bin_sneq, decide_true, decide_false, eq_self, if_true, if_false, List.getElem?_cons_zero, List.getElem?_cons_succ, hs]
        · exact hQ

theorem getN_err : ∀ k r at_ i n, (getN k r at_ i n).2.2 = 0 ∨ getN k r at_ i n = (0, 0, 10) ∨ getN k r at_ i n = (0, 0, 11)
  | 0, _, _, _, _ => by simp [getN]
  | k + 1, [], _, _, _ => by simp [getN]
  | k + 1, c :: r, at_, i, n => by
    simp only [getN]
    split
    · split <;> simp
    · exact getN_err k r _ _ _

theorem num_f47 (b : List UInt8) (v : VV) (hv : SlV 1 (eB b) v) (at_ : Int) (h : Heap) (hb : b.length ≤ 1000000000) :
    call F 47 [v, vi .i64 at_] h = some (.ret (.tup [vi .i64 (getNum b at_).1, vi .i64 (getNum b at_).2.1, vi .u16 (getNum b at_).2.2]), h) := by
  · refine call_P (fn := f47) rfl ?_
    simp only [f47]
    generalize hs0 : ([v, vi .i64 at_] ++ List.replicate _ VV.undef : List VV) = s
    have hs : s.length = 60 := by rw [← hs0]; rfl
    have h0 : s.getD 0 .undef = v := by rw [← hs0]; rfl
    have h1 : s.getD 1 .undef = vi .i64 at_ := by rw [← hs0]; rfl
    clear hs0
    simp only [X_skip, X_seq, X_reg, X_block, X_scope, X_exit, X_goto, X_ret, X_label, XO_mv, XO_g, XG_tt, XG_tf, XG_ft, XG_ff, XO_bin, XO_cvI, XO_pick, XO_ext, XO_len, XO_mnmx, XD_mv, XD_g, XGD_tt, XGD_tf, XGD_ft, XGD_ff, XD_bin, XD_cvI, XD_pick, XD_ext, XD_len, XD_mnmx, XD_mksl, XD_iadL, XD_ld, XD_fad, XD_nil, XWD_some, XVD_same, XVD_k, XO_alloc, XO_st, XD_st, XO_box, XO_mkslo, XD_mkslo, XO_mrk, XD_mrk, mr_0, XO_build, st_0_2, st_0_3, st_l_2, st_l_3, ld_l_2, ld_l_3, ld_r_2, ld_r_3, ld_l_at, Nat.zero_add, bd_nil, bd_2, bd_3, XD_build, XO_fld, XD_fld, XO_cvBS, XD_cvBS, bs_sl, bs_nil, XO_cvSB, XD_cvSB, sb_txt, XO_slL, XD_slL, Option.map_some, Option.map_none, XO_mksl, XO_iadL, XO_ld, XO_fad, ld_rptr, fd_r, fd_p, fd_e, List.drop_zero, List.drop_succ_cons, mkParts_nil, mkParts_cons, mkO_1, mkO_2, mk_agg2, mk_agg3, src_sl, mmO_min, mmO_max, XW_some, XV_some, ln_nil, ln_sl, ln_own, ln_str, cvO_eq, pkO_t, pkO_f, exO_eq, evalO_t, evalO_c, putD_some, putD_none, slot_len, slot_eq, slot_ne, ne_eq, Nat.reduceLT, Nat.reduceEqDiff, not_false_eq_true, not_true_eq_false, reduceCtorEq, XO_nil, RQ_0, RQ_0n, RQ_1, RQ_2, RQ_3, K_norm, K_exit, K_goto, K_ret, K_pan, B_norm, B_exit, B_goto, B_ret, B_pan, S_norm, S_exit, S_ret, S_pan, X_cnd, XB_true, XB_false, bin_add, bin_sub, bin_mul, bin_and, bin_or, bin_shr, bin_shl, bin_quo, bin_rem, Int.reduceLT, Int.reduceEq, bin_eql, bin_neq, bin_lss, bin_leq, bin_gtr, bin_geq, bin_seql, bin_sneq, decide_true, decide_false, eq_self, if_true, if_false, List.getElem?_cons_zero, List.getElem?_cons_succ]
    rw [X_eq f47_1.eq_1]
    simp only [X_skip, X_seq, X_reg, X_block, X_scope, X_exit, X_goto, X_ret, X_label, XO_mv, XO_g, XG_tt, XG_tf, XG_ft, XG_ff, XO_bin, XO_cvI, XO_pick, XO_ext, XO_len, XO_mnmx, XD_mv, XD_g, XGD_tt, XGD_tf, XGD_ft, XGD_ff, XD_bin, XD_cvI, XD_pick, XD_ext, XD_len, XD_mnmx, XD_mksl, XD_iadL, XD_ld, XD_fad, XD_nil, XWD_some, XVD_same, XVD_k, XO_alloc, XO_st, XD_st, XO_box, XO_mkslo, XD_mkslo, XO_mrk, XD_mrk, mr_0, XO_build, st_0_2, st_0_3, st_l_2, st_l_3, ld_l_2, ld_l_3, ld_r_2, ld_r_3, ld_l_at, Nat.zero_add, bd_nil, bd_2, bd_3, XD_build, XO_fld, XD_fld, XO_cvBS, XD_cvBS, bs_sl, bs_nil, XO_cvSB, XD_cvSB, sb_txt, XO_slL, XD_slL, Option.map_some, Option.map_none, XO_mksl, XO_iadL, XO_ld, XO_fad, ld_rptr, fd_r, fd_p, fd_e, List.drop_zero, List.drop_succ_cons, mkParts_nil, mkParts_cons, mkO_1, mkO_2, mk_agg2, mk_agg3, src_sl, mmO_min, mmO_max, XW_some, XV_some, ln_nil, ln_sl, ln_own, ln_str, cvO_eq, pkO_t, pkO_f, exO_eq, evalO_t, evalO_c, putD_some, putD_none, slot_len, slot_eq, slot_ne, ne_eq, Nat.reduceLT, Nat.reduceEqDiff, not_false_eq_true, not_true_eq_false, reduceCtorEq, XO_nil, RQ_0, RQ_0n, RQ_1, RQ_2, RQ_3, K_norm, K_exit, K_goto, K_ret, K_pan, B_norm, B_exit, B_goto, B_ret, B_pan, S_norm, S_exit, S_ret, S_pan, X_cnd, XB_true, XB_false, bin_add, bin_sub, bin_mul, bin_and, bin_or, bin_shr, bin_shl, bin_quo, bin_rem, Int.reduceLT, Int.reduceEq, bin_eql, bin_neq, bin_lss, bin_leq, bin_gtr, bin_geq, bin_seql, bin_sneq, decide_true, decide_false, eq_self, if_true, if_false, List.getElem?_cons_zero, List.getElem?_cons_succ, hs, h0, h1]
    have short : ∀ s', s'.length = 60 → getNum b at_ = (0, 0, 10) → S F f47_1 (RQ [.t 4, .t 5, .t 6] (Is (.tup [vi .i64 (getNum b at_).1, vi .i64 (getNum b at_).2.1, vi .u16 (getNum b at_).2.2]) h)) (.goto 0) ⟨s', h⟩ := by
      intro s' hs' e
      rw [S_goto rfl, XF_eq f47_1.eq_1, XF_seq2 rfl, XF_seq2 rfl, XF_seq2 rfl, XF_seq2 rfl, XF_seq2 rfl, XF_seq1 rfl, XF_label]
      simp only [X_skip, X_seq, X_reg, X_block, X_scope, X_exit, X_goto, X_ret, X_label, XO_mv, XO_g, XG_tt, XG_tf, XG_ft, XG_ff, XO_bin, XO_cvI, XO_pick, XO_ext, XO_len, XO_mnmx, XD_mv, XD_g, XGD_tt, XGD_tf, XGD_ft, XGD_ff, XD_bin, XD_cvI, XD_pick, XD_ext, XD_len, XD_mnmx, XD_mksl, XD_iadL, XD_ld, XD_fad, XD_nil, XWD_some, XVD_same, XVD_k, XO_alloc, XO_st, XD_st, XO_box, XO_mkslo, XD_mkslo, XO_mrk, XD_mrk, mr_0, XO_build, st_0_2, st_0_3, st_l_2, st_l_3, ld_l_2, ld_l_3, ld_r_2, ld_r_3, ld_l_at, Nat.zero_add, bd_nil, bd_2, bd_3, XD_build, XO_fld, XD_fld, XO_cvBS, XD_cvBS, bs_sl, bs_nil, XO_cvSB, XD_cvSB, sb_txt, XO_slL, XD_slL, Option.map_some, Option.map_none, XO_mksl, XO_iadL, XO_ld, XO_fad, ld_rptr, fd_r, fd_p, fd_e, List.drop_zero, List.drop_succ_cons, mkParts_nil, mkParts_cons, mkO_1, mkO_2, mk_agg2, mk_agg3, src_sl, mmO_min, mmO_max, XW_some, XV_some, ln_nil, ln_sl, ln_own, ln_str, cvO_eq, pkO_t, pkO_f, exO_eq, evalO_t, evalO_c, putD_some, putD_none, slot_len, slot_eq, slot_ne, ne_eq, Nat.reduceLT, Nat.reduceEqDiff, not_false_eq_true, not_true_eq_false, reduceCtorEq, XO_nil, RQ_0, RQ_0n, RQ_1, RQ_2, RQ_3, K_norm, K_exit, K_goto, K_ret, K_pan, B_norm, B_exit, B_goto, B_ret, B_pan, S_norm, S_exit, S_ret, S_pan, X_cnd, XB_true, XB_false, bin_add, bin_sub, bin_mul, bin_and, bin_or, bin_shr, bin_shl, bin_quo, bin_rem, Int.reduceLT, Int.reduceEq, bin_eql, bin_neq, bin_lss, bin_leq, bin_gtr, bin_geq, bin_seql, bin_sneq, decide_true, decide_false, eq_self, if_true, if_false, List.getElem?_cons_zero, List.getElem?_cons_succ, hs', e]
      exact ⟨rfl, rfl⟩
    have wrong : ∀ s', s'.length = 60 → getNum b at_ = (0, 0, 11) → S F f47_1 (RQ [.t 4, .t 5, .t 6] (Is (.tup [vi .i64 (getNum b at_).1, vi .i64 (getNum b at_).2.1, vi .u16 (getNum b at_).2.2]) h)) (.goto 1) ⟨s', h⟩ := by
      intro s' hs' e
      rw [S_goto rfl, XF_eq f47_1.eq_1, XF_seq2 rfl, XF_seq2 rfl, XF_seq2 rfl, XF_seq1 rfl, XF_label]
      simp only [X_skip, X_seq, X_reg, X_block, X_scope, X_exit, X_goto, X_ret, X_label, XO_mv, XO_g, XG_tt, XG_tf, XG_ft, XG_ff, XO_bin, XO_cvI, XO_pick, XO_ext, XO_len, XO_mnmx, XD_mv, XD_g, XGD_tt, XGD_tf, XGD_ft, XGD_ff, XD_bin, XD_cvI, XD_pick, XD_ext, XD_len, XD_mnmx, XD_mksl, XD_iadL, XD_ld, XD_fad, XD_nil, XWD_some, XVD_same, XVD_k, XO_alloc, XO_st, XD_st, XO_box, XO_mkslo, XD_mkslo, XO_mrk, XD_mrk, mr_0, XO_build, st_0_2, st_0_3, st_l_2, st_l_3, ld_l_2, ld_l_3, ld_r_2, ld_r_3, ld_l_at, Nat.zero_add, bd_nil, bd_2, bd_3, XD_build, XO_fld, XD_fld, XO_cvBS, XD_cvBS, bs_sl, bs_nil, XO_cvSB, XD_cvSB, sb_txt, XO_slL, XD_slL, Option.map_some, Option.map_none, XO_mksl, XO_iadL, XO_ld, XO_fad, ld_rptr, fd_r, fd_p, fd_e, List.drop_zero, List.drop_succ_cons, mkParts_nil, mkParts_cons, mkO_1, mkO_2, mk_agg2, mk_agg3, src_sl, mmO_min, mmO_max, XW_some, XV_some, ln_nil, ln_sl, ln_own, ln_str, cvO_eq, pkO_t, pkO_f, exO_eq, evalO_t, evalO_c, putD_some, putD_none, slot_len, slot_eq, slot_ne, ne_eq, Nat.reduceLT, Nat.reduceEqDiff, not_false_eq_true, not_true_eq_false, reduceCtorEq, XO_nil, RQ_0, RQ_0n, RQ_1, RQ_2, RQ_3, K_norm, K_exit, K_goto, K_ret, K_pan, B_norm, B_exit, B_goto, B_ret, B_pan, S_norm, S_exit, S_ret, S_pan, X_cnd, XB_true, XB_false, bin_add, bin_sub, bin_mul, bin_and, bin_or, bin_shr, bin_shl, bin_quo, bin_rem, Int.reduceLT, Int.reduceEq, bin_eql, bin_neq, bin_lss, bin_leq, bin_gtr, bin_geq, bin_seql, bin_sneq, decide_true, decide_false, eq_self, if_true, if_false, List.getElem?_cons_zero, List.getElem?_cons_succ, hs', e]
      exact ⟨rfl, rfl⟩
    by_cases c1 : at_ < 0
    · simp only [X_skip, X_seq, X_reg, X_block, X_scope, X_exit, X_goto, X_ret, X_label, XO_mv, XO_g, XG_tt, XG_tf, XG_ft, XG_ff, XO_bin, XO_cvI, XO_pick, XO_ext, XO_len, XO_mnmx, XD_mv, XD_g, XGD_tt, XGD_tf, XGD_ft, XGD_ff, XD_bin, XD_cvI, XD_pick, XD_ext, XD_len, XD_mnmx, XD_mksl, XD_iadL, XD_ld, XD_fad, XD_nil, XWD_some, XVD_same, XVD_k, XO_alloc, XO_st, XD_st, XO_box, XO_mkslo, XD_mkslo, XO_mrk, XD_mrk, mr_0, XO_build, st_0_2, st_0_3, st_l_2, st_l_3, ld_l_2, ld_l_3, ld_r_2, ld_r_3, ld_l_at, Nat.zero_add, bd_nil, bd_2, bd_3, XD_build, XO_fld, XD_fld, XO_cvBS, XD_cvBS, bs_sl, bs_nil, XO_cvSB, XD_cvSB, sb_txt, XO_slL, XD_slL, Option.map_some, Option.map_none, XO_mksl, XO_iadL, XO_ld, XO_fad, ld_rptr, fd_r, fd_p, fd_e, List.drop_zero, List.drop_succ_cons, mkParts_nil, mkParts_cons, mkO_1, mkO_2, mk_agg2, mk_agg3, src_sl, mmO_min, mmO_max, XW_some, XV_some, ln_nil, ln_sl, ln_own, ln_str, cvO_eq, pkO_t, pkO_f, exO_eq, evalO_t, evalO_c, putD_some, putD_none, slot_len, slot_eq, slot_ne, ne_eq, Nat.reduceLT, Nat.reduceEqDiff, not_false_eq_true, not_true_eq_false, reduceCtorEq, XO_nil, RQ_0, RQ_0n, RQ_1, RQ_2, RQ_3, K_norm, K_exit, K_goto, K_ret, K_pan, B_norm, B_exit, B_goto, B_ret, B_pan, S_norm, S_exit, S_ret, S_pan, X_cnd, XB_true, XB_false, bin_add, bin_sub, bin_mul, bin_and, bin_or, bin_shr, bin_shl, bin_quo, bin_rem, Int.reduceLT, Int.reduceEq, bin_eql, bin_neq, bin_lss, bin_leq, bin_gtr, bin_geq, bin_seql, bin_sneq, decide_true, decide_false, eq_self, if_true, if_false, List.getElem?_cons_zero, List.getElem?_cons_succ, hs, h0, h1, eq_true c1]
      exact short _ (by simp only [slot_len, hs]) (by unfold getNum; rw [if_pos (.inl c1)])
    · by_cases c2 : (b.length : Int) < at_
      · simp only [X_skip, X_seq, X_reg, X_block, X_scope, X_exit, X_goto, X_ret, X_label, XO_mv, XO_g, XG_tt, XG_tf, XG_ft, XG_ff, XO_bin, XO_cvI, XO_pick, XO_ext, XO_len, XO_mnmx, XD_mv, XD_g, XGD_tt, XGD_tf, XGD_ft, XGD_ff, XD_bin, XD_cvI, XD_pick, XD_ext, XD_len, XD_mnmx, XD_mksl, XD_iadL, XD_ld, XD_fad, XD_nil, XWD_some, XVD_same, XVD_k, XO_alloc, XO_st, XD_st, XO_box, XO_mkslo, XD_mkslo, XO_mrk, XD_mrk, mr_0, XO_build, st_0_2, st_0_3, st_l_2, st_l_3, ld_l_2, ld_l_3, ld_r_2, ld_r_3, ld_l_at, Nat.zero_add, bd_nil, bd_2, bd_3, XD_build, XO_fld, XD_fld, XO_cvBS, XD_cvBS, bs_sl, bs_nil, XO_cvSB, XD_cvSB, sb_txt, XO_slL, XD_slL, Option.map_some, Option.map_none, XO_mksl, XO_iadL, XO_ld, XO_fad, ld_rptr, fd_r, fd_p, fd_e, List.drop_zero, List.drop_succ_cons, mkParts_nil, mkParts_cons, mkO_1, mkO_2, mk_agg2, mk_agg3, src_sl, mmO_min, mmO_max, XW_some, XV_some, ln_nil, ln_sl, ln_own, ln_str, cvO_eq, pkO_t, pkO_f, exO_eq, evalO_t, evalO_c, putD_some, putD_none, slot_len, slot_eq, slot_ne, ne_eq, Nat.reduceLT, Nat.reduceEqDiff, not_false_eq_true, not_true_eq_false, reduceCtorEq, XO_nil, RQ_0, RQ_0n, RQ_1, RQ_2, RQ_3, K_norm, K_exit, K_goto, K_ret, K_pan, B_norm, B_exit, B_goto, B_ret, B_pan, S_norm, S_exit, S_ret, S_pan, X_cnd, XB_true, XB_false, bin_add, bin_sub, bin_mul, bin_and, bin_or, bin_shr, bin_shl, bin_quo, bin_rem, Int.reduceLT, Int.reduceEq, bin_eql, bin_neq, bin_lss, bin_leq, bin_gtr, bin_geq, bin_seql, bin_sneq, decide_true, decide_false, eq_self, if_true, if_false, List.getElem?_cons_zero, List.getElem?_cons_succ, hs, h0, h1, c1, eB_len, hv.ln, eq_true c2]
        exact short _ (by simp only [slot_len, hs]) (by unfold getNum; rw [if_pos (.inr c2)])
      · simp only [X_skip, X_seq, X_reg, X_block, X_scope, X_exit, X_goto, X_ret, X_label, XO_mv, XO_g, XG_tt, XG_tf, XG_ft, XG_ff, XO_bin, XO_cvI, XO_pick, XO_ext, XO_len, XO_mnmx, XD_mv, XD_g, XGD_tt, XGD_tf, XGD_ft, XGD_ff, XD_bin, XD_cvI, XD_pick, XD_ext, XD_len, XD_mnmx, XD_mksl, XD_iadL, XD_ld, XD_fad, XD_nil, XWD_some, XVD_same, XVD_k, XO_alloc, XO_st, XD_st, XO_box, XO_mkslo, XD_mkslo, XO_mrk, XD_mrk, mr_0, XO_build, st_0_2, st_0_3, st_l_2, st_l_3, ld_l_2, ld_l_3, ld_r_2, ld_r_3, ld_l_at, Nat.zero_add, bd_nil, bd_2, bd_3, XD_build, XO_fld, XD_fld, XO_cvBS, XD_cvBS, bs_sl, bs_nil, XO_cvSB, XD_cvSB, sb_txt, XO_slL, XD_slL, Option.map_some, Option.map_none, XO_mksl, XO_iadL, XO_ld, XO_fad, ld_rptr, fd_r, fd_p, fd_e, List.drop_zero, List.drop_succ_cons, mkParts_nil, mkParts_cons, mkO_1, mkO_2, mk_agg2, mk_agg3, src_sl, mmO_min, mmO_max, XW_some, XV_some, ln_nil, ln_sl, ln_own, ln_str, cvO_eq, pkO_t, pkO_f, exO_eq, evalO_t, evalO_c, putD_some, putD_none, slot_len, slot_eq, slot_ne, ne_eq, Nat.reduceLT, Nat.reduceEqDiff, not_false_eq_true, not_true_eq_false, reduceCtorEq, XO_nil, RQ_0, RQ_0n, RQ_1, RQ_2, RQ_3, K_norm, K_exit, K_goto, K_ret, K_pan, B_norm, B_exit, B_goto, B_ret, B_pan, S_norm, S_exit, S_ret, S_pan, X_cnd, XB_true, XB_false, bin_add, bin_sub, bin_mul, bin_and, bin_or, bin_shr, bin_shl, bin_quo, bin_rem, Int.reduceLT, Int.reduceEq, bin_eql, bin_neq, bin_lss, bin_leq, bin_gtr, bin_geq, bin_seql, bin_sneq, decide_true, decide_false, eq_self, if_true, if_false, List.getElem?_cons_zero, List.getElem?_cons_succ, hs, h0, h1, c1, eB_len, hv.ln, c2]
        have eg : getNum b at_ = getN 8 (b.drop at_.toNat) at_.toNat 0 0 := by unfold getNum; rw [if_neg (by omega)]
        obtain ⟨a, rfl⟩ : ∃ a : Nat, at_ = Int.ofNat a := Int.eq_ofNat_of_zero_le (show 0 ≤ at_ by omega)
        have c2' : ¬ (b.length : Int) < (a : Int) := c2
        refine f47_loop b v hv a h _ (by omega) hb 8 0 0 _ rfl (by decide) ?_ ?_ ?_ ?_ ?_ (by omega) ?_
        · simp only [slot_len, hs]
        · simp only [X_skip, X_seq, X_reg, X_block, X_scope, X_exit, X_goto, X_ret, X_label, XO_mv, XO_g, XG_tt, XG_tf, XG_ft, XG_ff, XO_bin, XO_cvI, XO_pick, XO_ext, XO_len, XO_mnmx, XD_mv, XD_g, XGD_tt, XGD_tf, XGD_ft, XGD_ff, XD_bin, XD_cvI, XD_pick, XD_ext, XD_len, XD_mnmx, XD_mksl, XD_iadL, XD_ld, XD_fad, XD_nil, XWD_some, XVD_same, XVD_k, XO_alloc, XO_st, XD_st, XO_box, XO_mkslo, XD_mkslo, XO_mrk, XD_mrk, mr_0, XO_build, st_0_2, st_0_3, st_l_2, st_l_3, ld_l_2, ld_l_3, ld_r_2, ld_r_3, ld_l_at, Nat.zero_add, bd_nil, bd_2, bd_3, XD_build, XO_fld, XD_fld, XO_cvBS, XD_cvBS, bs_sl, bs_nil, XO_cvSB, XD_cvSB, sb_txt, XO_slL, XD_slL, Option.map_some, Option.map_none, XO_mksl, XO_iadL, XO_ld, XO_fad, ld_rptr, fd_r, fd_p, fd_e, List.drop_zero, List.drop_succ_cons, mkParts_nil, mkParts_cons, mkO_1, mkO_2, mk_agg2, mk_agg3, src_sl, mmO_min, mmO_max, XW_some, XV_some, ln_nil, ln_sl, ln_own, ln_str, cvO_eq, pkO_t, pkO_f, exO_eq, evalO_t, evalO_c, putD_some, putD_none, slot_len, slot_eq, slot_ne, ne_eq, Nat.reduceLT, Nat.reduceEqDiff, not_false_eq_true, not_true_eq_false, reduceCtorEq, XO_nil, RQ_0, RQ_0n, RQ_1, RQ_2, RQ_3, K_norm, K_exit, K_goto, K_ret, K_pan, B_norm, B_exit, B_goto, B_ret, B_pan, S_norm, S_exit, S_ret, S_pan, X_cnd, XB_true, XB_false, bin_add, bin_sub, bin_mul, bin_and, bin_or, bin_shr, bin_shl, bin_quo, bin_rem, Int.reduceLT, Int.reduceEq, bin_eql, bin_neq, bin_lss, bin_leq, bin_gtr, bin_geq, bin_seql, bin_sneq, decide_true, decide_false, eq_self, if_true, if_false, List.getElem?_cons_zero, List.getElem?_cons_succ, hs, h0]
        · simp only [X_skip, X_seq, X_reg, X_block, X_scope, X_exit, X_goto, X_ret, X_label, XO_mv, XO_g, XG_tt, XG_tf, XG_ft, XG_ff, XO_bin, XO_cvI, XO_pick, XO_ext, XO_len, XO_mnmx, XD_mv, XD_g, XGD_tt, XGD_tf, XGD_ft, XGD_ff, XD_bin, XD_cvI, XD_pick, XD_ext, XD_len, XD_mnmx, XD_mksl, XD_iadL, XD_ld, XD_fad, XD_nil, XWD_some, XVD_same, XVD_k, XO_alloc, XO_st, XD_st, XO_box, XO_mkslo, XD_mkslo, XO_mrk, XD_mrk, mr_0, XO_build, st_0_2, st_0_3, st_l_2, st_l_3, ld_l_2, ld_l_3, ld_r_2, ld_r_3, ld_l_at, Nat.zero_add, bd_nil, bd_2, bd_3, XD_build, XO_fld, XD_fld, XO_cvBS, XD_cvBS, bs_sl, bs_nil, XO_cvSB, XD_cvSB, sb_txt, XO_slL, XD_slL, Option.map_some, Option.map_none, XO_mksl, XO_iadL, XO_ld, XO_fad, ld_rptr, fd_r, fd_p, fd_e, List.drop_zero, List.drop_succ_cons, mkParts_nil, mkParts_cons, mkO_1, mkO_2, mk_agg2, mk_agg3, src_sl, mmO_min, mmO_max, XW_some, XV_some, ln_nil, ln_sl, ln_own, ln_str, cvO_eq, pkO_t, pkO_f, exO_eq, evalO_t, evalO_c, putD_some, putD_none, slot_len, slot_eq, slot_ne, ne_eq, Nat.reduceLT, Nat.reduceEqDiff, not_false_eq_true, not_true_eq_false, reduceCtorEq, XO_nil, RQ_0, RQ_0n, RQ_1, RQ_2, RQ_3, K_norm, K_exit, K_goto, K_ret, K_pan, B_norm, B_exit, B_goto, B_ret, B_pan, S_norm, S_exit, S_ret, S_pan, X_cnd, XB_true, XB_false, bin_add, bin_sub, bin_mul, bin_and, bin_or, bin_shr, bin_shl, bin_quo, bin_rem, Int.reduceLT, Int.reduceEq, bin_eql, bin_neq, bin_lss, bin_leq, bin_gtr, bin_geq, bin_seql, bin_sneq, decide_true, decide_false, eq_self, if_true, if_false, List.getElem?_cons_zero, List.getElem?_cons_succ, hs, h1]; rfl
        · simp only [X_skip, X_seq, X_reg, X_block, X_scope, X_exit, X_goto, X_ret, X_label, XO_mv, XO_g, XG_tt, XG_tf, XG_ft, XG_ff, XO_bin, XO_cvI, XO_pick, XO_ext, XO_len, XO_mnmx, XD_mv, XD_g, XGD_tt, XGD_tf, XGD_ft, XGD_ff, XD_bin, XD_cvI, XD_pick, XD_ext, XD_len, XD_mnmx, XD_mksl, XD_iadL, XD_ld, XD_fad, XD_nil, XWD_some, XVD_same, XVD_k, XO_alloc, XO_st, XD_st, XO_box, XO_mkslo, XD_mkslo, XO_mrk, XD_mrk, mr_0, XO_build, st_0_2, st_0_3, st_l_2, st_l_3, ld_l_2, ld_l_3, ld_r_2, ld_r_3, ld_l_at, Nat.zero_add, bd_nil, bd_2, bd_3, XD_build, XO_fld, XD_fld, XO_cvBS, XD_cvBS, bs_sl, bs_nil, XO_cvSB, XD_cvSB, sb_txt, XO_slL, XD_slL, Option.map_some, Option.map_none, XO_mksl, XO_iadL, XO_ld, XO_fad, ld_rptr, fd_r, fd_p, fd_e, List.drop_zero, List.drop_succ_cons, mkParts_nil, mkParts_cons, mkO_1, mkO_2, mk_agg2, mk_agg3, src_sl, mmO_min, mmO_max, XW_some, XV_some, ln_nil, ln_sl, ln_own, ln_str, cvO_eq, pkO_t, pkO_f, exO_eq, evalO_t, evalO_c, putD_some, putD_none, slot_len, slot_eq, slot_ne, ne_eq, Nat.reduceLT, Nat.reduceEqDiff, not_false_eq_true, not_true_eq_false, reduceCtorEq, XO_nil, RQ_0, RQ_0n, RQ_1, RQ_2, RQ_3, K_norm, K_exit, K_goto, K_ret, K_pan, B_norm, B_exit, B_goto, B_ret, B_pan, S_norm, S_exit, S_ret, S_pan, X_cnd, XB_true, XB_false, bin_add, bin_sub, bin_mul, bin_and, bin_or, bin_shr, bin_shl, bin_quo, bin_rem, Int.reduceLT, Int.reduceEq, bin_eql, bin_neq, bin_lss, bin_leq, bin_gtr, bin_geq, bin_seql, bin_sneq, decide_true, decide_false, eq_self, if_true, if_false, List.getElem?_cons_zero, List.getElem?_cons_succ, hs]; rfl
        · simp only [X_skip, X_seq, X_reg, X_block, X_scope, X_exit, X_goto, X_ret, X_label, XO_mv, XO_g, XG_tt, XG_tf, XG_ft, XG_ff, XO_bin, XO_cvI, XO_pick, XO_ext, XO_len, XO_mnmx, XD_mv, XD_g, XGD_tt, XGD_tf, XGD_ft, XGD_ff, XD_bin, XD_cvI, XD_pick, XD_ext, XD_len, XD_mnmx, XD_mksl, XD_iadL, XD_ld, XD_fad, XD_nil, XWD_some, XVD_same, XVD_k, XO_alloc, XO_st, XD_st, XO_box, XO_mkslo, XD_mkslo, XO_mrk, XD_mrk, mr_0, XO_build, st_0_2, st_0_3, st_l_2, st_l_3, ld_l_2, ld_l_3, ld_r_2, ld_r_3, ld_l_at, Nat.zero_add, bd_nil, bd_2, bd_3, XD_build, XO_fld, XD_fld, XO_cvBS, XD_cvBS, bs_sl, bs_nil, XO_cvSB, XD_cvSB, sb_txt, XO_slL, XD_slL, Option.map_some, Option.map_none, XO_mksl, XO_iadL, XO_ld, XO_fad, ld_rptr, fd_r, fd_p, fd_e, List.drop_zero, List.drop_succ_cons, mkParts_nil, mkParts_cons, mkO_1, mkO_2, mk_agg2, mk_agg3, src_sl, mmO_min, mmO_max, XW_some, XV_some, ln_nil, ln_sl, ln_own, ln_str, cvO_eq, pkO_t, pkO_f, exO_eq, evalO_t, evalO_c, putD_some, putD_none, slot_len, slot_eq, slot_ne, ne_eq, Nat.reduceLT, Nat.reduceEqDiff, not_false_eq_true, not_true_eq_false, reduceCtorEq, XO_nil, RQ_0, RQ_0n, RQ_1, RQ_2, RQ_3, K_norm, K_exit, K_goto, K_ret, K_pan, B_norm, B_exit, B_goto, B_ret, B_pan, S_norm, S_exit, S_ret, S_pan, X_cnd, XB_true, XB_false, bin_add, bin_sub, bin_mul, bin_and, bin_or, bin_shr, bin_shl, bin_quo, bin_rem, Int.reduceLT, Int.reduceEq, bin_eql, bin_neq, bin_lss, bin_leq, bin_gtr, bin_geq, bin_seql, bin_sneq, decide_true, decide_false, eq_self, if_true, if_false, List.getElem?_cons_zero, List.getElem?_cons_succ, hs]; rfl
        · intro o s' hs' hg
          rw [Nat.add_zero] at hg
          rw [show getN 8 (b.drop a) a 0 0 = getNum b (Int.ofNat a) from eg.symm] at hg
          rcases hg with ⟨e, rfl | rfl⟩ | ⟨e, rfl⟩ | ⟨m, j, e, rfl, a1, a2, a3⟩
          · simp only [X_skip, X_seq, X_reg, X_block, X_scope, X_exit, X_goto, X_ret, X_label, XO_mv, XO_g, XG_tt, XG_tf, XG_ft, XG_ff, XO_bin, XO_cvI, XO_pick, XO_ext, XO_len, XO_mnmx, XD_mv, XD_g, XGD_tt, XGD_tf, XGD_ft, XGD_ff, XD_bin, XD_cvI, XD_pick, XD_ext, XD_len, XD_mnmx, XD_mksl, XD_iadL, XD_ld, XD_fad, XD_nil, XWD_some, XVD_same, XVD_k, XO_alloc, XO_st, XD_st, XO_box, XO_mkslo, XD_mkslo, XO_mrk, XD_mrk, mr_0, XO_build, st_0_2, st_0_3, st_l_2, st_l_3, ld_l_2, ld_l_3, ld_r_2, ld_r_3, ld_l_at, Nat.zero_add, bd_nil, bd_2, bd_3, XD_build, XO_fld, XD_fld, XO_cvBS, XD_cvBS, bs_sl, bs_nil, XO_cvSB, XD_cvSB, sb_txt, XO_slL, XD_slL, Option.map_some, Option.map_none, XO_mksl, XO_iadL, XO_ld, XO_fad, ld_rptr, fd_r, fd_p, fd_e, List.drop_zero, List.drop_succ_cons, mkParts_nil, mkParts_cons, mkO_1, mkO_2, mk_agg2, mk_agg3, src_sl, mmO_min, mmO_max, XW_some, XV_some, ln_nil, ln_sl, ln_own, ln_str, cvO_eq, pkO_t, pkO_f, exO_eq, evalO_t, evalO_c, putD_some, putD_none, slot_len, slot_eq, slot_ne, ne_eq, Nat.reduceLT, Nat.reduceEqDiff, not_false_eq_true, not_true_eq_false, reduceCtorEq, XO_nil, RQ_0, RQ_0n, RQ_1, RQ_2, RQ_3, K_norm, K_exit, K_goto, K_ret, K_pan, B_norm, B_exit, B_goto, B_ret, B_pan, S_norm, S_exit, S_ret, S_pan, X_cnd, XB_true, XB_false, bin_add, bin_sub, bin_mul, bin_and, bin_or, bin_shr, bin_shl, bin_quo, bin_rem, Int.reduceLT, Int.reduceEq, bin_eql, bin_neq, bin_lss, bin_leq, bin_gtr, bin_geq, bin_seql, bin_sneq, decide_true, decide_false, eq_self, if_true, if_false, List.getElem?_cons_zero, List.getElem?_cons_succ, hs', e]
            exact ⟨rfl, rfl⟩
          · simp only [X_skip, X_seq, X_reg, X_block, X_scope, X_exit, X_goto, X_ret, X_label, XO_mv, XO_g, XG_tt, XG_tf, XG_ft, XG_ff, XO_bin, XO_cvI, XO_pick, XO_ext, XO_len, XO_mnmx, XD_mv, XD_g, XGD_tt, XGD_tf, XGD_ft, XGD_ff, XD_bin, XD_cvI, XD_pick, XD_ext, XD_len, XD_mnmx, XD_mksl, XD_iadL, XD_ld, XD_fad, XD_nil, XWD_some, XVD_same, XVD_k, XO_alloc, XO_st, XD_st, XO_box, XO_mkslo, XD_mkslo, XO_mrk, XD_mrk, mr_0, XO_build, st_0_2, st_0_3, st_l_2, st_l_3, ld_l_2, ld_l_3, ld_r_2, ld_r_3, ld_l_at, Nat.zero_add, bd_nil, bd_2, bd_3, XD_build, XO_fld, XD_fld, XO_cvBS, XD_cvBS, bs_sl, bs_nil, XO_cvSB, XD_cvSB, sb_txt, XO_slL, XD_slL, Option.map_some, Option.map_none, XO_mksl, XO_iadL, XO_ld, XO_fad, ld_rptr, fd_r, fd_p, fd_e, List.drop_zero, List.drop_succ_cons, mkParts_nil, mkParts_cons, mkO_1, mkO_2, mk_agg2, mk_agg3, src_sl, mmO_min, mmO_max, XW_some, XV_some, ln_nil, ln_sl, ln_own, ln_str, cvO_eq, pkO_t, pkO_f, exO_eq, evalO_t, evalO_c, putD_some, putD_none, slot_len, slot_eq, slot_ne, ne_eq, Nat.reduceLT, Nat.reduceEqDiff, not_false_eq_true, not_true_eq_false, reduceCtorEq, XO_nil, RQ_0, RQ_0n, RQ_1, RQ_2, RQ_3, K_norm, K_exit, K_goto, K_ret, K_pan, B_norm, B_exit, B_goto, B_ret, B_pan, S_norm, S_exit, S_ret, S_pan, X_cnd, XB_true, XB_false, bin_add, bin_sub, bin_mul, bin_and, bin_or, bin_shr, bin_shl, bin_quo, bin_rem, Int.reduceLT, Int.reduceEq, bin_eql, bin_neq, bin_lss, bin_leq, bin_gtr, bin_geq, bin_seql, bin_sneq, decide_true, decide_false, eq_self, if_true, if_false, List.getElem?_cons_zero, List.getElem?_cons_succ]
            exact wrong s' hs' e
          · simp only [X_skip, X_seq, X_reg, X_block, X_scope, X_exit, X_goto, X_ret, X_label, XO_mv, XO_g, XG_tt, XG_tf, XG_ft, XG_ff, XO_bin, XO_cvI, XO_pick, XO_ext, XO_len, XO_mnmx, XD_mv, XD_g, XGD_tt, XGD_tf, XGD_ft, XGD_ff, XD_bin, XD_cvI, XD_pick, XD_ext, XD_len, XD_mnmx, XD_mksl, XD_iadL, XD_ld, XD_fad, XD_nil, XWD_some, XVD_same, XVD_k, XO_alloc, XO_st, XD_st, XO_box, XO_mkslo, XD_mkslo, XO_mrk, XD_mrk, mr_0, XO_build, st_0_2, st_0_3, st_l_2, st_l_3, ld_l_2, ld_l_3, ld_r_2, ld_r_3, ld_l_at, Nat.zero_add, bd_nil, bd_2, bd_3, XD_build, XO_fld, XD_fld, XO_cvBS, XD_cvBS, bs_sl, bs_nil, XO_cvSB, XD_cvSB, sb_txt, XO_slL, XD_slL, Option.map_some, Option.map_none, XO_mksl, XO_iadL, XO_ld, XO_fad, ld_rptr, fd_r, fd_p, fd_e, List.drop_zero, List.drop_succ_cons, mkParts_nil, mkParts_cons, mkO_1, mkO_2, mk_agg2, mk_agg3, src_sl, mmO_min, mmO_max, XW_some, XV_some, ln_nil, ln_sl, ln_own, ln_str, cvO_eq, pkO_t, pkO_f, exO_eq, evalO_t, evalO_c, putD_some, putD_none, slot_len, slot_eq, slot_ne, ne_eq, Nat.reduceLT, Nat.reduceEqDiff, not_false_eq_true, not_true_eq_false, reduceCtorEq, XO_nil, RQ_0, RQ_0n, RQ_1, RQ_2, RQ_3, K_norm, K_exit, K_goto, K_ret, K_pan, B_norm, B_exit, B_goto, B_ret, B_pan, S_norm, S_exit, S_ret, S_pan, X_cnd, XB_true, XB_false, bin_add, bin_sub, bin_mul, bin_and, bin_or, bin_shr, bin_shl, bin_quo, bin_rem, Int.reduceLT, Int.reduceEq, bin_eql, bin_neq, bin_lss, bin_leq, bin_gtr, bin_geq, bin_seql, bin_sneq, decide_true, decide_false, eq_self, if_true, if_false, List.getElem?_cons_zero, List.getElem?_cons_succ]
            exact short s' hs' e
          · simp only [X_skip, X_seq, X_reg, X_block, X_scope, X_exit, X_goto, X_ret, X_label, XO_mv, XO_g, XG_tt, XG_tf, XG_ft, XG_ff, XO_bin, XO_cvI, XO_pick, XO_ext, XO_len, XO_mnmx, XD_mv, XD_g, XGD_tt, XGD_tf, XGD_ft, XGD_ff, XD_bin, XD_cvI, XD_pick, XD_ext, XD_len, XD_mnmx, XD_mksl, XD_iadL, XD_ld, XD_fad, XD_nil, XWD_some, XVD_same, XVD_k, XO_alloc, XO_st, XD_st, XO_box, XO_mkslo, XD_mkslo, XO_mrk, XD_mrk, mr_0, XO_build, st_0_2, st_0_3, st_l_2, st_l_3, ld_l_2, ld_l_3, ld_r_2, ld_r_3, ld_l_at, Nat.zero_add, bd_nil, bd_2, bd_3, XD_build, XO_fld, XD_fld, XO_cvBS, XD_cvBS, bs_sl, bs_nil, XO_cvSB, XD_cvSB, sb_txt, XO_slL, XD_slL, Option.map_some, Option.map_none, XO_mksl, XO_iadL, XO_ld, XO_fad, ld_rptr, fd_r, fd_p, fd_e, List.drop_zero, List.drop_succ_cons, mkParts_nil, mkParts_cons, mkO_1, mkO_2, mk_agg2, mk_agg3, src_sl, mmO_min, mmO_max, XW_some, XV_some, ln_nil, ln_sl, ln_own, ln_str, cvO_eq, pkO_t, pkO_f, exO_eq, evalO_t, evalO_c, putD_some, putD_none, slot_len, slot_eq, slot_ne, ne_eq, Nat.reduceLT, Nat.reduceEqDiff, not_false_eq_true, not_true_eq_false, reduceCtorEq, XO_nil, RQ_0, RQ_0n, RQ_1, RQ_2, RQ_3, K_norm, K_exit, K_goto, K_ret, K_pan, B_norm, B_exit, B_goto, B_ret, B_pan, S_norm, S_exit, S_ret, S_pan, X_cnd, XB_true, XB_false, bin_add, bin_sub, bin_mul, bin_and, bin_or, bin_shr, bin_shl, bin_quo, bin_rem, Int.reduceLT, Int.reduceEq, bin_eql, bin_neq, bin_lss, bin_leq, bin_gtr, bin_geq, bin_seql, bin_sneq, decide_true, decide_false, eq_self, if_true, if_false, List.getElem?_cons_zero, List.getElem?_cons_succ, hs', e, a1, a2, a3]
            exact ⟨rfl, rfl⟩

end Go.V06


set_option linter.unusedSimpArgs false
namespace Go.V06
open Go Go.Vm

theorem getN_bound : ∀ k r at_ i n, (getN k r at_ i n).1 ≤ 9007199254740992 ∧ ((getN k r at_ i n).2.2 = 0 → at_ + i < (getN k r at_ i n).2.1 ∧ (getN k r at_ i n).2.1 ≤ at_ + i + r.length) ∧ (getN k r at_ i n).2.2 ≤ 11
  | 0, _, _, _, _ => by simp [getN]
  | k + 1, [], _, _, _ => by simp [getN]
  | k + 1, c :: r, at_, i, n => by
    simp only [getN, List.length_cons]
    split
    · split
      · simp
      · refine ⟨by simp only; omega, fun _ => ⟨by simp only; omega, by simp only; omega⟩, by simp⟩
    · have := getN_bound k r at_ (i + 1) (n + c.toNat % 128 * 128 ^ i)
      refine ⟨this.1, fun e => ?_, this.2.2⟩
      have := this.2.1 e
      omega

theorem getNum_bound (b : List UInt8) (a : Int) : (getNum b a).1 ≤ 9007199254740992 ∧ ((getNum b a).2.2 = 0 → 0 ≤ a ∧ a < ((getNum b a).2.1 : Int) ∧ (getNum b a).2.1 ≤ b.length) ∧ (getNum b a).2.2 ≤ 11 := by
  unfold getNum
  split
  · simp
  · have := getN_bound 8 (b.drop a.toNat) a.toNat 0 0
    refine ⟨this.1, fun e => ?_, this.2.2⟩
    have := this.2.1 e
    rw [List.length_drop] at this
    omega

/-- A text, from its bytes. -/
def getText (b : List UInt8) (a most : Int) : List UInt8 × Nat × Nat :=
  if (getNum b a).2.2 ≠ 0 then ([], 0, (getNum b a).2.2) else
  if most < ((getNum b a).1 : Int) then ([], 0, 3) else
  if (b.length : Int) - ((getNum b a).2.1 : Int) < ((getNum b a).1 : Int) then ([], 0, 10) else
  ((b.drop (getNum b a).2.1).take (getNum b a).1, (getNum b a).2.1 + (getNum b a).1, 0)

theorem text_f46 (b : List UInt8) (v : VV) (hv : SlV 1 (eB b) v) (a most : Int) (h : Heap) (hb : b.length ≤ 1000000000) :
    call F 46 [v, vi .i64 a, vi .i64 most] h = some (.ret (.tup [txt (getText b a most).1, vi .i64 (getText b a most).2.1, vi .u16 (getText b a most).2.2]), h) := by
  refine call_P (fn := f46) rfl ?_
  simp only [f46]
  generalize hs0 : ([v, vi .i64 a, vi .i64 most] ++ List.replicate _ VV.undef : List VV) = s
  have hs : s.length = 44 := by rw [← hs0]; rfl
  have h0 : s.getD 0 .undef = v := by rw [← hs0]; rfl
  have h1 : s.getD 1 .undef = vi .i64 a := by rw [← hs0]; rfl
  have h2 : s.getD 2 .undef = vi .i64 most := by rw [← hs0]; rfl
  clear hs0
  simp only [go_sem, Nat.reduceLT, Nat.reduceEqDiff, reduceCtorEq, Int.reduceLT, Int.reduceEq, hs, h0, h1, h2]
  refine XO_callP (by simp only [List.map, go_sem, Nat.reduceLT, Nat.reduceEqDiff, reduceCtorEq, Int.reduceLT, Int.reduceEq, hs]; exact hv.clos (clos_cv clos_nil)) (num_f47 b v hv a [] hb) rfl ?_
  have hbd := getNum_bound b a
  unfold getText
  generalize getNum b a = x at hbd ⊢
  obtain ⟨n, j, e⟩ := x
  simp only [go_sem, Nat.reduceLT, Nat.reduceEqDiff, reduceCtorEq, Int.reduceLT, Int.reduceEq, hs, h0, h1, h2] at hbd ⊢
  by_cases c1 : (e : Int) = 0
  · have c1' : e = 0 := by omega
    subst c1'
    have hb1 := hbd.2.1 rfl
    have e1 : IntKind.i64.wrap ((b.length : Int) - (j : Int)) = (b.length : Int) - (j : Int) := IntWalk.i64_in _ (by omega)
    by_cases c2 : most < (n : Int)
    · simp only [go_sem, Nat.reduceLT, Nat.reduceEqDiff, reduceCtorEq, Int.reduceLT, Int.reduceEq, hs, h0, h1, h2, eq_true c1, c2]
      exact Is.refl _ _
    · by_cases c3 : (b.length : Int) - (j : Int) < (n : Int)
      · simp only [go_sem, Nat.reduceLT, Nat.reduceEqDiff, reduceCtorEq, Int.reduceLT, Int.reduceEq, hs, h0, h1, h2, eq_true c1, c2, eB_len, hv.ln, e1, c3]
        exact Is.refl _ _
      · have e2 : IntKind.i64.wrap ((j : Int) + (n : Int)) = ((j + n : Nat) : Int) := by rw [IntWalk.i64_in _ (by omega)]; omega
        simp only [go_sem, Nat.reduceLT, Nat.reduceEqDiff, reduceCtorEq, Int.reduceLT, Int.reduceEq, hs, h0, h1, h2, eq_true c1, c2, eB_len, hv.ln, e1, e2, c3]
        obtain ⟨v', hv', e3⟩ := hv.part (h := h) (k := .i64) (k' := .i64) (a := (j : Int)) (b := ((j + n : Nat) : Int)) (by omega) (by omega) (by rw [eB_len]; omega)
        rw [eB_part] at hv'
        have e4 : (((j + n : Nat) : Int).toNat - (j : Int).toNat) = n := by omega
        rw [e4] at hv'
        rw [e3]
        simp only [go_sem, Nat.reduceLT, Nat.reduceEqDiff, reduceCtorEq, Int.reduceLT, Int.reduceEq, hs, e2, hv'.bs]
        exact Is.refl _ _
  · have c1' : ¬ e = 0 := by omega
    simp only [go_sem, Nat.reduceLT, Nat.reduceEqDiff, reduceCtorEq, Int.reduceLT, Int.reduceEq, hs, h0, h1, h2, c1, c1']
    exact Is.refl _ _

def row0 : List CV := [.sc (.string ⟨#[]⟩), .sc (.slice none 0 0)]
def rowC (k v : List UInt8) : List CV := [.sc (.string ⟨k.toArray⟩), .sl 1 (eB v) false]

/-- A row, from its bytes. -/
def getRow (b : List UInt8) (a : Int) : List CV × Nat × Nat :=
  if (getText b a 30).2.2 ≠ 0 then (row0, 0, (getText b a 30).2.2) else
  (rowC (getText b a 30).1 (getText b (getText b a 30).2.1 150).1, (getText b (getText b a 30).2.1 150).2.1, (getText b (getText b a 30).2.1 150).2.2)

theorem clos_tup3 {h : Heap} {c1 c2 c3 : CV} : closRes h (.tup [.cv c1, .cv c2, .cv c3]) = some (.tup [.cv c1, .cv c2, .cv c3]) := rfl

def ValIs (v : VV) (v' : VV) (_ : Heap) : Prop := v' = v

end Go.V06


set_option linter.unusedSimpArgs false
namespace Go.V06
open Go Go.Vm

/-- So many, each by 'get'. -/
def wholeF (get : Int → List CV × Nat × Nat) : Nat → Nat → List (List CV) → List (List CV) × Nat × Nat
  | 0, a, out => (out, a, 0)
  | n + 1, a, out => if (get a).2.2 ≠ 0 then (out, (get a).2.1, (get a).2.2) else wholeF get n (get a).2.1 (out ++ [(get a).1])

/-- What there is of all bytes: the elements; the error. -/
def wholeB (get : Int → List CV × Nat × Nat) (b : List UInt8) : List (List CV) × Nat :=
  let x := getNum b 0
  if x.2.2 ≠ 0 then ([], x.2.2) else
  if 5000 < x.1 then ([], 3) else
  let y := wholeF get x.1 x.2.1 []
  if y.2.2 ≠ 0 then ([], y.2.2) else
  if y.2.1 < b.length then ([], 11) else (y.1, 0)

theorem getRow_two (b : List UInt8) (a : Int) : ∃ u w, (getRow b a).1 = [u, w] := by
  unfold getRow
  split
  · exact ⟨_, _, rfl⟩
  · exact ⟨_, _, rfl⟩

theorem clos_row {h : Heap} {u w c1 c2 : CV} : closRes h (.tup [.agg [.cv u, .cv w], .cv c1, .cv c2]) = some (.tup [.agg [.cv u, .cv w], .cv c1, .cv c2]) := rfl

theorem clos_slV {h : Heap} {z : Nat} {els : List (List CV)} {v : VV} {c : CV} (hb : BufG h z els v) : closRes h (.tup [v, .cv c]) = some (.tup [slV z els, .cv c]) := by
  obtain ⟨h1, e⟩ := hb.slV
  simp only [closRes, closAs, e]
  rfl

end Go.V06


set_option linter.unusedSimpArgs false
namespace Go.V06
open Go Go.Vm

/-- An element that is a row. -/
def rowE (e : List CV) (p : List UInt8 × List UInt8) : Prop := ∃ c, e = [.sc (.string ⟨p.1.toArray⟩), c] ∧ SlV 1 (eB p.2) (.cv c)
inductive RowsE : List (List CV) → List (List UInt8 × List UInt8) → Prop
  | nil : RowsE [] []
  | cons {e : List CV} {p : List UInt8 × List UInt8} {l : List (List CV)} {k : List (List UInt8 × List UInt8)} (h : rowE e p) (t : RowsE l k) : RowsE (e :: l) (p :: k)
theorem RowsE.len {l : List (List CV)} {k : List (List UInt8 × List UInt8)} (h : RowsE l k) : l.length = k.length := by
  induction h with
  | nil => rfl
  | cons _ _ ih => simp [ih]

def rowB (p : List UInt8 × List UInt8) : List UInt8 := text p.1 ++ text p.2
def rowsB (kv : List (List UInt8 × List UInt8)) : List UInt8 := num (clamp kv.length) ++ (kv.map rowB).flatten

theorem numF_ne (k n : Nat) : numF k n ≠ [] := by
  cases k with
  | zero => simp [numF]
  | succ k => simp only [numF]; split <;> simp
theorem text_ne (l : List UInt8) : eB (text l) ≠ [] := by
  unfold text num
  simp [eB, numF_ne]
theorem text_len (l : List UInt8) : l.length ≤ (text l).length := by simp [text]

theorem text_pure (l : List UInt8) (hl : l.length ≤ 1000000000) : ∃ v h', call F 50 [txt l] [] = some (.ret v, h') ∧ closRes h' v = some (.cv (.sl 1 (eB (text l)) false)) := by
  obtain ⟨v, h', h1, h2⟩ := text_f50 l [] hl
  exact ⟨v, h', h1, h2.res (text_ne l)⟩
theorem num_pure (n : Int) : ∃ v h', call F 33 [vi .i64 n] [] = some (.ret v, h') ∧ closRes h' v = some (.cv (.sl 1 (eB (num (clamp n))) false)) := by
  obtain ⟨v, h', h1, h2⟩ := num_f33 n []
  refine ⟨v, h', h1, h2.res ?_⟩
  unfold num
  simp [eB, numF_ne]

end Go.V06


set_option linter.unusedSimpArgs false
namespace Go.V06
open Go Go.Vm

theorem whole_known : wholeB (getRow [1, 1, 97, 1, 49]) [1, 1, 97, 1, 49] = ([rowC [97] [49]], 0) := by rfl
theorem num_known : getNum [128, 0] 0 = (0, 0, 11) := by rfl

end Go.V06


set_option linter.unusedSimpArgs false
namespace Go.V06
open Go Go.Vm

/-! ### numbers' bytes -/

theorem u8_toNat (n : Nat) (h : n < 256) : (u8 n).toNat = n := by
  unfold u8
  rw [UInt8.toNat_ofNat']
  exact Nat.mod_eq_of_lt h
theorem u8_inj {a b : Nat} (ha : a < 256) (hb : b < 256) (h : u8 a = u8 b) : a = b := by
  have := congrArg UInt8.toNat h
  rwa [u8_toNat a ha, u8_toNat b hb] at this

theorem numF_inj : ∀ k a b, a < 128 ^ (k + 1) → b < 128 ^ (k + 1) → numF k a = numF k b → a = b
  | 0, a, b, ha, hb, h => by
    simp only [numF, List.cons.injEq, and_true] at h
    exact u8_inj (by omega) (by omega) h
  | k + 1, a, b, ha, hb, h => by
    rw [Nat.pow_succ] at ha hb
    simp only [numF] at h
    by_cases h1 : 127 < a
    · by_cases h2 : 127 < b
      · rw [if_pos h1, if_pos h2, List.cons.injEq] at h
        have e1 := u8_inj (by omega) (by omega) h.1
        have e2 := numF_inj k _ _ (by omega) (by omega) h.2
        omega
      · rw [if_pos h1, if_neg h2, List.cons.injEq] at h
        have e1 := u8_inj (by omega) (by omega) h.1
        omega
    · by_cases h2 : 127 < b
      · rw [if_neg h1, if_pos h2, List.cons.injEq] at h
        have e1 := u8_inj (by omega) (by omega) h.1
        omega
      · rw [if_neg h1, if_neg h2, List.cons.injEq] at h
        exact u8_inj (by omega) (by omega) h.1

theorem numF_mono : ∀ k a b, a ≤ b → (numF k a).length ≤ (numF k b).length
  | 0, a, b, h => by simp [numF]
  | k + 1, a, b, h => by
    simp only [numF]
    by_cases h1 : 127 < a
    · rw [if_pos h1, if_pos (by omega)]
      simp only [List.length_cons]
      have := numF_mono k (a / 128) (b / 128) (by omega)
      omega
    · rw [if_neg h1]
      split <;> simp

theorem numF_len : ∀ k j n, n < 128 ^ (j + 1) → (numF k n).length ≤ j + 1
  | 0, j, n, h => by simp [numF]
  | k + 1, 0, n, h => by
    have : ¬ 127 < n := by omega
    simp only [numF, if_neg this]
    simp
  | k + 1, j + 1, n, h => by
    rw [Nat.pow_succ] at h
    simp only [numF]
    split
    · have := numF_len k j (n / 128) (by omega)
      simp only [List.length_cons]; omega
    · simp

theorem clamp_le (n : Int) : clamp n ≤ 9007199254740992 := by unfold clamp; omega
theorem clamp_of (n : Nat) (h : n ≤ 9007199254740992) : clamp n = n := by unfold clamp; omega
theorem pow9 : (128 : Nat) ^ (8 + 1) = 9223372036854775808 := by decide
theorem pow8 : (128 : Nat) ^ (7 + 1) = 72057594037927936 := by decide
theorem num_len (n : Int) : (num (clamp n)).length ≤ 8 := numF_len 8 7 _ (by rw [pow8]; have := clamp_le n; omega)
theorem num_eq {a b : Nat} (ha : a ≤ 9007199254740992) (hb : b ≤ 9007199254740992) : num a = num b ↔ a = b :=
  ⟨numF_inj 8 a b (by rw [pow9]; omega) (by rw [pow9]; omega), fun h => by rw [h]⟩

end Go.V06


namespace Go.V06
open Go Go.Vm

end Go.V06


set_option linter.unusedSimpArgs false
namespace Go.V06
open Go Go.Vm

/-! ### a number's bytes, and the way back -/

theorem getN_numF : ∀ j k n r at_ i acc, n < 128 ^ (j + 1) → (numF j n).length ≤ k → (0 < n ∨ i = 0) → acc + n * 128 ^ i ≤ 9007199254740992 →
    getN k (numF j n ++ r) at_ i acc = (acc + n * 128 ^ i, at_ + i + (numF j n).length, 0)
  | 0, 0, n, r, at_, i, acc, hn, hk, h0, hm => by simp [numF] at hk
  | 0, k + 1, n, r, at_, i, acc, hn, hk, h0, hm => by
    have hn' : n < 128 := by omega
    simp only [numF, List.cons_append, List.nil_append, getN, u8_toNat n (by omega), Nat.mod_eq_of_lt hn', hn', if_true]
    rw [if_neg (by omega)]
    rfl
  | j + 1, 0, n, r, at_, i, acc, hn, hk, h0, hm => by
    simp only [numF] at hk
    split at hk <;> simp at hk
  | j + 1, k + 1, n, r, at_, i, acc, hn, hk, h0, hm => by
    rw [Nat.pow_succ] at hn
    simp only [numF] at hk ⊢
    by_cases h : 127 < n
    · rw [if_pos h] at hk ⊢
      simp only [List.length_cons] at hk ⊢
      have e : acc + n % 128 * 128 ^ i + n / 128 * 128 ^ (i + 1) = acc + n * 128 ^ i := by
        have : n * 128 ^ i = (n % 128 + 128 * (n / 128)) * 128 ^ i := by rw [Nat.mod_add_div]
        rw [this, Nat.add_mul, Nat.pow_succ, Nat.add_assoc]
        congr 2
        rw [Nat.mul_comm (128 ^ i) 128, ← Nat.mul_assoc, Nat.mul_comm 128 (n / 128)]
      simp only [List.cons_append, getN, u8_toNat (128 + n % 128) (by omega)]
      rw [if_neg (by omega), show (128 + n % 128) % 128 = n % 128 by omega]
      rw [getN_numF j k (n / 128) r at_ (i + 1) (acc + n % 128 * 128 ^ i) (by omega) (by omega) (.inl (by omega)) (by rw [e]; exact hm), e]
      rw [show at_ + (i + 1) + (numF j (n / 128)).length = at_ + i + ((numF j (n / 128)).length + 1) by omega]
    · rw [if_neg h]
      have hn' : n < 128 := by omega
      simp only [List.cons_append, List.nil_append, getN, u8_toNat n (by omega), Nat.mod_eq_of_lt hn', hn', if_true]
      rw [if_neg (by omega)]
      rfl

/-- A number, wherever it stands. -/
theorem getNum_num (a r : List UInt8) (n : Nat) (h : n ≤ 9007199254740992) : getNum (a ++ num n ++ r) a.length = (n, a.length + (num n).length, 0) := by
  have hl := num_len n
  rw [clamp_of n h] at hl
  unfold getNum
  rw [if_neg (by simp only [List.length_append]; omega)]
  have : ((a.length : Int)).toNat = a.length := rfl
  rw [this, List.append_assoc, List.drop_left]
  unfold num at hl ⊢
  rw [getN_numF 8 8 n r a.length 0 0 (by rw [pow9]; omega) hl (.inr rfl) (by omega)]
  simp

theorem getN_short : ∀ (l : List UInt8) (k at_ i acc : Nat), (∀ c ∈ l, 128 ≤ c.toNat) → l.length < k → getN k l at_ i acc = (0, 0, 10)
  | _, 0, _, _, _, _, h => by simp at h
  | [], k + 1, _, _, _, _, _ => rfl
  | c :: r, k + 1, at_, i, acc, hc, h => by
    have h1 := hc c (by simp)
    simp only [getN]
    rw [if_neg (by omega)]
    exact getN_short r k _ _ _ (fun d hd => hc d (by simp [hd])) (by simpa using h)

theorem getN_zero : ∀ (l : List UInt8) (k at_ i acc : Nat), (∀ c ∈ l, 128 ≤ c.toNat) → l.length ≤ k → 0 < i + l.length → getN k (l ++ [0]) at_ i acc = (0, 0, 11)
  | [], 0, _, _, _, _, _, _ => rfl
  | c :: r, 0, _, _, _, _, h, _ => by simp at h
  | [], k + 1, at_, i, acc, _, _, hi => by
    have : 0 < i := by simpa using hi
    simp [getN, this]
  | c :: r, k + 1, at_, i, acc, hc, h, _ => by
    have h1 := hc c (by simp)
    simp only [List.cons_append, getN]
    rw [if_neg (by omega)]
    exact getN_zero r k _ _ _ (fun d hd => hc d (by simp [hd])) (by simpa using h) (by omega)

theorem numF_last : ∀ k n, n < 128 ^ (k + 1) → ∃ l c, numF k n = l ++ [u8 c] ∧ c < 128 ∧ ∀ d ∈ l, 128 ≤ d.toNat
  | 0, n, h => ⟨[], n, rfl, by omega, by simp⟩
  | k + 1, n, h => by
    rw [Nat.pow_succ] at h
    simp only [numF]
    split
    · obtain ⟨l, c, e, hc, hl⟩ := numF_last k (n / 128) (by omega)
      refine ⟨u8 (128 + n % 128) :: l, c, by rw [e]; rfl, hc, fun d hd => ?_⟩
      rcases List.mem_cons.1 hd with rfl | hd
      · rw [u8_toNat _ (by omega)]; omega
      · exact hl d hd
    · exact ⟨[], n, rfl, by omega, by simp⟩

theorem num_last (n : Int) : ∃ l c, num (clamp n) = l ++ [u8 c] ∧ c < 128 ∧ ∀ d ∈ l, 128 ≤ d.toNat :=
  numF_last 8 _ (by rw [pow9]; have := clamp_le n; omega)

theorem getNum_short {l : List UInt8} (h : ∀ c ∈ l, 128 ≤ c.toNat) (hl : l.length < 8) : getNum l 0 = (0, 0, 10) := by
  unfold getNum
  rw [if_neg (by omega)]
  exact getN_short _ _ _ _ _ (by simpa using h) (by simpa using hl)
theorem getNum_zero {l : List UInt8} (h : ∀ c ∈ l, 128 ≤ c.toNat) (hl : l.length ≤ 8) (h0 : l ≠ []) : getNum (l ++ [0]) 0 = (0, 0, 11) := by
  unfold getNum
  rw [if_neg (by simp; omega)]
  have : 0 < l.length := List.length_pos_iff.2 h0
  exact getN_zero l 8 _ _ _ h hl (by omega)

/-- A text, wherever it stands. -/
theorem getText_text (a r l : List UInt8) (most : Int) (hl : l.length ≤ 1000000000) : getText (a ++ text l ++ r) a.length most = if most < (l.length : Int) then ([], 0, 3) else (l, a.length + (text l).length, 0) := by
  have h1 : clamp (l.length : Int) = l.length := clamp_of _ (by omega)
  have e : getNum (a ++ text l ++ r) a.length = (l.length, a.length + (num l.length).length, 0) := by
    unfold text
    rw [h1]
    have := getNum_num a (l ++ r) l.length (by omega)
    simpa [List.append_assoc] using this
  unfold getText
  rw [e]
  simp only [ne_eq, not_true_eq_false, if_false]
  split
  · rfl
  · have hb : ((a ++ text l ++ r).length : Int) - ((a.length + (num l.length).length : Nat) : Int) = ((l.length + r.length : Nat) : Int) := by
      unfold text
      rw [h1]
      simp only [List.length_append]
      omega
    rw [if_neg (by rw [hb]; omega)]
    congr 1
    · unfold text
      rw [h1]
      have : a ++ (num l.length ++ l) ++ r = (a ++ num l.length) ++ (l ++ r) := by simp
      rw [this, show a.length + (num l.length).length = (a ++ num l.length).length by simp, List.drop_left, List.take_left]
    · congr 1
      unfold text
      rw [h1]
      simp only [List.length_append]; omega

theorem getText_cut (l : List UInt8) (hl : l.length ≤ 200) : (getText ((text l).take ((text l).length - 1)) 0 1000).2.2 = 10 := by
  have h1 : clamp (l.length : Int) = l.length := clamp_of _ (by omega)
  by_cases h0 : l = []
  · subst h0; rfl
  · have hp : 0 < l.length := List.length_pos_iff.2 h0
    have e1 : (text l).take ((text l).length - 1) = num l.length ++ l.take (l.length - 1) := by
      unfold text
      rw [h1, List.length_append, List.take_append, List.take_of_length_le (by omega)]
      congr 2
      omega
    have e2 : getNum ((text l).take ((text l).length - 1)) 0 = (l.length, (num l.length).length, 0) := by
      rw [e1]
      have := getNum_num [] (l.take (l.length - 1)) l.length (by omega)
      simpa using this
    unfold getText
    rw [e2]
    simp only [ne_eq, not_true_eq_false, if_false]
    rw [if_neg (by omega), if_pos]
    rw [e1]
    simp only [List.length_append, List.length_take]
    omega

end Go.V06


set_option linter.unusedSimpArgs false
namespace Go.V06
open Go Go.Vm

theorem eB_ne {l : List UInt8} : eB l ≠ [] ↔ l ≠ [] := by cases l <;> simp [eB]
theorem eB_take {l : List UInt8} {n : Nat} : (eB l).take n = eB (l.take n) := by simp [eB, List.map_take]
theorem eB_drop {l : List UInt8} {n : Nat} : (eB l).drop n = eB (l.drop n) := by simp [eB, List.map_drop]
theorem num_ne (n : Nat) : num n ≠ [] := numF_ne 8 n
theorem wrap_pred {n : Nat} (h : 0 < n) (h2 : n ≤ 1000000000) : IntKind.i64.wrap ((n : Int) - 1) = ((n - 1 : Nat) : Int) := by
  rw [IntWalk.i64_in _ (by omega)]; omega

end Go.V06


set_option linter.unusedSimpArgs false
namespace Go.V06
open Go Go.Vm

/-! ### rows of choices -/

def rowK (x : UInt8) : List UInt8 := [u8 (97 + x.toNat % 16), u8 (97 + x.toNat / 16 % 4)]
def valF (y : UInt8) (n : Nat) : List UInt8 := (List.range n).map fun j => u8 ((y.toNat + j) % 256)
def rowV (x y : UInt8) : List UInt8 := valF y (if 230 < x.toNat then 100 + y.toNat % 50 else y.toNat % 40)
def rowL : Nat → List UInt8 → List (List UInt8 × List UInt8)
  | n + 1, x :: y :: r => (rowK x, rowV x y) :: rowL n r
  | _, _ => []

theorem valF_len (y : UInt8) (n : Nat) : (valF y n).length = n := by simp [valF]
theorem rowV_len (x y : UInt8) : (rowV x y).length ≤ 149 := by
  unfold rowV
  rw [valF_len]
  split <;> omega
theorem rowL_len : ∀ n c, (rowL n c).length ≤ n
  | 0, _ => by simp [rowL]
  | n + 1, [] => by simp [rowL]
  | n + 1, [_] => by simp [rowL]
  | n + 1, x :: y :: r => by simp only [rowL, List.length_cons]; have := rowL_len n r; omega

theorem wrap_u8_nat (n : Nat) : IntKind.u8.wrap (n : Int) = ((n % 256 : Nat) : Int) := by
  rw [IntKind.wrap_u8]; omega

theorem f11_fill (c : List UInt8) (vc : VV) (hc : SlV 1 (eB c) vc) (i : Nat) (y : UInt8) (hy : c[i + 1]? = some y) (hi : i ≤ 200) (h0 : Heap) : ∀ (d k : Nat) (vl : List UInt8) (s : List VV) (Q : Pst),
    vl.length = k + d → vl.length ≤ 200 → (∀ j, j < k → vl[j]? = some (u8 ((y.toNat + j) % 256))) → s.length = 82 → s.getD 0 .undef = vc → s.getD 6 .undef = vi .i64 i → s.getD 7 .undef = .own h0.length 0 0 vl.length true → s.getD 8 .undef = vi .i64 k →
    (∀ s', s'.length = 82 → (∀ j, j < 8 → s'.getD j .undef = s.getD j .undef) → Q (.exit 2) ⟨s', h0 ++ [.arr 1 (eB (valF y vl.length)) 0 false]⟩) →
    X F (.loop f11_0) ⟨s, h0 ++ [.arr 1 (eB vl) 0 false]⟩ Q := by
  intro d
  induction d with
  | zero =>
    intro k vl s Q hl hl2 hv hs h_0 h6 h7 h8 hQ
    rw [X_loop, X_eq f11_0.eq_1]
    have hlt : ¬ (k : Int) < (vl.length : Int) := by omega
    simp only [go_sem, Nat.reduceLT, Nat.reduceEqDiff, reduceCtorEq, Int.reduceLT, Int.reduceEq, hs, h7, h8, hlt]
    have e : vl = valF y vl.length := by
      apply List.ext_getElem?
      intro j
      by_cases hj : j < k
      · rw [hv j hj]
        unfold valF
        rw [List.getElem?_map, List.getElem?_range (by omega)]
        rfl
      · rw [List.getElem?_eq_none (by omega), List.getElem?_eq_none (by rw [valF_len]; omega)]
    rw [← e] at hQ
    refine hQ _ (by simp only [slot_len, hs]) (fun j hj => ?_)
    have : ∀ m, 8 ≤ m → m ≠ j := by omega
    rw [slot_ne (this _ (by decide)), slot_ne (this _ (by decide)), slot_ne (this _ (by decide)), slot_ne (this _ (by decide))]
  | succ d ih =>
    intro k vl s Q hl hl2 hv hs h_0 h6 h7 h8 hQ
    rw [X_loop, X_eq f11_0.eq_1]
    have hlt : (k : Int) < (vl.length : Int) := by omega
    have e1 : IntKind.i64.wrap ((i : Int) + 1) = ((i + 1 : Nat) : Int) := by rw [IntWalk.i64_in _ (by omega)]; omega
    have e2 : IntKind.i64.wrap ((k : Int) + 1) = ((k + 1 : Nat) : Int) := by rw [IntWalk.i64_in _ (by omega)]; omega
    simp only [go_sem, Nat.reduceLT, Nat.reduceEqDiff, reduceCtorEq, Int.reduceLT, Int.reduceEq, hs, h_0, h6, h7, h8, hlt, e1, e2]
    rw [hc.ia (e := byteCell y) (by omega) (by exact eB_get hy)]
    have e3 : IntKind.u8.wrap ((y.toNat : Int) + IntKind.u8.wrap (k : Int)) = (((u8 ((y.toNat + k) % 256)).toNat : Nat) : Int) := by
      rw [u8_toNat _ (by omega), wrap_u8_nat, ← Int.natCast_add, wrap_u8_nat]; omega
    simp only [go_sem, Nat.reduceLT, Nat.reduceEqDiff, reduceCtorEq, Int.reduceLT, Int.reduceEq, hs, h_0, h6, h7, h8, byteCell, e3]
    rw [ia_last (by omega)]
    simp only [go_sem, Nat.reduceLT, Nat.reduceEqDiff, reduceCtorEq, Int.reduceLT, Int.reduceEq, hs, h_0, h6, h7, h8, byteCell, e3]
    rw [st_last (by omega)]
    simp only [go_sem, Nat.reduceLT, Nat.reduceEqDiff, reduceCtorEq, Int.reduceLT, Int.reduceEq, hs, h_0, h6, h7, h8, e2]
    have hl3 : (vl.set k (u8 ((y.toNat + k) % 256))).length = vl.length := List.length_set
    rw [← hl3] at hQ
    refine ih (k + 1) _ _ Q (by rw [hl3]; omega) (by rw [hl3]; omega) ?_ (by simp only [slot_len, hs]) (by simp only [go_sem, Nat.reduceLT, Nat.reduceEqDiff, reduceCtorEq, Int.reduceLT, Int.reduceEq, h_0]) (by simp only [go_sem, Nat.reduceLT, Nat.reduceEqDiff, reduceCtorEq, Int.reduceLT, Int.reduceEq, h6]) (by simp only [go_sem, Nat.reduceLT, Nat.reduceEqDiff, reduceCtorEq, Int.reduceLT, Int.reduceEq, h7, hl3]) (by simp only [go_sem, Nat.reduceLT, Nat.reduceEqDiff, reduceCtorEq, Int.reduceLT, Int.reduceEq, hs]) ?_
    · intro j hj
      by_cases hjk : j = k
      · subst hjk
        rw [List.getElem?_set_self (by omega)]
      · rw [List.getElem?_set_ne (by omega)]
        exact hv j (by omega)
    · intro s' hs' hj'
      refine hQ s' hs' (fun j hj => ?_)
      rw [hj' j hj]
      have : ∀ m, 8 ≤ m → m ≠ j := by omega
      simp only [slot_ne (this _ (by decide : 8 ≤ 44)), slot_ne (this _ (by decide : 8 ≤ 45)), slot_ne (this _ (by decide : 8 ≤ 46)), slot_ne (this _ (by decide : 8 ≤ 47)), slot_ne (this _ (by decide : 8 ≤ 48)), slot_ne (this _ (by decide : 8 ≤ 49)), slot_ne (this _ (by decide : 8 ≤ 50)), slot_ne (this _ (by decide : 8 ≤ 51)),
        slot_ne (this _ (by decide : 8 ≤ 52)), slot_ne (this _ (by decide : 8 ≤ 53)), slot_ne (this _ (by decide : 8 ≤ 54)), slot_ne (this _ (by decide : 8 ≤ 55)), slot_ne (this _ (by decide : 8 ≤ 56)), slot_ne (this _ (by decide : 8 ≤ 57)), slot_ne (this _ (by decide : 8 ≤ 58)), slot_ne (this _ (by decide : 8 ≤ 59)), slot_ne (this _ (by decide : 8 ≤ 60)), slot_ne (this _ (by decide : 8 ≤ 8))]

end Go.V06


set_option linter.unusedSimpArgs false
namespace Go.V06
open Go Go.Vm

theorem RowsE.snoc {l : List (List CV)} {k : List (List UInt8 × List UInt8)} (h : RowsE l k) {e : List CV} {p : List UInt8 × List UInt8} (hp : rowE e p) : RowsE (l ++ [e]) (k ++ [p]) := by
  induction h with
  | nil => exact .cons hp .nil
  | cons h _ ih => exact .cons h ih

theorem bd_co {a b : VV} {u : CV} {i g o l : Nat} {e : Bool} : bdO [a, b] [(0, 1, .cv u), (1, 1, .own i g o l e)] = some (.agg [.cv u, .own i g o l e]) := rfl
theorem mko_agg2_own {hh : Heap} {z0 z1 : VV} {u : CV} {els : List (List CV)} {n : Nat} (hn : els.length = n) :
    mkoO (hh ++ [.arr 1 els 0 false]) 2 1 [z0, z1] [(0, 2, .agg [.cv u, .own hh.length 0 0 n true])] = some (.own (hh ++ [VO.arr 1 els 0 true]).length 0 0 1 true, hh ++ [.arr 1 els 0 true] ++ [.arr 2 [[u, .sl 1 els true]] 0 false]) := by
  have e1 : fill [z0, z1] [(0, 2, .agg [.cv u, .own hh.length 0 0 n true])] = some [.cv u, .own hh.length 0 0 n true] := rfl
  have e2 : closL (hh ++ [.arr 1 els 0 false]) [.cv u, .own hh.length 0 0 n true] = some ([u, .sl 1 els true], hh ++ [.arr 1 els 0 true]) := by
    have e3 : ∀ (h : Heap) (c : CV), clos h (.cv c) = some (c, h) := fun _ _ => rfl
    simp only [closL, e3, clos_last hn]
  simp only [mkoO, e1, e2]
  rfl
theorem src_last2 {hh : Heap} {e : List CV} : srcOf (hh ++ [.arr 2 [e] 0 false]) 2 (.own hh.length 0 0 1 true) = some [e] := by
  simp [srcOf, elsOf]

theorem f11_loop (c : List UInt8) (vc : VV) (hc : SlV 1 (eB c) vc) (n : Nat) (hn : n ≤ 60) : ∀ (m i : Nat) (els : List (List CV)) (kv : List (List UInt8 × List UInt8)) (h : Heap) (v : VV) (s : List VV) (Q : Pst),
    i + 2 * m = 2 * n → els.length + m ≤ n → RowsE els kv → BufG h 2 els v → s.length = 82 → s.getD 0 .undef = vc → s.getD 1 .undef = vi .i64 n → s.getD 5 .undef = v → s.getD 6 .undef = vi .i64 i →
    (∀ s' h' v' els', s'.length = 82 → s'.getD 5 .undef = v' → BufG h' 2 els' v' → RowsE els' (kv ++ rowL m (c.drop i)) → Q (.exit 0) ⟨s', h'⟩) →
    X F (.loop f11_1) ⟨s, h⟩ Q := by
  intro m
  induction m with
  | zero =>
    intro i els kv h v s Q him hel hR hb hs h0 h1 h5 h6 hQ
    rw [X_loop, X_eq f11_1.eq_1]
    have e1 : IntKind.i64.wrap ((i : Int) + 1) = ((i + 1 : Nat) : Int) := by rw [IntWalk.i64_in _ (by omega)]; omega
    have e2 : IntKind.i64.wrap (2 * (n : Int)) = ((2 * n : Nat) : Int) := by rw [IntWalk.i64_in _ (by omega)]; omega
    have hlt : ¬ (i : Int) < ((2 * n : Nat) : Int) := by omega
    have fin : ∀ s', s'.length = 82 → s'.getD 5 .undef = v → Q (.exit 0) ⟨s', h⟩ := by
      intro s' hs' h5'
      refine hQ s' h v els hs' h5' hb ?_
      simp only [rowL, List.append_nil]; exact hR
    by_cases hl : ((i + 1 : Nat) : Int) < (c.length : Int)
    · simp only [go_sem, Nat.reduceLT, Nat.reduceEqDiff, reduceCtorEq, Int.reduceLT, Int.reduceEq, hs, h0, h1, h5, h6, e1, e2, hc.ln, eB_len, hl, hlt]
      exact fin _ (by simp only [slot_len, hs]) (by simp only [go_sem, Nat.reduceLT, Nat.reduceEqDiff, reduceCtorEq, Int.reduceLT, Int.reduceEq, h5])
    · simp only [go_sem, Nat.reduceLT, Nat.reduceEqDiff, reduceCtorEq, Int.reduceLT, Int.reduceEq, hs, h0, h1, h5, h6, e1, e2, hc.ln, eB_len, hl, hlt]
      exact fin _ (by simp only [slot_len, hs]) (by simp only [go_sem, Nat.reduceLT, Nat.reduceEqDiff, reduceCtorEq, Int.reduceLT, Int.reduceEq, h5])
  | succ m ih =>
    intro i els kv h v s Q him hel hR hb hs h0 h1 h5 h6 hQ
    rw [X_loop, X_eq f11_1.eq_1]
    have e1 : IntKind.i64.wrap ((i : Int) + 1) = ((i + 1 : Nat) : Int) := by rw [IntWalk.i64_in _ (by omega)]; omega
    have e2 : IntKind.i64.wrap (2 * (n : Int)) = ((2 * n : Nat) : Int) := by rw [IntWalk.i64_in _ (by omega)]; omega
    have e3 : IntKind.i64.wrap ((i : Int) + 2) = ((i + 2 : Nat) : Int) := by rw [IntWalk.i64_in _ (by omega)]; omega
    have hlt : (i : Int) < ((2 * n : Nat) : Int) := by omega
    by_cases hl : ((i + 1 : Nat) : Int) < (c.length : Int)
    · have hi1 : i + 1 < c.length := by omega
      obtain ⟨x, hx⟩ : ∃ x, c[i]? = some x := ⟨_, List.getElem?_eq_getElem (by omega)⟩
      obtain ⟨y, hy⟩ : ∃ y, c[i + 1]? = some y := ⟨_, List.getElem?_eq_getElem hi1⟩
      have hd : c.drop i = x :: y :: c.drop (i + 2) := by
        rw [List.drop_eq_getElem_cons (by omega), List.drop_eq_getElem_cons (by omega)]
        rw [List.getElem?_eq_getElem (by omega)] at hx hy
        cases hx; cases hy; rfl
      have hx256 := x.toNat_lt
      have hy256 := y.toNat_lt
      simp only [go_sem, Nat.reduceLT, Nat.reduceEqDiff, reduceCtorEq, Int.reduceLT, Int.reduceEq, hs, h0, h1, h5, h6, e1, e2, hc.ln, eB_len, hl, hlt]
      have iy : ∀ h : Heap, iaO h 1 vc (vi .i64 ((i + 1 : Nat) : Int)) = some (.rptr (byteCell y), h) := fun h => hc.ia (by omega) (by exact eB_get hy)
      have ix : ∀ h : Heap, iaO h 1 vc (vi .i64 (i : Int)) = some (.rptr (byteCell x), h) := fun h => hc.ia (by omega) (by exact eB_get hx)
      have m40 : IntKind.i64.wrap ((y.toNat : Int).tmod 40) = ((y.toNat % 40 : Nat) : Int) := by
        rw [Int.tmod_eq_emod_of_nonneg (by omega), IntWalk.i64_in _ (by omega)]; omega
      have m50 : IntKind.i64.wrap (100 + IntKind.i64.wrap ((y.toNat : Int).tmod 50)) = ((100 + y.toNat % 50 : Nat) : Int) := by
        have : IntKind.i64.wrap ((y.toNat : Int).tmod 50) = ((y.toNat % 50 : Nat) : Int) := by
          rw [Int.tmod_eq_emod_of_nonneg (by omega), IntWalk.i64_in _ (by omega)]; omega
        rw [this, IntWalk.i64_in _ (by omega)]; omega
      simp only [go_sem, Nat.reduceLT, Nat.reduceEqDiff, reduceCtorEq, Int.reduceLT, Int.reduceEq, hs, h0, h1, h5, h6, e1, iy, byteCell, m40]
      refine XO_mks (k := .i64) (k' := .i64) (a := y.toNat % 40) (by simp only [go_sem, Nat.reduceLT, Nat.reduceEqDiff, reduceCtorEq, Int.reduceLT, Int.reduceEq, hs]) (by simp only [go_sem, Nat.reduceLT, Nat.reduceEqDiff, reduceCtorEq, Int.reduceLT, Int.reduceEq, hs]) (by omega) (by omega) ?_
      rw [eB_replicate]
      simp only [go_sem, Nat.reduceLT, Nat.reduceEqDiff, reduceCtorEq, Int.reduceLT, Int.reduceEq, hs, h0, h1, h5, h6, e1, ix, byteCell]
      refine XB_cut (fun st => ∃ hh L, st.h = hh ++ [.arr 1 (eB (List.replicate L 0)) 0 false] ∧ BufG hh 2 els v ∧ L = (if 230 < x.toNat then 100 + y.toNat % 50 else y.toNat % 40) ∧ st.s.length = 82 ∧ st.s.getD 0 .undef = vc ∧ st.s.getD 1 .undef = vi .i64 n ∧ st.s.getD 5 .undef = v ∧ st.s.getD 6 .undef = vi .i64 i ∧ st.s.getD 7 .undef = .own hh.length 0 0 L true) (fun hc' => ?_) (fun hc' => ?_) ?_
      · have hgt : 230 < x.toNat := by omega
        simp only [go_sem, Nat.reduceLT, Nat.reduceEqDiff, reduceCtorEq, Int.reduceLT, Int.reduceEq, hs, h0, h1, h5, h6, e1, iy, byteCell, m50]
        refine XO_mks (k := .i64) (k' := .i64) (a := 100 + y.toNat % 50) (by simp only [go_sem, Nat.reduceLT, Nat.reduceEqDiff, reduceCtorEq, Int.reduceLT, Int.reduceEq, hs]) (by simp only [go_sem, Nat.reduceLT, Nat.reduceEqDiff, reduceCtorEq, Int.reduceLT, Int.reduceEq, hs]) (by omega) (by omega) ?_
        rw [eB_replicate]
        simp only [go_sem, Nat.reduceLT, Nat.reduceEqDiff, reduceCtorEq, Int.reduceLT, Int.reduceEq, hs]
        exact ⟨_, _, rfl, hb.push _, by rw [if_pos hgt], by simp only [slot_len, hs], by simp only [go_sem, Nat.reduceLT, Nat.reduceEqDiff, reduceCtorEq, Int.reduceLT, Int.reduceEq, h0], by simp only [go_sem, Nat.reduceLT, Nat.reduceEqDiff, reduceCtorEq, Int.reduceLT, Int.reduceEq, h1], by simp only [go_sem, Nat.reduceLT, Nat.reduceEqDiff, reduceCtorEq, Int.reduceLT, Int.reduceEq, h5], by simp only [go_sem, Nat.reduceLT, Nat.reduceEqDiff, reduceCtorEq, Int.reduceLT, Int.reduceEq, h6], by simp only [go_sem, Nat.reduceLT, Nat.reduceEqDiff, reduceCtorEq, Int.reduceLT, Int.reduceEq, hs]⟩
      · have hgt : ¬ 230 < x.toNat := by omega
        simp only [go_sem, Nat.reduceLT, Nat.reduceEqDiff, reduceCtorEq, Int.reduceLT, Int.reduceEq, hs]
        exact ⟨_, _, rfl, hb, by rw [if_neg hgt], by simp only [slot_len, hs], by simp only [go_sem, Nat.reduceLT, Nat.reduceEqDiff, reduceCtorEq, Int.reduceLT, Int.reduceEq, h0], by simp only [go_sem, Nat.reduceLT, Nat.reduceEqDiff, reduceCtorEq, Int.reduceLT, Int.reduceEq, h1], by simp only [go_sem, Nat.reduceLT, Nat.reduceEqDiff, reduceCtorEq, Int.reduceLT, Int.reduceEq, h5], by simp only [go_sem, Nat.reduceLT, Nat.reduceEqDiff, reduceCtorEq, Int.reduceLT, Int.reduceEq, h6], by simp only [go_sem, Nat.reduceLT, Nat.reduceEqDiff, reduceCtorEq, Int.reduceLT, Int.reduceEq, hs]⟩
      · clear iy ix
        rintro s h' ⟨hh, L, rfl, hb, hL, hs, h0, h1, h5, h6, h7⟩
        simp only at hs h0 h1 h5 h6 h7
        have hL2 : L ≤ 149 := by rw [hL]; split <;> omega
        have hrep : (List.replicate L (0 : UInt8)).length = L := List.length_replicate
        simp only [go_sem, Nat.reduceLT, Nat.reduceEqDiff, reduceCtorEq, Int.reduceLT, Int.reduceEq, hs]
        refine f11_fill c vc hc i y hy (by omega) hh L 0 (List.replicate L 0) _ _ (by rw [hrep]; omega) (by rw [hrep]; omega) (fun j hj => by omega) (by simp only [slot_len, hs]) (by simp only [go_sem, Nat.reduceLT, Nat.reduceEqDiff, reduceCtorEq, Int.reduceLT, Int.reduceEq, h0]) (by simp only [go_sem, Nat.reduceLT, Nat.reduceEqDiff, reduceCtorEq, Int.reduceLT, Int.reduceEq, h6]) (by simp only [go_sem, Nat.reduceLT, Nat.reduceEqDiff, reduceCtorEq, Int.reduceLT, Int.reduceEq, h7, hrep]) (by simp only [go_sem, Nat.reduceLT, Nat.reduceEqDiff, reduceCtorEq, Int.reduceLT, Int.reduceEq, hs]; rfl) ?_
        intro s' hs' hj'
        have h0' : s'.getD 0 .undef = vc := by rw [hj' 0 (by decide)]; simp only [go_sem, Nat.reduceLT, Nat.reduceEqDiff, reduceCtorEq, Int.reduceLT, Int.reduceEq, h0]
        have h1' : s'.getD 1 .undef = vi .i64 n := by rw [hj' 1 (by decide)]; simp only [go_sem, Nat.reduceLT, Nat.reduceEqDiff, reduceCtorEq, Int.reduceLT, Int.reduceEq, h1]
        have h5' : s'.getD 5 .undef = v := by rw [hj' 5 (by decide)]; simp only [go_sem, Nat.reduceLT, Nat.reduceEqDiff, reduceCtorEq, Int.reduceLT, Int.reduceEq, h5]
        have h6' : s'.getD 6 .undef = vi .i64 i := by rw [hj' 6 (by decide)]; simp only [go_sem, Nat.reduceLT, Nat.reduceEqDiff, reduceCtorEq, Int.reduceLT, Int.reduceEq, h6]
        have h7' : s'.getD 7 .undef = .own hh.length 0 0 L true := by rw [hj' 7 (by decide)]; simp only [go_sem, Nat.reduceLT, Nat.reduceEqDiff, reduceCtorEq, Int.reduceLT, Int.reduceEq, h7]
        clear hj'
        rw [hrep]
        have iy : ∀ h : Heap, iaO h 1 vc (vi .i64 ((i + 1 : Nat) : Int)) = some (.rptr (byteCell y), h) := fun h => hc.ia (by omega) (by exact eB_get hy)
        have ix : ∀ h : Heap, iaO h 1 vc (vi .i64 (i : Int)) = some (.rptr (byteCell x), h) := fun h => hc.ia (by omega) (by exact eB_get hx)
        have k1 : IntKind.u8.wrap (97 + (x.toNat : Int).tmod 16) = (((u8 (97 + x.toNat % 16)).toNat : Nat) : Int) := by
          rw [u8_toNat _ (by omega), Int.tmod_eq_emod_of_nonneg (by omega), IntKind.wrap_u8]; omega
        have k2 : IntKind.u8.wrap (97 + (IntKind.u8.wrap ((x.toNat : Int).tdiv 16)).tmod 4) = (((u8 (97 + x.toNat / 16 % 4)).toNat : Nat) : Int) := by
          have : IntKind.u8.wrap ((x.toNat : Int).tdiv 16) = ((x.toNat / 16 : Nat) : Int) := by
            rw [Int.tdiv_eq_ediv_of_nonneg (by omega), IntKind.wrap_u8]; omega
          rw [u8_toNat _ (by omega), this, Int.tmod_eq_emod_of_nonneg (by omega), IntKind.wrap_u8]; omega
        simp only [go_sem, Nat.reduceLT, Nat.reduceEqDiff, reduceCtorEq, Int.reduceLT, Int.reduceEq, B_exit, hs']
        refine X_draw rfl ?_
        simp only [go_sem, Nat.reduceLT, Nat.reduceEqDiff, reduceCtorEq, Int.reduceLT, Int.reduceEq, hs', h0', h5', h6', h7', ix, byteCell, k1, k2]
        rw [show ([[CV.sc (.int .u8 ((u8 (97 + x.toNat % 16)).toNat : Nat))], [CV.sc (.int .u8 ((u8 (97 + x.toNat / 16 % 4)).toNat : Nat))]] : List (List CV)) = eB (rowK x) from rfl]
        simp only [go_sem, Nat.reduceLT, Nat.reduceEqDiff, reduceCtorEq, Int.reduceLT, Int.reduceEq, hs', h0', h5', h6', h7', bd_co]
        rw [mko_agg2_own (by rw [eB_len, valF_len])]
        simp only [go_sem, Nat.reduceLT, Nat.reduceEqDiff, reduceCtorEq, Int.reduceLT, Int.reduceEq, hs', h5']
        refine XD_appG ((hb.push _).push _) (new := [[.sc (.string ⟨(rowK x).toArray⟩), .sl 1 (eB (valF y L)) true]]) (by simp only [go_sem, Nat.reduceLT, Nat.reduceEqDiff, reduceCtorEq, Int.reduceLT, Int.reduceEq, hs']) (by simp only [go_sem, Nat.reduceLT, Nat.reduceEqDiff, reduceCtorEq, Int.reduceLT, Int.reduceEq, hs']; exact src_last2) (by simp only [List.length_singleton]; omega) (by simp only [List.length_singleton]; omega) (fun v' h' hb' _ _ => ?_)
        simp only [go_sem, Nat.reduceLT, Nat.reduceEqDiff, reduceCtorEq, Int.reduceLT, Int.reduceEq, hs', h6', e3]
        refine ih (i + 2) _ (kv ++ [(rowK x, rowV x y)]) h' v' _ Q (by omega) (by simp only [List.length_append, List.length_singleton]; omega) (hR.snoc ⟨_, rfl, ?_⟩) hb' (by simp only [slot_len, hs']) (by simp only [go_sem, Nat.reduceLT, Nat.reduceEqDiff, reduceCtorEq, Int.reduceLT, Int.reduceEq, h0']) (by simp only [go_sem, Nat.reduceLT, Nat.reduceEqDiff, reduceCtorEq, Int.reduceLT, Int.reduceEq, h1']) (by simp only [go_sem, Nat.reduceLT, Nat.reduceEqDiff, reduceCtorEq, Int.reduceLT, Int.reduceEq, hs']) (by simp only [go_sem, Nat.reduceLT, Nat.reduceEqDiff, reduceCtorEq, Int.reduceLT, Int.reduceEq, hs']) ?_
        · unfold rowV
          rw [← hL]
          exact SlV.sl
        · intro s' h' v' els' a1 a2 a3 a4
          refine hQ s' h' v' els' a1 a2 a3 ?_
          rw [hd]
          simp only [rowL]
          rw [List.append_assoc] at a4
          exact a4
    · simp only [go_sem, Nat.reduceLT, Nat.reduceEqDiff, reduceCtorEq, Int.reduceLT, Int.reduceEq, hs, h0, h1, h5, h6, e1, e2, hc.ln, eB_len, hl, hlt]
      refine hQ _ h v els (by simp only [slot_len, hs]) (by simp only [go_sem, Nat.reduceLT, Nat.reduceEqDiff, reduceCtorEq, Int.reduceLT, Int.reduceEq, h5]) hb ?_
      have : rowL (m + 1) (c.drop i) = [] := by
        match hd : c.drop i with
        | [] => rfl
        | [_] => rfl
        | _ :: _ :: _ =>
          have := congrArg List.length hd
          simp only [List.length_drop, List.length_cons] at this
          omega
      rw [this, List.append_nil]; exact hR

/-- Rows of choices. -/
theorem list_f11 (c : List UInt8) (vc : VV) (hc : SlV 1 (eB c) vc) (n : Nat) (hn : n ≤ 60) (h : Heap) : ∃ v h', call F 11 [vc, vi .i64 n] h = some (.ret v, h') ∧ ∃ els, BufG h' 2 els v ∧ RowsE els (rowL n c) := by
  have : ∃ v h', call F 11 [vc, vi .i64 n] h = some (.ret v, h') ∧ (fun v h' => ∃ els, BufG h' 2 els v ∧ RowsE els (rowL n c)) v h' := by
    refine call_E (fn := f11) rfl ?_
    simp only [f11]
    generalize hs0 : ([vc, vi .i64 n] ++ List.replicate _ VV.undef : List VV) = s
    have hs : s.length = 82 := by rw [← hs0]; rfl
    have h0 : s.getD 0 .undef = vc := by rw [← hs0]; rfl
    have h1 : s.getD 1 .undef = vi .i64 n := by rw [← hs0]; rfl
    clear hs0
    simp only [go_sem, Nat.reduceLT, Nat.reduceEqDiff, reduceCtorEq, Int.reduceLT, Int.reduceEq, hs, h0, h1]
    refine f11_loop c vc hc n hn n 0 [] [] h nilS _ _ (by omega) (by simp) .nil (BufG.nil _ _) (by simp only [slot_len, hs]) (by simp only [go_sem, Nat.reduceLT, Nat.reduceEqDiff, reduceCtorEq, Int.reduceLT, Int.reduceEq, h0]) (by simp only [go_sem, Nat.reduceLT, Nat.reduceEqDiff, reduceCtorEq, Int.reduceLT, Int.reduceEq, h1]) (by simp only [go_sem, Nat.reduceLT, Nat.reduceEqDiff, reduceCtorEq, Int.reduceLT, Int.reduceEq, hs]) (by simp only [go_sem, Nat.reduceLT, Nat.reduceEqDiff, reduceCtorEq, Int.reduceLT, Int.reduceEq, hs]; rfl) ?_
    intro s' h' v' els' hs' h5' hb' hR'
    simp only [go_sem, Nat.reduceLT, Nat.reduceEqDiff, reduceCtorEq, Int.reduceLT, Int.reduceEq, hs', h5']
    exact ⟨els', hb', by simpa using hR'⟩
  exact this

theorem list_pure (c : List UInt8) (vc : VV) (hc : SlV 1 (eB c) vc) (n : Nat) (hn : n ≤ 60) : ∃ v h' els, call F 11 [vc, vi .i64 n] [] = some (.ret v, h') ∧ closRes h' v = some (slV 2 els) ∧ RowsE els (rowL n c) := by
  obtain ⟨v, h', h1, els, h2, h3⟩ := list_f11 c vc hc n hn []
  exact ⟨v, h', els, h1, h2.close, h3⟩

end Go.V06


set_option linter.unusedSimpArgs false
namespace Go.V06
open Go Go.Vm

/-! ### bytes, bent -/

def bend1 (b : List UInt8) (a : Nat) (v : UInt8) (how : Nat) : List UInt8 := if how % 3 = 0 then b.set (a % b.length) v else b
def bendL (b : List UInt8) (a : Nat) (v : UInt8) (how : Nat) : List UInt8 :=
  if how % 3 = 1 then b.take (a % (b.length + 1)) else if how % 9 = 2 then b ++ [v] else bend1 b a v how

theorem bufG_upto {h : Heap} {z : Nat} {els : List (List CV)} {v : VV} (hb : BufG h z els v) {k : IntKind} {b : Nat} (h3 : b ≤ els.length) :
    ∃ v', slO h z v none (some (vi k (b : Int))) none = some (v', h) ∧ ∃ w, closRes h v' = some w ∧ SlV z (els.take b) w := by
  rcases hb with ⟨rfl, rfl⟩ | ⟨id, g, hne, rfl, h2⟩
  · have hb : b = 0 := by simpa using h3
    subst hb
    exact ⟨nilS, by simp [slO, stepI, rhoO, lenV, bnd, intV], nilS, rfl, .inl ⟨rfl, by simp⟩⟩
  · have h4 : (b : Int) ≤ (els.length : Int) := by omega
    refine ⟨.own id g 0 b false, ?_, .cv (.sl z (els.take b) false), ?_, .inr ⟨_, rfl⟩⟩
    · simp [slO, stepI, rhoO, lenV, bnd, intV, h2, h4]
    · simp [closRes, closA, clos, h2, h3]

/-- The frame of Bend. -/
structure BendS (a : Nat) (x : UInt8) (w : Nat) (s : List VV) : Prop where
  hs : s.length = 48
  h1 : s.getD 1 .undef = vi .u16 a
  h2 : s.getD 2 .undef = vi .u8 x.toNat
  h3 : s.getD 3 .undef = vi .u8 w

structure BendM (b : List UInt8) (a : Nat) (x : UInt8) (w : Nat) (v : VV) (s : List VV) (h : Heap) : Prop where
  f : BendS a x w s
  h9 : s.getD 9 .undef = v
  hb : BufG h 1 (eB (bend1 b a x w)) v

end Go.V06


set_option linter.unusedSimpArgs false
namespace Go.V06
open Go Go.Vm

/-! ### the document's answer: what is put -/

theorem f41_loop : ∀ (k n : Nat) (out : List UInt8) (s : List VV) (h : Heap) (v : VV) (Q : Pst), n < 128 ^ (k + 1) → n < 9223372036854775808 → out.length + k ≤ 100 → s.length = 24 →
    s.getD 0 .undef = vi .i64 n → s.getD 3 .undef = v → BufG h 1 (eB out) v →
    (∀ (n' : Nat) (out' : List UInt8) s' h' v', s'.length = 24 → s'.getD 0 .undef = vi .i64 n' → n' ≤ 127 → s'.getD 3 .undef = v' → BufG h' 1 (eB out') v' → out' ++ [u8 n'] = out ++ numF k n → Q (.exit 0) ⟨s', h'⟩) →
    X F (.loop f41_0) ⟨s, h⟩ Q := by
  intro k
  induction k with
  | zero =>
    intro n out s h v Q hn hn2 hlen hs h1 h2 hb hQ
    have hlt : ¬ (127 : Int) < (n : Int) := by omega
    rw [X_loop, X_eq f41_0.eq_1]
    simp only [go_sem, Nat.reduceLT, Nat.reduceEqDiff, reduceCtorEq, Int.reduceLT, Int.reduceEq, hs, h1, hlt]
    exact hQ n out _ h v (by simp only [slot_len, hs]) (by simp only [go_sem, Nat.reduceLT, Nat.reduceEqDiff, reduceCtorEq, Int.reduceLT, Int.reduceEq, h1]) (by omega) (by simp only [go_sem, Nat.reduceLT, Nat.reduceEqDiff, reduceCtorEq, Int.reduceLT, Int.reduceEq, h2]) hb rfl
  | succ k ih =>
    intro n out s h v Q hn hn2 hlen hs h1 h2 hb hQ
    rw [X_loop, X_eq f41_0.eq_1]
    by_cases hlt : (127 : Int) < (n : Int)
    · have e0 : (n : Int).tmod 128 = ((n % 128 : Nat) : Int) := rfl
      have e1 : IntKind.u8.wrap (IntKind.i64.wrap (128 + ((n % 128 : Nat) : Int))) = ((128 + n % 128 : Nat) : Int) := by
        rw [IntWalk.i64_in _ (by omega), IntKind.wrap_u8]; omega
      have e2 : IntKind.i64.wrap ((n : Int).tdiv 128) = ((n / 128 : Nat) : Int) := by
        rw [Int.tdiv_eq_ediv_of_nonneg (by omega), IntWalk.i64_in _ (by omega)]; omega
      simp only [go_sem, Nat.reduceLT, Nat.reduceEqDiff, reduceCtorEq, Int.reduceLT, Int.reduceEq, hs, h1, h2, hlt, e0, e1, e2]
      refine XO_appG hb (new := eB [u8 (128 + n % 128)]) (by simp only [go_sem, Nat.reduceLT, Nat.reduceEqDiff, reduceCtorEq, Int.reduceLT, Int.reduceEq, hs]) ?_ (by simp only [eB_len, List.length_singleton]; omega) (by simp only [eB_len, List.length_singleton]; omega) (fun v' h' hb' _ _ => ?_)
      · simp only [go_sem, Nat.reduceLT, Nat.reduceEqDiff, reduceCtorEq, Int.reduceLT, Int.reduceEq, hs]
        rw [eB_u8 _ (by omega)]
      · simp only [go_sem, Nat.reduceLT, Nat.reduceEqDiff, reduceCtorEq, Int.reduceLT, Int.reduceEq, hs, h1, e2]
        rw [← eB_append] at hb'
        refine ih (n / 128) (out ++ [u8 (128 + n % 128)]) _ h' v' Q ?_ (by omega) (by simp; omega) (by simp only [slot_len, hs]) (by simp only [go_sem, Nat.reduceLT, Nat.reduceEqDiff, reduceCtorEq, Int.reduceLT, Int.reduceEq, hs]) (by simp only [go_sem, Nat.reduceLT, Nat.reduceEqDiff, reduceCtorEq, Int.reduceLT, Int.reduceEq, hs]) hb' ?_
        · rw [Nat.pow_succ] at hn
          omega
        · intro n' out' s' h'' v'' a1 a2 a3 a4 a5 a6
          refine hQ n' out' s' h'' v'' a1 a2 a3 a4 a5 ?_
          rw [a6]
          have : 127 < n := by omega
          simp [numF, this]
    · simp only [go_sem, Nat.reduceLT, Nat.reduceEqDiff, reduceCtorEq, Int.reduceLT, Int.reduceEq, hs, h1, hlt]
      refine hQ n out _ h v (by simp only [slot_len, hs]) (by simp only [go_sem, Nat.reduceLT, Nat.reduceEqDiff, reduceCtorEq, Int.reduceLT, Int.reduceEq, h1]) (by omega) (by simp only [go_sem, Nat.reduceLT, Nat.reduceEqDiff, reduceCtorEq, Int.reduceLT, Int.reduceEq, h2]) hb ?_
      have : ¬ 127 < n := by omega
      simp only [numF, if_neg this]

theorem rnum_pure (n : Int) : ∃ v h', call F 41 [vi .i64 n] [] = some (.ret v, h') ∧ closRes h' v = some (.cv (.sl 1 (eB (num (clamp n))) false)) := by
  refine call_E (P := fun v h' => closRes h' v = some (.cv (.sl 1 (eB (num (clamp n))) false))) (fn := f41) rfl ?_
  simp only [f41]
  generalize hs0 : ([vi .i64 n] ++ List.replicate _ VV.undef : List VV) = s
  have hs : s.length = 24 := by rw [← hs0]; rfl
  have h0 : s.getD 0 .undef = vi .i64 n := by rw [← hs0]; rfl
  clear hs0
  have ec : max 0 (min n 9007199254740992) = ((clamp n : Nat) : Int) := by unfold clamp; omega
  have hc := clamp_le n
  simp only [go_sem, Nat.reduceLT, Nat.reduceEqDiff, reduceCtorEq, Int.reduceLT, Int.reduceEq, hs, h0, ec]
  refine f41_loop 8 (clamp n) [] _ [] nilS _ (by rw [pow9]; omega) (by omega) (by decide) (by simp only [slot_len, hs]) (by simp only [go_sem, Nat.reduceLT, Nat.reduceEqDiff, reduceCtorEq, Int.reduceLT, Int.reduceEq, hs]) (by simp only [go_sem, Nat.reduceLT, Nat.reduceEqDiff, reduceCtorEq, Int.reduceLT, Int.reduceEq, hs]) (BufG.nil _ _) ?_
  intro n' out' s' h' v' a1 a2 a3 a4 a5 a6
  rw [List.nil_append] at a6
  have hl : (out' ++ [u8 n']).length ≤ 20 := by rw [a6]; have := numF_le 8 (clamp n); omega
  rw [List.length_append, List.length_singleton] at hl
  have e1 : IntKind.u8.wrap (n' : Int) = n' := IntWalk.u8_in _ (by omega)
  simp only [go_sem, Nat.reduceLT, Nat.reduceEqDiff, reduceCtorEq, Int.reduceLT, Int.reduceEq, a1, a2, a4, e1]
  refine XO_appG (new := eB [u8 n']) a5 (by simp only [go_sem, Nat.reduceLT, Nat.reduceEqDiff, reduceCtorEq, Int.reduceLT, Int.reduceEq, a1]) ?_ (by simp only [eB_len, List.length_singleton]; omega) (by simp only [eB_len, List.length_singleton]; omega) (fun v' h' hb' _ _ => ?_)
  · simp only [go_sem, Nat.reduceLT, Nat.reduceEqDiff, reduceCtorEq, Int.reduceLT, Int.reduceEq, a1]
    rw [eB_u8 _ (by omega)]
  · simp only [go_sem, Nat.reduceLT, Nat.reduceEqDiff, reduceCtorEq, Int.reduceLT, Int.reduceEq, a1]
    rw [← eB_append, a6] at hb'
    have := hb'.close
    unfold CloseTo slV at this
    rw [if_neg (eB_ne.2 (numF_ne 8 _))] at this
    exact this

theorem join_f55 (a b : List UInt8) (va vb_ : VV) (ha : SlV 1 (eB a) va) (hb : SlV 1 (eB b) vb_) (hl : a.length + b.length ≤ 1000000000) :
    ∃ v h', call F 55 [va, vb_] [] = some (.ret v, h') ∧ closRes h' v = some (slV 1 (eB (a ++ b))) := by
  refine call_E (P := fun v h' => closRes h' v = some (slV 1 (eB (a ++ b)))) (fn := f55) rfl ?_
  simp only [f55]
  generalize hs0 : ([va, vb_] ++ List.replicate _ VV.undef : List VV) = s
  have hs : s.length = 13 := by rw [← hs0]; rfl
  have h0 : s.getD 0 .undef = va := by rw [← hs0]; rfl
  have h1 : s.getD 1 .undef = vb_ := by rw [← hs0]; rfl
  clear hs0
  simp only [go_sem, Nat.reduceLT, Nat.reduceEqDiff, reduceCtorEq, Int.reduceLT, Int.reduceEq, hs, h0]
  refine XO_appG (BufG.nil [] 1) (new := eB a) (by simp only [go_sem, Nat.reduceLT, Nat.reduceEqDiff, reduceCtorEq, Int.reduceLT, Int.reduceEq, hs]) (by simp only [go_sem, Nat.reduceLT, Nat.reduceEqDiff, reduceCtorEq, Int.reduceLT, Int.reduceEq, hs, h0]; exact ha.src) (by simp only [eB_len, List.length_nil]; omega) (by simp only [eB_len, List.length_nil]; omega) (fun v5 h5 hb5 _ _ => ?_)
  rw [List.nil_append] at hb5
  simp only [go_sem, Nat.reduceLT, Nat.reduceEqDiff, reduceCtorEq, Int.reduceLT, Int.reduceEq, hs, h1]
  refine XO_appG hb5 (new := eB b) (by simp only [go_sem, Nat.reduceLT, Nat.reduceEqDiff, reduceCtorEq, Int.reduceLT, Int.reduceEq, hs]) (by simp only [go_sem, Nat.reduceLT, Nat.reduceEqDiff, reduceCtorEq, Int.reduceLT, Int.reduceEq, hs, h1]; exact hb.src) (by simp only [eB_len]; omega) (by simp only [eB_len]; omega) (fun v6 h6 hb6 _ _ => ?_)
  rw [← eB_append] at hb6
  simp only [go_sem, Nat.reduceLT, Nat.reduceEqDiff, reduceCtorEq, Int.reduceLT, Int.reduceEq, hs]
  exact hb6.close

theorem SlV.of_slV {z : Nat} {l : List (List CV)} : SlV z l (slV z l) := slV_SlV

theorem res_slV (h : Heap) (z : Nat) (els : List (List CV)) : closRes h (slV z els) = some (slV z els) := by
  unfold slV
  split <;> rfl

end Go.V06


set_option linter.unusedSimpArgs false
namespace Go.V06
open Go Go.Vm

/-! ### the document's answer: what is got -/

def GNr (x : Nat × Nat × Nat) (o : Out) (s : List VV) : Prop :=
  (x = (0, 0, 11) ∧ o = .exit 0) ∨ (o = .ret ∧ s.getD 4 .undef = vi .i64 x.1 ∧ s.getD 5 .undef = vi .i64 x.2.1 ∧ s.getD 6 .undef = vi .i64 x.2.2)

/-- How many there are to be. -/
def manyF (b : List UInt8) : Nat × Nat × Nat := let x := getNum b 0; if x.2.2 = 0 ∧ 5000 < x.1 then (x.1, x.2.1, 3) else x
end Go.V06


set_option linter.unusedSimpArgs false
namespace Go.V06
open Go Go.Vm

/-! ### the document's answer: rows that are read -/

/-- How a loop of reading ends. -/
def RL (z : Nat) (len : Nat) (v0 : VV) (x : List (List CV) × Nat × Nat) (o : Out) (s : List VV) (h : Heap) : Prop :=
  s.length = len ∧ ((x.2.2 ≠ 0 ∧ o = .ret ∧ s.getD 2 .undef = nilS ∧ s.getD 3 .undef = vi .i64 x.2.2) ∨
    (x.2.2 = 0 ∧ o = .exit 0 ∧ s.getD 0 .undef = v0 ∧ (∃ v, s.getD 7 .undef = v ∧ BufG h z x.1 v) ∧ s.getD 5 .undef = vi .i64 x.2.1 ∧ s.getD 6 .undef = vi .i64 0))

theorem clos_nilc {h : Heap} {c : CV} : closRes h (.tup [nilS, .cv c]) = some (.tup [slV 0 [], .cv c]) := rfl
theorem slV_nil {z : Nat} : slV z [] = nilS := rfl

end Go.V06


set_option linter.unusedSimpArgs false
namespace Go.V06
open Go Go.Vm

/-! ### changes that are read -/

def ch0 : List CV := [.sc (.string ⟨#[]⟩), .sc (.slice none 0 0), .sc (.bool false)]
def chC (k : List UInt8) (c : CV) (g : Bool) : List CV := [.sc (.string ⟨k.toArray⟩), c, .sc (.bool g)]

/-- A change, from its bytes. -/
def getCh (b : List UInt8) (a : Int) : List CV × Nat × Nat :=
  if (getText b a 30).2.2 ≠ 0 then (ch0, 0, (getText b a 30).2.2) else
  match b[(getText b a 30).2.1]? with
  | none => (ch0, 0, 10)
  | some c => if c.toNat = 1 then (chC (getText b a 30).1 (.sc (.slice none 0 0)) true, (getText b a 30).2.1 + 1, 0) else
    if 1 < c.toNat then (ch0, 0, 11) else
    (chC (getText b a 30).1 (.sl 1 (eB (getText b ((getText b a 30).2.1 + 1 : Nat) 150).1) false) false, (getText b ((getText b a 30).2.1 + 1 : Nat) 150).2.1, (getText b ((getText b a 30).2.1 + 1 : Nat) 150).2.2)

theorem getText_bound (b : List UInt8) (a m : Int) (h : (getText b a m).2.2 = 0) : (getText b a m).2.1 ≤ b.length ∧ (getText b a m).1.length ≤ b.length ∧ 0 ≤ a ∧ a < (getText b a m).2.1 := by
  have hbd := getNum_bound b a
  unfold getText at h ⊢
  split at h
  · rename_i h0; rw [if_pos h0]; simp only at h; exact absurd h h0
  · rename_i h0
    rw [if_neg h0]
    have h0' : (getNum b a).2.2 = 0 := by simpa using h0
    have := hbd.2.1 h0'
    split at h
    · simp at h
    · rename_i h1
      rw [if_neg h1]
      split at h
      · simp at h
      · rename_i h2
        rw [if_neg h2]
        refine ⟨by simp only; omega, ?_, this.1, by simp only; omega⟩
        simp only [List.length_take, List.length_drop]
        omega

theorem getCh_three (b : List UInt8) (a : Int) : ∃ u w t, (getCh b a).1 = [u, w, t] := by
  unfold getCh
  split
  · exact ⟨_, _, _, rfl⟩
  · split
    · exact ⟨_, _, _, rfl⟩
    · split
      · exact ⟨_, _, _, rfl⟩
      · split
        · exact ⟨_, _, _, rfl⟩
        · exact ⟨_, _, _, rfl⟩
theorem clos_ch {h : Heap} {u w t c1 c2 : CV} : closRes h (.tup [.agg [.cv u, .cv w, .cv t], .cv c1, .cv c2]) = some (.tup [.agg [.cv u, .cv w, .cv t], .cv c1, .cv c2]) := rfl
theorem bd_3k {a b c : VV} {u w : CV} : bdO [a, b, c] [(0, 1, .cv u), (2, 1, .cv w)] = some (.agg [.cv u, b, .cv w]) := rfl
theorem bd_3v {a b c : VV} {u w : CV} : bdO [a, b, c] [(0, 1, .cv u), (1, 1, .cv w)] = some (.agg [.cv u, .cv w, c]) := rfl

end Go.V06


set_option linter.unusedSimpArgs false
namespace Go.V06
open Go Go.Vm

/-! ### the same rows -/

theorem RowsE.get {l : List (List CV)} {k : List (List UInt8 × List UInt8)} (h : RowsE l k) : ∀ {i : Nat}, i < k.length → ∃ e p, l[i]? = some e ∧ k[i]? = some p ∧ rowE e p := by
  induction h with
  | nil => intro i hi; simp at hi
  | @cons e p l k h _ ih =>
    intro i hi
    cases i with
    | zero => exact ⟨e, p, rfl, rfl, h⟩
    | succ i =>
      obtain ⟨e', p', h1, h2, h3⟩ := ih (i := i) (by simpa using hi)
      exact ⟨e', p', by simpa using h1, by simpa using h2, h3⟩

theorem f17_loop (l m : List (List CV)) (k : List (List UInt8 × List UInt8)) (vl vm : VV) (hl : SlV 2 l vl) (hm : SlV 2 m vm) (hR : RowsE l k) (hS : RowsE m k) (hk : k.length ≤ 1000000000) (h : Heap) : ∀ (d i : Nat) (s : List VV) (Q : Pst),
    i + d = k.length → s.length = 43 → s.getD 0 .undef = vl → s.getD 1 .undef = vm → s.getD 5 .undef = vi .i64 i →
    (∀ s', s'.length = 43 → Q (.exit 0) ⟨s', h⟩) → X F (.loop f17_1) ⟨s, h⟩ Q := by
  intro d
  induction d with
  | zero =>
    intro i s Q hi hs h0 h1 h5 hQ
    rw [X_loop, X_eq f17_1.eq_1]
    have hlt : ¬ (i : Int) < (l.length : Int) := by rw [hR.len]; omega
    simp only [go_sem, Nat.reduceLT, Nat.reduceEqDiff, reduceCtorEq, Int.reduceLT, Int.reduceEq, hs, h0, h5, hl.ln, hlt]
    exact hQ _ (by simp only [slot_len, hs])
  | succ d ih =>
    intro i s Q hi hs h0 h1 h5 hQ
    rw [X_loop, X_eq f17_1.eq_1]
    have hlt : (i : Int) < (l.length : Int) := by rw [hR.len]; omega
    obtain ⟨e, p, g1, g2, c, rfl, hc⟩ := hR.get (i := i) (by omega)
    obtain ⟨e', p', g3, g4, c', rfl, hc'⟩ := hS.get (i := i) (by omega)
    rw [g2] at g4; cases g4
    have hia : ∀ h : Heap, iaO h 2 vl (vi .i64 (i : Int)) = some (.rptr [.sc (.string ⟨p.1.toArray⟩), c], h) := fun h => hl.ia (by omega) (by exact g1)
    have hib : ∀ h : Heap, iaO h 2 vm (vi .i64 (i : Int)) = some (.rptr [.sc (.string ⟨p.1.toArray⟩), c'], h) := fun h => hm.ia (by omega) (by exact g3)
    have e5 : IntKind.i64.wrap ((i : Int) + 1) = ((i + 1 : Nat) : Int) := by rw [IntWalk.i64_in _ (by omega)]; omega
    simp only [go_sem, Nat.reduceLT, Nat.reduceEqDiff, reduceCtorEq, Int.reduceLT, Int.reduceEq, hs, h0, h5, hl.ln, hlt]
    refine X_draw rfl ?_
    have hne : decide (p.1 ≠ p.1) = false := by simp
    have hne2 : decide (p.2 ≠ p.2) = false := by simp
    simp only [go_sem, Nat.reduceLT, Nat.reduceEqDiff, reduceCtorEq, Int.reduceLT, Int.reduceEq, hs, h0, h1, h5, hia, hib, hc.bs, hc'.bs, e5]
    exact ih (i + 1) _ Q (by omega) (by simp only [slot_len, hs]) (by simp only [go_sem, Nat.reduceLT, Nat.reduceEqDiff, reduceCtorEq, Int.reduceLT, Int.reduceEq, h0]) (by simp only [go_sem, Nat.reduceLT, Nat.reduceEqDiff, reduceCtorEq, Int.reduceLT, Int.reduceEq, h1]) (by simp only [go_sem, Nat.reduceLT, Nat.reduceEqDiff, reduceCtorEq, Int.reduceLT, Int.reduceEq, hs]) hQ

theorem same_f17 (l m : List (List CV)) (k : List (List UInt8 × List UInt8)) (vl vm : VV) (hl : SlV 2 l vl) (hm : SlV 2 m vm) (hR : RowsE l k) (hS : RowsE m k) (hk : k.length ≤ 1000000000) (h : Heap) :
    ∃ v h', call F 17 [vl, vm] h = some (.ret v, h') ∧ ValIs (vb true) v h' := by
  refine call_E (fn := f17) rfl ?_
  simp only [f17]
  generalize hs0 : ([vl, vm] ++ List.replicate _ VV.undef : List VV) = s
  have hs : s.length = 43 := by rw [← hs0]; rfl
  have h0 : s.getD 0 .undef = vl := by rw [← hs0]; rfl
  have h1 : s.getD 1 .undef = vm := by rw [← hs0]; rfl
  clear hs0
  simp only [go_sem, Nat.reduceLT, Nat.reduceEqDiff, reduceCtorEq, Int.reduceLT, Int.reduceEq, hs]
  rw [X_eq f17_0.eq_1]
  have hne : ((l.length : Int) ≠ (m.length : Int)) = False := by simp [hR.len, hS.len]
  simp only [go_sem, Nat.reduceLT, Nat.reduceEqDiff, reduceCtorEq, Int.reduceLT, Int.reduceEq, hs, h0, h1, hl.ln, hm.ln, hR.len, hS.len]
  refine f17_loop l m k vl vm hl hm hR hS hk h k.length 0 _ _ (by omega) (by simp only [slot_len, hs]) (by simp only [go_sem, Nat.reduceLT, Nat.reduceEqDiff, reduceCtorEq, Int.reduceLT, Int.reduceEq, h0]) (by simp only [go_sem, Nat.reduceLT, Nat.reduceEqDiff, reduceCtorEq, Int.reduceLT, Int.reduceEq, h1]) (by simp only [go_sem, Nat.reduceLT, Nat.reduceEqDiff, reduceCtorEq, Int.reduceLT, Int.reduceEq, hs]; rfl) ?_
  intro s' hs'
  simp only [go_sem, Nat.reduceLT, Nat.reduceEqDiff, reduceCtorEq, Int.reduceLT, Int.reduceEq, hs']
  rfl

end Go.V06


set_option linter.unusedSimpArgs false
set_option linter.unusedVariables false
namespace Go.V06
open Go Go.Vm

/-! ### what was put is got -/

def flatB (kv : List (List UInt8 × List UInt8)) : List UInt8 := (kv.map rowB).flatten
theorem flatB_cons {p : List UInt8 × List UInt8} {kv : List (List UInt8 × List UInt8)} : flatB (p :: kv) = rowB p ++ flatB kv := rfl
def rowCs (kv : List (List UInt8 × List UInt8)) : List (List CV) := kv.map fun p => rowC p.1 p.2
theorem rowCs_E : ∀ kv, RowsE (rowCs kv) kv
  | [] => .nil
  | p :: kv => .cons ⟨_, rfl, SlV.sl⟩ (rowCs_E kv)

theorem getRow_rowB (a r : List UInt8) (p : List UInt8 × List UInt8) (h1 : p.1.length ≤ 30) (h2 : p.2.length ≤ 150) : getRow (a ++ rowB p ++ r) a.length = (rowC p.1 p.2, a.length + (rowB p).length, 0) := by
  have e1 : getText (a ++ rowB p ++ r) a.length 30 = (p.1, a.length + (text p.1).length, 0) := by
    have := getText_text a (text p.2 ++ r) p.1 30 (by omega)
    rw [if_neg (by omega)] at this
    rw [← this]
    unfold rowB
    simp only [List.append_assoc]
  have e2 : getText (a ++ rowB p ++ r) ((a.length + (text p.1).length : Nat) : Int) 150 = (p.2, a.length + (text p.1).length + (text p.2).length, 0) := by
    have := getText_text (a ++ text p.1) r p.2 150 (by omega)
    rw [if_neg (by omega)] at this
    rw [List.length_append] at this
    rw [← this]
    unfold rowB
    simp only [List.append_assoc]
  unfold getRow
  rw [e1]
  simp only [ne_eq, not_true_eq_false, if_false]
  rw [e2]
  simp only [rowB, List.length_append, Nat.add_assoc]

/-- Rows that may be. -/
def Fits (kv : List (List UInt8 × List UInt8)) : Prop := ∀ p ∈ kv, p.1.length ≤ 30 ∧ p.2.length ≤ 150

theorem wholeF_rows : ∀ (kv : List (List UInt8 × List UInt8)) (a r : List UInt8) (out : List (List CV)), Fits kv →
    wholeF (getRow (a ++ flatB kv ++ r)) kv.length a.length out = (out ++ rowCs kv, a.length + (flatB kv).length, 0)
  | [], a, r, out, _ => by simp [wholeF, rowCs, flatB]
  | p :: kv, a, r, out, h => by
    obtain ⟨h1, h2⟩ := h p (by simp)
    have e1 : getRow (a ++ flatB (p :: kv) ++ r) a.length = (rowC p.1 p.2, a.length + (rowB p).length, 0) := by
      have := getRow_rowB a (flatB kv ++ r) p h1 h2
      rw [← this, flatB_cons]
      simp only [List.append_assoc]
    have e2 := wholeF_rows kv (a ++ rowB p) r (out ++ [rowC p.1 p.2]) (fun q hq => h q (by simp [hq]))
    rw [List.length_append] at e2
    simp only [List.length_cons, wholeF]
    rw [e1]
    simp only [ne_eq, not_true_eq_false, if_false]
    have e3 : a ++ flatB (p :: kv) ++ r = a ++ rowB p ++ flatB kv ++ r := by rw [flatB_cons]; simp only [List.append_assoc]
    rw [e3, e2]
    simp only [rowCs, List.map_cons, flatB_cons, List.length_append, List.append_assoc, List.singleton_append, Nat.add_assoc]

theorem wholeB_rows (kv : List (List UInt8 × List UInt8)) (hf : Fits kv) (hk : kv.length ≤ 5000) : wholeB (getRow (rowsB kv)) (rowsB kv) = (rowCs kv, 0) := by
  have hc : clamp (kv.length : Int) = kv.length := clamp_of _ (by omega)
  have e0 : rowsB kv = num kv.length ++ flatB kv ++ [] := by unfold rowsB; rw [hc]; simp [flatB]
  have e1 : getNum (rowsB kv) 0 = (kv.length, (num kv.length).length, 0) := by
    rw [e0]
    have := getNum_num [] (flatB kv ++ []) kv.length (by omega)
    simpa using this
  have e2 := wholeF_rows kv (num kv.length) [] [] hf
  rw [← e0] at e2
  unfold wholeB
  rw [e1]
  simp only [ne_eq, not_true_eq_false, if_false]
  rw [if_neg (by omega), e2]
  have e4 : ¬ (num kv.length).length + (flatB kv).length < (rowsB kv).length := by rw [e0]; simp
  simp only [List.nil_append, not_true_eq_false, if_false, e4]

theorem rowL_fits : ∀ n c, Fits (rowL n c)
  | 0, _ => by intro p hp; simp [rowL] at hp
  | n + 1, [] => by intro p hp; simp [rowL] at hp
  | n + 1, [_] => by intro p hp; simp [rowL] at hp
  | n + 1, x :: y :: r => by
    intro p hp
    simp only [rowL, List.mem_cons] at hp
    rcases hp with rfl | hp
    · have := rowV_len x y
      exact ⟨by simp [rowK], by simp only; omega⟩
    · exact rowL_fits n r p hp

theorem rowB_len (p : List UInt8 × List UInt8) (h : p.1.length ≤ 30 ∧ p.2.length ≤ 150) : (rowB p).length ≤ 200 := by
  unfold rowB text
  have h1 := num_len p.1.length
  have h2 := num_len p.2.length
  simp only [List.length_append]; omega
theorem flatB_len : ∀ kv, Fits kv → (flatB kv).length ≤ 200 * kv.length
  | [], _ => by simp [flatB]
  | p :: kv, h => by
    have h1 := rowB_len p (h p (by simp))
    have h2 := flatB_len kv (fun q hq => h q (by simp [hq]))
    rw [flatB_cons, List.length_append, List.length_cons]; omega
theorem rowsB_len (kv : List (List UInt8 × List UInt8)) (h : Fits kv) : (rowsB kv).length ≤ 8 + 200 * kv.length := by
  have h1 := flatB_len kv h
  have h2 := num_len kv.length
  unfold rowsB
  unfold flatB at h1
  rw [List.length_append]; omega

/-! ### slices that may be written no more -/

def BufF (h : Heap) (z : Nat) (els : List (List CV)) (v : VV) : Prop := (els = [] ∧ v = nilS) ∨ (∃ id g fr, els ≠ [] ∧ v = .own id g 0 els.length false ∧ h[id]? = some (.arr z els g fr))
theorem bufF_of {h : Heap} {z : Nat} {els : List (List CV)} {v : VV} (hb : BufG h z els v) : BufF h z els v := by
  rcases hb with hb | ⟨id, g, h1, h2, h3⟩
  · exact .inl hb
  · exact .inr ⟨id, g, false, h1, h2, h3⟩
theorem BufF.clos {h : Heap} {z : Nat} {els : List (List CV)} {v : VV} (hb : BufF h z els v) : ∃ h1, closA h v = some (slV z els, h1) ∧ BufF h1 z els v := by
  rcases hb with ⟨rfl, rfl⟩ | ⟨id, g, fr, h1, rfl, h3⟩
  · exact ⟨h, rfl, .inl ⟨rfl, rfl⟩⟩
  · have hid : id < h.length := (List.getElem?_eq_some_iff.1 h3).1
    refine ⟨h.set id (.arr z els g true), ?_, .inr ⟨id, g, true, h1, rfl, by rw [List.getElem?_set_self hid]⟩⟩
    simp [closA, Vm.clos, h3, slV, h1]
theorem BufF.ln {h : Heap} {z : Nat} {els : List (List CV)} {v : VV} (hb : BufF h z els v) : lnO false v = some (vi .i64 els.length) := by
  rcases hb with ⟨rfl, rfl⟩ | ⟨id, g, fr, h1, rfl, h3⟩ <;> rfl

theorem RowsE.set {l : List (List CV)} {k : List (List UInt8 × List UInt8)} (h : RowsE l k) : ∀ {i : Nat} {e : List CV} {p : List UInt8 × List UInt8}, k[i]? = some p → rowE e p → RowsE (l.set i e) k := by
  induction h with
  | nil => intro i e p hp; simp at hp
  | @cons e' p' l k h ht ih =>
    intro i e p hp he
    cases i with
    | zero => simp at hp; subst hp; exact .cons he ht
    | succ i => exact .cons h (ih (by simpa using hp) he)

end Go.V06


set_option linter.unusedSimpArgs false
set_option linter.unusedVariables false
namespace Go.V06
open Go Go.Vm

/-! ### more than may be -/

def repB : Nat → List UInt8
  | 0 => []
  | m + 1 => 0 :: 1 :: repB m
theorem repB_snoc : ∀ m, repB m ++ [0, 1] = repB (m + 1)
  | 0 => rfl
  | m + 1 => by
    have := repB_snoc m
    simp only [repB, List.cons_append] at this ⊢
    rw [this]
theorem repB_len : ∀ m, (repB m).length = 2 * m
  | 0 => rfl
  | m + 1 => by simp only [repB, List.length_cons, repB_len m]; omega

theorem getCh_gone (a r : List UInt8) : getCh (a ++ [0, 1] ++ r) a.length = (chC [] (.sc (.slice none 0 0)) true, a.length + 2, 0) := by
  have e1 : getText (a ++ [0, 1] ++ r) a.length 30 = ([], a.length + 1, 0) := by
    have := getText_text a (1 :: r) [] 30 (by simp)
    rw [if_neg (by simp)] at this
    rw [show (text []).length = 1 from rfl] at this
    rw [← this, show text [] = [0] from rfl]
    simp only [List.append_assoc, List.cons_append, List.nil_append]
  have e2 : (a ++ [0, 1] ++ r)[a.length + 1]? = some 1 := by
    rw [List.append_assoc, List.getElem?_append_right (by omega)]
    simp
  unfold getCh
  rw [e1]
  simp only [ne_eq, not_true_eq_false, if_false, e2]
  rw [if_pos (by decide)]

theorem wholeF_gone : ∀ (m : Nat) (a r : List UInt8) (out : List (List CV)), (wholeF (getCh (a ++ repB m ++ r)) m a.length out).2 = (a.length + 2 * m, 0)
  | 0, a, r, out => by simp [wholeF]
  | m + 1, a, r, out => by
    have e1 : getCh (a ++ repB (m + 1) ++ r) a.length = (chC [] (.sc (.slice none 0 0)) true, a.length + 2, 0) := by
      rw [← getCh_gone a (repB m ++ r)]
      simp only [repB, List.append_assoc, List.cons_append, List.nil_append]
    have e2 := wholeF_gone m (a ++ [0, 1]) r (out ++ [chC [] (.sc (.slice none 0 0)) true])
    rw [List.length_append] at e2
    simp only [wholeF]
    rw [e1]
    simp only [ne_eq, not_true_eq_false, if_false]
    have e3 : a ++ repB (m + 1) ++ r = a ++ [0, 1] ++ repB m ++ r := by simp only [repB, List.append_assoc, List.cons_append, List.nil_append]
    rw [e3]
    rw [show a.length + ([0, 1] : List UInt8).length = a.length + 2 from rfl] at e2
    rw [e2]
    congr 1
    omega

theorem wholeB_gone (m : Nat) (hm : m ≤ 6000) : (wholeB (getCh (num m ++ repB m)) (num m ++ repB m)).2 = if 5000 < m then 3 else 0 := by
  have e1 : getNum (num m ++ repB m) 0 = (m, (num m).length, 0) := by
    have := getNum_num [] (repB m) m (by omega)
    simpa using this
  unfold wholeB
  rw [e1]
  simp only [ne_eq, not_true_eq_false, if_false]
  by_cases h : 5000 < m
  · rw [if_pos h, if_pos h]
  · rw [if_neg h, if_neg h]
    have e2 := wholeF_gone m (num m) [] []
    rw [List.append_nil] at e2
    rw [e2]
    have e3 : ¬ (num m).length + 2 * m < (num m ++ repB m).length := by rw [List.length_append, repB_len]; omega
    simp only [not_true_eq_false, if_false, e3]

theorem wholeB_err {get : Int → List CV × Nat × Nat} {b : List UInt8} {n a e : Nat} (h : getNum b 0 = (n + 1, a, 0)) (hn : n + 1 ≤ 5000) (he : (get a).2.2 = e) (hne : e ≠ 0) : (wholeB get b).2 = e := by
  unfold wholeB
  rw [h]
  have h5 : ¬ 5000 < n + 1 := by omega
  simp only [wholeF, he, hne, h5, ne_eq, not_true_eq_false, not_false_eq_true, if_false, if_true]

theorem wholeB_one (p : List UInt8 × List UInt8) (h1 : p.1.length ≤ 1000) (h2 : p.2.length ≤ 1000) : (wholeB (getRow (rowsB [p])) (rowsB [p])).2 = if 30 < p.1.length ∨ 150 < p.2.length then 3 else 0 := by
  by_cases hf : 30 < p.1.length ∨ 150 < p.2.length
  · rw [if_pos hf]
    have e0 : rowsB [p] = [1] ++ rowB p ++ [] := by
      unfold rowsB
      simp only [List.map_cons, List.map_nil, List.flatten_cons, List.flatten_nil, List.append_nil]
      rfl
    have e1 : getNum (rowsB [p]) 0 = (1, 1, 0) := by
      rw [e0]
      have := getNum_num [] (rowB p) 1 (by omega)
      rw [show num 1 = [1] from rfl] at this
      simpa using this
    have e2 : (getRow (rowsB [p]) (1 : Nat)).2.2 = 3 := by
      have t1 := getText_text [1] (text p.2) p.1 30 (by omega)
      have t2 := getText_text ([1] ++ text p.1) [] p.2 150 (by omega)
      have b1 : rowsB [p] = [1] ++ text p.1 ++ text p.2 := by rw [e0]; simp only [rowB, List.append_assoc, List.append_nil]
      rw [List.append_nil] at t2
      unfold getRow
      rw [b1]
      rw [show (([1] : List UInt8).length : Int) = ((1 : Nat) : Int) from rfl] at t1
      rw [t1]
      by_cases hk : 30 < p.1.length
      · rw [if_pos (show (30 : Int) < (p.1.length : Int) by omega)]
        rfl
      · rw [if_neg (show ¬ (30 : Int) < (p.1.length : Int) by omega)]
        simp only [ne_eq, not_true_eq_false, if_false]
        rw [show ([1] : List UInt8).length + (text p.1).length = ([1] ++ text p.1).length by simp [Nat.add_comm], t2]
        rw [if_pos (show (150 : Int) < (p.2.length : Int) by omega)]
    exact wholeB_err (n := 0) e1 (by omega) e2 (by decide)
  · rw [if_neg hf, wholeB_rows]
    · intro q hq
      simp only [List.mem_singleton] at hq
      subst hq
      omega
    · simp

theorem mk_agg2_own {hh : Heap} {z0 z1 : VV} {u : CV} {els : List (List CV)} {n : Nat} (hn : els.length = n) :
    mkO (hh ++ [.arr 1 els 0 false]) 2 1 [z0, z1] [(0, 2, .agg [.cv u, .own hh.length 0 0 n true])] = some (.cv (.sl 2 [[u, .sl 1 els true]] true), hh ++ [.arr 1 els 0 true]) := by
  have e1 : fill [z0, z1] [(0, 2, .agg [.cv u, .own hh.length 0 0 n true])] = some [.cv u, .own hh.length 0 0 n true] := rfl
  have e2 : closL (hh ++ [.arr 1 els 0 false]) [.cv u, .own hh.length 0 0 n true] = some ([u, .sl 1 els true], hh ++ [.arr 1 els 0 true]) := by
    have e3 : ∀ (h : Heap) (c : CV), clos h (.cv c) = some (c, h) := fun _ _ => rfl
    simp only [closL, e3, clos_last hn]
  simp only [mkO, e1, e2]
  rfl
theorem bs_own {hh : Heap} {o : VO} {l : List UInt8} {n : Nat} (hn : l.length = n) : bsO (hh ++ [.arr 1 (eB l) 0 false] ++ [o]) (.own hh.length 0 0 n true) = some (txt l) := by
  subst hn
  refine bs_els ?_
  have : (hh ++ [VO.arr 1 (eB l) 0 false] ++ [o])[hh.length]? = some (.arr 1 (eB l) 0 false) := by simp
  have e : List.take l.length (eB l) = eB l := List.take_of_length_le (by rw [eB_len]; exact Nat.le_refl _)
  simp [elsOf, this, eB_len, e]

end Go.V06


set_option linter.unusedSimpArgs false
set_option linter.unusedVariables false
namespace Go.V06
open Go Go.Vm

/-! ### what was got is put the same -/

theorem u8_self (c : UInt8) : u8 c.toNat = c := by
  unfold u8
  exact UInt8.ofNat_toNat

theorem getN_back : ∀ (k : Nat) (l : List UInt8) (at_ i acc m j : Nat), getN k l at_ i acc = (m, j, 0) →
    ∃ n q r, l = q ++ r ∧ j = at_ + i + q.length ∧ m = acc + n * 128 ^ i ∧ (0 < n ∨ i = 0) ∧ ∀ K, n < 128 ^ (K + 1) → q = numF K n
  | 0, _, _, _, _, _, _, h => by simp [getN] at h
  | k + 1, [], _, _, _, _, _, h => by simp [getN] at h
  | k + 1, c :: l, at_, i, acc, m, j, h => by
    have hc := c.toNat_lt
    simp only [getN] at h
    by_cases h1 : c.toNat < 128
    · rw [if_pos h1] at h
      split at h
      · simp at h
      · rename_i h2
        simp only [Prod.mk.injEq] at h
        obtain ⟨rfl, rfl, _⟩ := h
        rw [Nat.mod_eq_of_lt h1]
        refine ⟨c.toNat, [c], l, rfl, rfl, rfl, by omega, fun K _ => ?_⟩
        have : ¬ 127 < c.toNat := by omega
        cases K with
        | zero => simp [numF, u8_self]
        | succ K => simp [numF, this, u8_self]
    · rw [if_neg h1] at h
      obtain ⟨n, q, r, e1, e2, e3, e4, e5⟩ := getN_back k l at_ (i + 1) _ m j h
      refine ⟨c.toNat % 128 + 128 * n, c :: q, r, by rw [e1]; rfl, by simp only [List.length_cons]; omega, ?_, .inl (by omega), fun K hK => ?_⟩
      · rw [e3, Nat.pow_succ, Nat.add_mul, Nat.add_assoc]
        congr 2
        rw [Nat.mul_comm (128 ^ i) 128, ← Nat.mul_assoc, Nat.mul_comm n 128]
      · cases K with
        | zero => omega
        | succ K =>
          have hn : 0 < n := by omega
          rw [Nat.pow_succ] at hK
          simp only [numF]
          rw [if_pos (by omega), e5 K (by omega)]
          have h3 : (c.toNat % 128 + 128 * n) % 128 = c.toNat % 128 := by omega
          have h4 : (c.toNat % 128 + 128 * n) / 128 = n := by omega
          have h5 : 128 + c.toNat % 128 = c.toNat := by omega
          rw [h3, h4, h5, u8_self]

theorem getNum_back {b : List UInt8} {a : Int} {n j : Nat} (h : getNum b a = (n, j, 0)) : ∃ p r, b = p ++ num n ++ r ∧ (p.length : Int) = a ∧ j = p.length + (num n).length ∧ n ≤ 9007199254740992 := by
  have hbd := getNum_bound b a
  rw [h] at hbd
  unfold getNum at h
  split at h
  · simp at h
  · rename_i h0
    obtain ⟨n', q, r, e1, e2, e3, e4, e5⟩ := getN_back _ _ _ _ _ _ _ h
    simp only [Nat.pow_zero, Nat.mul_one, Nat.zero_add, Nat.add_zero] at e2 e3
    subst e3
    have hl : (b.take a.toNat).length = a.toNat := by rw [List.length_take]; omega
    have hq : q = num n := e5 8 (by rw [pow9]; have := hbd.1; simp only at this; omega)
    refine ⟨b.take a.toNat, r, ?_, by rw [hl]; omega, by rw [hl, e2, hq], hbd.1⟩
    rw [List.append_assoc, ← hq, ← e1, List.take_append_drop]

theorem getText_back {b : List UInt8} {a most : Int} {s : List UInt8} {j : Nat} (h : getText b a most = (s, j, 0)) : ∃ p r, b = p ++ text s ++ r ∧ (p.length : Int) = a ∧ j = p.length + (text s).length ∧ (s.length : Int) ≤ most := by
  unfold getText at h
  split at h
  · rename_i h0
    simp only [Prod.mk.injEq] at h
    exact absurd h.2.2 h0
  · rename_i h0
    split at h
    · simp at h
    · rename_i h1
      split at h
      · simp at h
      · rename_i h2
        have hx : getNum b a = ((getNum b a).1, (getNum b a).2.1, 0) := by
          have : (getNum b a).2.2 = 0 := by simpa using h0
          rw [← this]
        obtain ⟨p, r, e1, e2, e3, e4⟩ := getNum_back hx
        generalize (getNum b a).1 = n at *
        generalize (getNum b a).2.1 = k at *
        simp only [Prod.mk.injEq] at h
        obtain ⟨h3, h4, _⟩ := h
        have hk : k = (p ++ num n).length := by rw [List.length_append]; exact e3
        have hd : b.drop k = r := by rw [e1, hk, List.drop_left]
        rw [hd] at h3
        have hr : r.length = b.length - k := by rw [← hd, List.length_drop]
        have hkb : k ≤ b.length := by rw [e1, hk]; simp only [List.length_append]; omega
        have hs : s.length = n := by rw [← h3, List.length_take]; omega
        refine ⟨p, r.drop n, ?_, e2, ?_, by rw [hs]; omega⟩
        · unfold text
          rw [hs, clamp_of n e4, ← h3]
          rw [List.append_assoc p, List.append_assoc, List.take_append_drop, ← List.append_assoc]
          exact e1
        · unfold text
          rw [hs, clamp_of n e4, List.length_append, hs]; omega

theorem getRow_back {b : List UInt8} {a : Int} {e : List CV} {j : Nat} (h : getRow b a = (e, j, 0)) : ∃ k v p r, b = p ++ rowB (k, v) ++ r ∧ (p.length : Int) = a ∧ j = p.length + (rowB (k, v)).length ∧ e = rowC k v ∧ k.length ≤ 30 ∧ v.length ≤ 150 := by
  unfold getRow at h
  split at h
  · rename_i h0
    simp only [Prod.mk.injEq] at h
    exact absurd h.2.2 h0
  · rename_i h0
    have hx : getText b a 30 = ((getText b a 30).1, (getText b a 30).2.1, 0) := by
      have : (getText b a 30).2.2 = 0 := by simpa using h0
      rw [← this]
    obtain ⟨p, r, e1, e2, e3, e4⟩ := getText_back hx
    generalize (getText b a 30).1 = k at *
    generalize (getText b a 30).2.1 = j1 at *
    simp only [Prod.mk.injEq] at h
    obtain ⟨h3, h4, h5⟩ := h
    have hy : getText b (j1 : Int) 150 = ((getText b (j1 : Int) 150).1, (getText b (j1 : Int) 150).2.1, 0) := by rw [← h5]
    obtain ⟨p', r', f1, f2, f3, f4⟩ := getText_back hy
    generalize (getText b (j1 : Int) 150).1 = v at *
    generalize (getText b (j1 : Int) 150).2.1 = j2 at *
    have hp : p' = p ++ text k := by
      have h1 : b.take j1 = p' := by rw [f1, List.append_assoc, show j1 = p'.length by omega, List.take_left]
      have h2 : b.take j1 = p ++ text k := by rw [e1, show j1 = (p ++ text k).length by rw [List.length_append]; exact e3, List.take_left]
      rw [← h1, h2]
    refine ⟨k, v, p, r', ?_, e2, ?_, h3.symm, by omega, by omega⟩
    · rw [f1, hp]; simp only [rowB, List.append_assoc]
    · rw [← h4, f3, hp]; simp only [rowB, List.length_append]; omega

theorem wholeF_back {b : List UInt8} : ∀ (m a : Nat) (out els : List (List CV)) (j : Nat), a ≤ b.length → wholeF (getRow b) m a out = (els, j, 0) →
    ∃ kv p r, b = p ++ flatB kv ++ r ∧ p.length = a ∧ j = p.length + (flatB kv).length ∧ els = out ++ rowCs kv ∧ kv.length = m ∧ Fits kv
  | 0, a, out, els, j, ha, h => by
    simp only [wholeF, Prod.mk.injEq] at h
    obtain ⟨rfl, rfl, _⟩ := h
    exact ⟨[], b.take a, b.drop a, by simp [flatB], by rw [List.length_take]; omega, by rw [List.length_take]; simp [flatB]; omega, by simp [rowCs], rfl, by intro p hp; simp at hp⟩
  | m + 1, a, out, els, j, ha, h => by
    simp only [wholeF] at h
    split at h
    · rename_i h0
      simp only [Prod.mk.injEq] at h
      exact absurd h.2.2 h0
    · rename_i h0
      have hx : getRow b (a : Int) = ((getRow b (a : Int)).1, (getRow b (a : Int)).2.1, 0) := by
        have : (getRow b (a : Int)).2.2 = 0 := by simpa using h0
        rw [← this]
      obtain ⟨k, v, p, r, e1, e2, e3, e4, e5, e6⟩ := getRow_back hx
      generalize (getRow b (a : Int)).1 = e at *
      generalize (getRow b (a : Int)).2.1 = j1 at *
      have hj : j1 ≤ b.length := by rw [e1, e3]; simp only [List.length_append]; omega
      obtain ⟨kv, p', r', f1, f2, f3, f4, f5, f6⟩ := wholeF_back m j1 _ els j hj h
      have hp : p' = p ++ rowB (k, v) := by
        have h1 : b.take j1 = p' := by rw [f1, List.append_assoc, ← f2, List.take_left]
        have h2 : b.take j1 = p ++ rowB (k, v) := by rw [e1, show j1 = (p ++ rowB (k, v)).length by rw [List.length_append]; exact e3, List.take_left]
        rw [← h1, h2]
      refine ⟨(k, v) :: kv, p, r', ?_, by omega, ?_, ?_, by simp [f5], ?_⟩
      · rw [f1, hp, flatB_cons]; simp only [List.append_assoc]
      · rw [f3, hp, flatB_cons]; simp only [List.length_append]; omega
      · rw [f4, e4]; simp [rowCs]
      · intro q hq
        rcases List.mem_cons.1 hq with rfl | hq
        · exact ⟨e5, e6⟩
        · exact f6 q hq

/-- Whatever bytes are rows, they are the bytes of these. -/
theorem wholeB_back {b : List UInt8} (h : (wholeB (getRow b) b).2 = 0) : ∃ kv, (wholeB (getRow b) b).1 = rowCs kv ∧ b = rowsB kv ∧ Fits kv := by
  unfold wholeB at h ⊢
  simp only at h ⊢
  split at h
  · rename_i h0; exact absurd h h0
  · rename_i h0
    rw [if_neg h0]
    have hx : getNum b 0 = ((getNum b 0).1, (getNum b 0).2.1, 0) := by
      have : (getNum b 0).2.2 = 0 := by simpa using h0
      rw [← this]
    obtain ⟨p, r, e1, e2, e3, e4⟩ := getNum_back hx
    generalize (getNum b 0).1 = n at *
    generalize (getNum b 0).2.1 = a at *
    have hp0 : p = [] := List.eq_nil_of_length_eq_zero (by omega)
    subst hp0
    split at h
    · simp at h
    · rename_i h1
      rw [if_neg h1]
      split at h
      · rename_i h2; exact absurd h h2
      · rename_i h2
        rw [if_neg h2]
        have hy : wholeF (getRow b) n a [] = ((wholeF (getRow b) n a []).1, (wholeF (getRow b) n a []).2.1, 0) := by
          have : (wholeF (getRow b) n a []).2.2 = 0 := by simpa using h2
          rw [← this]
        have ha : a ≤ b.length := by rw [e3, e1]; simp only [List.length_append]; omega
        obtain ⟨kv, p', r', f1, f2, f3, f4, f5, f6⟩ := wholeF_back n a [] _ _ ha hy
        generalize (wholeF (getRow b) n a []).1 = els at *
        generalize (wholeF (getRow b) n a []).2.1 = j at *
        split at h
        · simp at h
        · rename_i h3
          rw [if_neg h3]
          have hr : r' = [] := by
            have := congrArg List.length f1
            simp only [List.length_append] at this
            exact List.eq_nil_of_length_eq_zero (by omega)
          subst hr
          have hp : p' = num n := by
            have h1 : b.take a = p' := by rw [f1, List.append_assoc, ← f2, List.take_left]
            have h2 : b.take a = num n := by rw [e1, List.nil_append, show a = (num n).length by simpa using e3, List.take_left]
            rw [← h1, h2]
          refine ⟨kv, by simpa using f4, ?_, f6⟩
          rw [f1, hp, List.append_nil]
          unfold rowsB
          rw [f5, clamp_of n e4]
          rfl

end Go.V06


set_option linter.unusedSimpArgs false
set_option linter.unusedVariables false
namespace Go.V06
open Go Go.Vm

/-! ### sums -/
theorem f57_inner : ∀ (r j n : Nat) (s : List VV) (h : Heap) (Q : Pst), j + r = 8 → n < 4294967296 → s.length = 23 → s.getD 3 .undef = vi .u32 n → s.getD 9 .undef = vi .i64 j →
    (∀ s', s'.length = 23 → s'.getD 1 .undef = s.getD 1 .undef → s'.getD 0 .undef = s.getD 0 .undef → s'.getD 2 .undef = s.getD 2 .undef → s'.getD 4 .undef = s.getD 4 .undef → s'.getD 3 .undef = vi .u32 (cstepN r n) → Q (.exit 2) ⟨s', h⟩) → X F (.loop f57_2) ⟨s, h⟩ Q := by
  intro r
  induction r with
  | zero =>
    intro j n s h Q hj hn hs h3 h9 hQ
    rw [X_loop, X_eq f57_2.eq_1]
    have c : ¬ (j : Int) < 8 := by omega
    simp only [go_sem, Nat.reduceLT, Nat.reduceEqDiff, reduceCtorEq, Int.reduceLT, Int.reduceEq, hs, h9, c]
    rw [X_eq f57_1.eq_1]
    simp only [go_sem, Nat.reduceLT, Nat.reduceEqDiff, reduceCtorEq, Int.reduceLT, Int.reduceEq, hs]
    exact hQ _ (by simp only [slot_len, hs]) (by simp only [go_sem, Nat.reduceLT, Nat.reduceEqDiff, reduceCtorEq, Int.reduceLT, Int.reduceEq]) (by simp only [go_sem, Nat.reduceLT, Nat.reduceEqDiff, reduceCtorEq, Int.reduceLT, Int.reduceEq]) (by simp only [go_sem, Nat.reduceLT, Nat.reduceEqDiff, reduceCtorEq, Int.reduceLT, Int.reduceEq]) (by simp only [go_sem, Nat.reduceLT, Nat.reduceEqDiff, reduceCtorEq, Int.reduceLT, Int.reduceEq]) (by simp only [go_sem, Nat.reduceLT, Nat.reduceEqDiff, reduceCtorEq, Int.reduceLT, Int.reduceEq, h3]; rfl)
  | succ r ih =>
    intro j n s h Q hj hn hs h3 h9 hQ
    rw [X_loop, X_eq f57_2.eq_1]
    have c : (j : Int) < 8 := by omega
    have hw : IntKind.i64.wrap ((j : Int) + 1) = ((j + 1 : Nat) : Int) := by rw [IntWalk.i64_in _ (by omega)]; omega
    have e1 : (n : Int).fdiv (2 ^ min ((1 : Int).toNat) IntKind.u32.bits) = ((n / 2 : Nat) : Int) := by
      show (n : Int).fdiv 2 = _
      rw [Int.fdiv_eq_ediv_of_nonneg _ (by decide)]; omega
    have e1' : (n : Int).fdiv (2 ^ min ((1 : Int).toNat) 32) = ((n / 2 : Nat) : Int) := e1
    have e2 : IntKind.u32.wrap (3988292384 * ((n % 2 : Nat) : Int)) = ((3988292384 * (n % 2) : Nat) : Int) := by
      rw [IntWalk.u32_in _ (by omega)]; omega
    have e3 : bits .xor .u32 ((n / 2 : Nat) : Int) ((3988292384 * (n % 2) : Nat) : Int) = ((cstep n : Nat) : Int) := bits_xor32 (by omega) (by omega)
    simp only [go_sem, Nat.reduceLT, Nat.reduceEqDiff, reduceCtorEq, Int.reduceLT, Int.reduceEq, hs, h9, c]
    rw [X_eq f57_1.eq_1]
    simp only [go_sem, Nat.reduceLT, Nat.reduceEqDiff, reduceCtorEq, Int.reduceLT, Int.reduceEq, hs, h3, h9, bin_shr (show ¬ (1 : Int) < 0 by decide), bits_and1 hn, bin_xor, e1, e1', e2, e3, hw]
    exact ih (j + 1) (cstep n) _ h Q (by omega) (cstep_lt hn) (by simp only [slot_len, hs]) (by simp only [go_sem, Nat.reduceLT, Nat.reduceEqDiff, reduceCtorEq, Int.reduceLT, Int.reduceEq, hs]) (by simp only [go_sem, Nat.reduceLT, Nat.reduceEqDiff, reduceCtorEq, Int.reduceLT, Int.reduceEq, hs]) (fun s' b b1 b0 b2 b4 b3 => hQ s' b (by rw [b1]; simp only [go_sem, Nat.reduceLT, Nat.reduceEqDiff, reduceCtorEq, Int.reduceLT, Int.reduceEq]) (by rw [b0]; simp only [go_sem, Nat.reduceLT, Nat.reduceEqDiff, reduceCtorEq, Int.reduceLT, Int.reduceEq]) (by rw [b2]; simp only [go_sem, Nat.reduceLT, Nat.reduceEqDiff, reduceCtorEq, Int.reduceLT, Int.reduceEq]) (by rw [b4]; simp only [go_sem, Nat.reduceLT, Nat.reduceEqDiff, reduceCtorEq, Int.reduceLT, Int.reduceEq]) (by rw [b3]; rfl))

def tabV (k : Nat) : List VV := (List.range k).map (fun i => vi .u32 (cstepN 8 i)) ++ List.replicate (256 - k) (vi .u32 0)
theorem tabV_len {k : Nat} (h : k ≤ 256) : (tabV k).length = 256 := by simp [tabV]; omega
theorem tabV_set {k : Nat} (h : k < 256) : (tabV k).set k (vi .u32 (cstepN 8 k)) = tabV (k + 1) := by
  unfold tabV
  rw [List.set_append_right _ _ (by simp)]
  have : 256 - k = (256 - (k + 1)) + 1 := by omega
  rw [this, List.replicate_succ]
  simp [List.range_succ]
theorem tabV_get {i : Nat} (h : i < 256) : (tabV 256)[i]? = some (vi .u32 (cstepN 8 i)) := by simp [tabV, h]

theorem f57_loop : ∀ (r k : Nat) (s : List VV) (h : Heap) (p : Nat) (Q : Pst), k + r = 256 → s.length = 23 → s.getD 1 .undef = .ptr p 0 → s.getD 4 .undef = vi .i64 k → h[p]? = some (.box (tabV k) false) →
    (∀ s' h', s'.length = 23 → s'.getD 1 .undef = .ptr p 0 → s'.getD 0 .undef = s.getD 0 .undef → h' = h.set p (.box (tabV 256) false) → Q (.exit 0) ⟨s', h'⟩) → X F (.loop f57_3) ⟨s, h⟩ Q := by
  intro r
  induction r with
  | zero =>
    intro k s h p Q hk hs h1 h4 hp hQ
    rw [X_loop, X_eq f57_3.eq_1]
    have c : ¬ (k : Int) < 256 := by omega
    simp only [go_sem, Nat.reduceLT, Nat.reduceEqDiff, reduceCtorEq, Int.reduceLT, Int.reduceEq, hs, h4, c]
    rw [X_eq f57_0.eq_1]
    simp only [go_sem, Nat.reduceLT, Nat.reduceEqDiff, reduceCtorEq, Int.reduceLT, Int.reduceEq, hs]
    have : k = 256 := by omega
    subst this
    refine hQ _ _ (by simp only [slot_len, hs]) (by simp only [go_sem, Nat.reduceLT, Nat.reduceEqDiff, reduceCtorEq, Int.reduceLT, Int.reduceEq, h1]) (by simp only [go_sem, Nat.reduceLT, Nat.reduceEqDiff, reduceCtorEq, Int.reduceLT, Int.reduceEq]) ?_
    apply List.ext_getElem?
    intro i
    by_cases hi : p = i
    · subst hi; rw [List.getElem?_set_self (lt_at hp), hp]
    · rw [List.getElem?_set_ne hi]
  | succ r ih =>
    intro k s h p Q hk hs h1 h4 hp hQ
    rw [X_loop, X_eq f57_3.eq_1]
    have c : (k : Int) < 256 := by omega
    have hw : IntKind.i64.wrap ((k : Int) + 1) = ((k + 1 : Nat) : Int) := by rw [IntWalk.i64_in _ (by omega)]; omega
    have e1 : IntKind.u32.wrap (k : Int) = (k : Int) := IntWalk.u32_in _ (by omega)
    simp only [go_sem, Nat.reduceLT, Nat.reduceEqDiff, reduceCtorEq, Int.reduceLT, Int.reduceEq, hs, h4, c]
    rw [X_eq f57_0.eq_1]
    simp only [go_sem, Nat.reduceLT, Nat.reduceEqDiff, reduceCtorEq, Int.reduceLT, Int.reduceEq, hs, h4, e1]
    refine f57_inner 8 0 k _ h _ (by omega) (by omega) (by simp only [slot_len, hs]) (by simp only [go_sem, Nat.reduceLT, Nat.reduceEqDiff, reduceCtorEq, Int.reduceLT, Int.reduceEq, hs]) (by simp only [go_sem, Nat.reduceLT, Nat.reduceEqDiff, reduceCtorEq, Int.reduceLT, Int.reduceEq, hs]; rfl) (fun s' b b1 b0 b2 b4 b3 => ?_)
    have b1' : s'.getD 1 .undef = .ptr p 0 := by rw [b1]; simp only [go_sem, Nat.reduceLT, Nat.reduceEqDiff, reduceCtorEq, Int.reduceLT, Int.reduceEq, h1]
    have b2' : s'.getD 2 .undef = vi .i64 k := by rw [b2]; simp only [go_sem, Nat.reduceLT, Nat.reduceEqDiff, reduceCtorEq, Int.reduceLT, Int.reduceEq, hs]
    have b4' : s'.getD 4 .undef = vi .i64 k := by rw [b4]; simp only [go_sem, Nat.reduceLT, Nat.reduceEqDiff, reduceCtorEq, Int.reduceLT, Int.reduceEq, h4]
    have b0' : s'.getD 0 .undef = s.getD 0 .undef := by rw [b0]; simp only [go_sem, Nat.reduceLT, Nat.reduceEqDiff, reduceCtorEq, Int.reduceLT, Int.reduceEq]
    have hst := st_1 (v := vi .u32 (cstepN 8 k)) rfl hp (by rw [tabV_len (by omega)]; omega : k < (tabV k).length)
    simp only [go_sem, Nat.reduceLT, Nat.reduceEqDiff, reduceCtorEq, Int.reduceLT, Int.reduceEq, b, b1', b2', b3, iaA_p (show k < 256 by omega), Nat.mul_one, hst, b4', hw]
    refine ih (k + 1) _ _ p Q (by omega) (by simp only [slot_len, b]) (by simp only [go_sem, Nat.reduceLT, Nat.reduceEqDiff, reduceCtorEq, Int.reduceLT, Int.reduceEq, b1']) (by simp only [go_sem, Nat.reduceLT, Nat.reduceEqDiff, reduceCtorEq, Int.reduceLT, Int.reduceEq, b]) (by rw [List.getElem?_set_self (lt_at hp), tabV_set (by omega)]) (fun s'' h'' d d1 d0 dh => hQ s'' h'' d d1 (by rw [d0]; simp only [go_sem, Nat.reduceLT, Nat.reduceEqDiff, reduceCtorEq, Int.reduceLT, Int.reduceEq, b0']) (by rw [dh, List.set_set]))

theorem table_f57 : ∃ v h', call F 57 [] [] = some (.ret v, h') ∧ closRes h' v = some (.agg (tabV 256)) := by
  refine call_E (P := fun v h' => closRes h' v = some (.agg (tabV 256))) (fn := f57) rfl ?_
  simp only [f57]
  generalize hZ : (List.replicate 256 (VV.cv (.sc (.int .u32 0)))) = Z
  have hZl : Z.length = 256 := by rw [← hZ]; exact List.length_replicate
  have hZt : Z = tabV 0 := by rw [← hZ]; rfl
  generalize hs0 : ([] ++ List.replicate _ VV.undef : List VV) = s
  have hs : s.length = 23 := by rw [← hs0]; rfl
  clear hs0
  simp only [go_sem, Nat.reduceLT, Nat.reduceEqDiff, reduceCtorEq, Int.reduceLT, Int.reduceEq, hs]
  have q0 : ([VO.box Z false] ++ [VO.box Z false])[1]? = some (.box (tabV 0) false) := by rw [hZt]; rfl
  refine f57_loop 256 0 _ _ 1 _ (by omega) (by simp only [slot_len, hs]) (by simp only [go_sem, Nat.reduceLT, Nat.reduceEqDiff, reduceCtorEq, Int.reduceLT, Int.reduceEq, hs]; rfl) (by simp only [go_sem, Nat.reduceLT, Nat.reduceEqDiff, reduceCtorEq, Int.reduceLT, Int.reduceEq, hs]; rfl) q0 (fun s' h' a1 b1 b0 hh => ?_)
  have b0' : s'.getD 0 .undef = .ptr 0 0 := by rw [b0]; simp only [go_sem, Nat.reduceLT, Nat.reduceEqDiff, reduceCtorEq, Int.reduceLT, Int.reduceEq, hs]; rfl
  have q1 : h'[1]? = some (.box (tabV 256) false) := by rw [hh]; rfl
  have q0 : h'[0]? = some (.box Z false) := by rw [hh]; rfl
  have l1 := ld_bxN q1 (tabV_len (Nat.le_refl _))
  have s1 := st_agg (n := 256) (tabV_len (Nat.le_refl _)) q0 hZl
  have hcl : ∀ h2 : Heap, closRes h2 (.agg (tabV 256)) = some (.agg (tabV 256)) := by
    intro h2
    obtain ⟨l, hl⟩ : ∃ l : List CV, tabV 256 = l.map .cv := ⟨(List.range 256).map (fun i => .sc (.int .u32 (cstepN 8 i))), by simp [tabV]⟩
    rw [hl]
    simp [closRes, closA, closL_cv]
  have hTl := tabV_len (Nat.le_refl 256)
  generalize tabV 256 = T at *
  simp only [go_sem, Nat.reduceLT, Nat.reduceEqDiff, reduceCtorEq, Int.reduceLT, Int.reduceEq, a1, b1, b0', l1, s1]
  exact RQ_cell (id := 0) (by simp only [go_sem, Nat.reduceLT, Nat.reduceEqDiff, reduceCtorEq, Int.reduceLT, Int.reduceEq, b0']) (by rw [List.getElem?_set_self (lt_at q0)]) hTl (hcl _)

theorem f54_loop {b : List UInt8} {u : VV} (hu : SlV 1 (eB b) u) (hb : b.length ≤ 1000000000) {h : Heap} {p : Nat} (hp : h[p]? = some (.box (tabV 256) false)) :
    ∀ (r k m : Nat) (s : List VV) (Q : Pst), k + r = b.length → m < 4294967296 → s.length = 29 → s.getD 0 .undef = vi .u32 m → s.getD 5 .undef = .ptr p 0 → s.getD 11 .undef = u → s.getD 12 .undef = vi .i64 b.length → s.getD 13 .undef = vi .i64 k →
      (∀ s', s'.length = 29 → s'.getD 0 .undef = vi .u32 (crcS m (b.drop k)) → Q (.exit 0) ⟨s', h⟩) → X F (.loop f54_1) ⟨s, h⟩ Q := by
  intro r
  induction r with
  | zero =>
    intro k m s Q hk hm hs h0 h5 h11 h12 h13 hQ
    rw [X_loop, X_eq f54_1.eq_1]
    have c : ¬ (k : Int) < (b.length : Int) := by omega
    simp only [go_sem, Nat.reduceLT, Nat.reduceEqDiff, reduceCtorEq, Int.reduceLT, Int.reduceEq, hs, h12, h13, c]
    rw [X_eq f54_0.eq_1]
    simp only [go_sem, Nat.reduceLT, Nat.reduceEqDiff, reduceCtorEq, Int.reduceLT, Int.reduceEq, hs]
    exact hQ _ (by simp only [slot_len, hs]) (by simp only [go_sem, Nat.reduceLT, Nat.reduceEqDiff, reduceCtorEq, Int.reduceLT, Int.reduceEq, h0]; rw [List.drop_eq_nil_of_le (by omega)]; rfl)
  | succ r ih =>
    intro k m s Q hk hm hs h0 h5 h11 h12 h13 hQ
    rw [X_loop, X_eq f54_1.eq_1]
    have c : (k : Int) < (b.length : Int) := by omega
    have hkl : k < b.length := by omega
    have hw : IntKind.i64.wrap ((k : Int) + 1) = ((k + 1 : Nat) : Int) := by rw [IntWalk.i64_in _ (by omega)]; omega
    have hia := hu.ia (h := h) (k := .i64) (j := (k : Int)) (by omega) (eB_get (List.getElem?_eq_getElem hkl))
    have hc := (b[k]).toNat_lt
    have e1 : (m : Int).fdiv (2 ^ min ((8 : Int).toNat) 32) = ((m / 256 : Nat) : Int) := by
      show (m : Int).fdiv 256 = _
      rw [Int.fdiv_eq_ediv_of_nonneg _ (by decide)]; omega
    have e1' : (m : Int).fdiv (2 ^ min ((8 : Int).toNat) IntKind.u32.bits) = ((m / 256 : Nat) : Int) := e1
    have e2 : IntKind.u8.wrap (m : Int) = ((m % 256 : Nat) : Int) := by rw [IntKind.wrap_u8]; omega
    have e3 : bits .xor .u8 ((m % 256 : Nat) : Int) ((b[k].toNat : Nat) : Int) = (((m % 256) ^^^ b[k].toNat : Nat) : Int) := bits_xor8 (by omega) hc
    have hx : (m % 256) ^^^ b[k].toNat < 256 := Nat.xor_lt_two_pow (n := 8) (by omega) (by omega)
    have hld : ldO h false 1 (.ptr p ((m % 256) ^^^ b[k].toNat)) = some (vi .u32 (cstepN 8 ((m % 256) ^^^ b[k].toNat)), h) := ld_ptr hp (tabV_get hx)
    have hcs : cstepN 8 ((m % 256) ^^^ b[k].toNat) < 4294967296 := cstepN_lt 8 (by omega)
    have e4 : bits .xor .u32 ((m / 256 : Nat) : Int) ((cstepN 8 ((m % 256) ^^^ b[k].toNat) : Nat) : Int) = ((cstepN 8 (m ^^^ b[k].toNat) : Nat) : Int) := by
      rw [bits_xor32 (by omega) hcs, cstep8_byte m (b[k])]
    simp only [go_sem, Nat.reduceLT, Nat.reduceEqDiff, reduceCtorEq, Int.reduceLT, Int.reduceEq, hs, h12, h13, c]
    rw [X_eq f54_0.eq_1]
    simp only [go_sem, Nat.reduceLT, Nat.reduceEqDiff, reduceCtorEq, Int.reduceLT, Int.reduceEq, hs, h0, h5, h11, h13, hia, byteCell, bin_shr (show ¬ (8 : Int) < 0 by decide), bin_xor, e1, e1', e2, e3, iaA_p hx, Nat.mul_one, hld, e4, hw]
    refine ih (k + 1) (cstepN 8 (m ^^^ b[k].toNat)) _ Q (by omega) (cstepN_lt 8 (x8_lt hm _)) (by simp only [slot_len, hs]) (by simp only [go_sem, Nat.reduceLT, Nat.reduceEqDiff, reduceCtorEq, Int.reduceLT, Int.reduceEq, hs]) (by simp only [go_sem, Nat.reduceLT, Nat.reduceEqDiff, reduceCtorEq, Int.reduceLT, Int.reduceEq, h5]) (by simp only [go_sem, Nat.reduceLT, Nat.reduceEqDiff, reduceCtorEq, Int.reduceLT, Int.reduceEq, h11]) (by simp only [go_sem, Nat.reduceLT, Nat.reduceEqDiff, reduceCtorEq, Int.reduceLT, Int.reduceEq, h12]) (by simp only [go_sem, Nat.reduceLT, Nat.reduceEqDiff, reduceCtorEq, Int.reduceLT, Int.reduceEq, hs]) (fun s' b1 b2 => hQ s' b1 ?_)
    rw [b2, List.drop_eq_getElem_cons hkl]; rfl

theorem more_f54 {b : List UInt8} {u : VV} (hu : SlV 1 (eB b) u) (hb : b.length ≤ 1000000000) {n : Nat} (hn : n < 4294967296) : ∃ h', call F 54 [vi .u32 n, u] [] = some (.ret (vi .u32 (crcM n b)), h') := by
  have : ∃ v h', call F 54 [vi .u32 n, u] [] = some (.ret v, h') ∧ (fun v h' => v = vi .u32 (crcM n b)) v h' := by
    refine call_E (fn := f54) rfl ?_
    simp only [f54]
    generalize hZ : (List.replicate 256 (VV.cv (.sc (.int .u32 0)))) = Z
    have hZl : Z.length = 256 := by rw [← hZ]; exact List.length_replicate
    generalize hs0 : ([vi .u32 n, u] ++ List.replicate _ VV.undef : List VV) = s
    have hs : s.length = 29 := by rw [← hs0]; rfl
    have h0 : s.getD 0 .undef = vi .u32 n := by rw [← hs0]; rfl
    have h1 : s.getD 1 .undef = u := by rw [← hs0]; rfl
    clear hs0
    obtain ⟨vt, ht, n44, r44⟩ := table_f57
    simp only [go_sem, Nat.reduceLT, Nat.reduceEqDiff, reduceCtorEq, Int.reduceLT, Int.reduceEq, hs]
    refine XO_callP (h1 := []) (by simp only [List.map]; rfl) n44 r44 ?_
    have q0 : ([] ++ [VO.box Z false] : Heap)[0]? = some (.box Z false) := rfl
    have s1 := st_agg (n := 256) (tabV_len (Nat.le_refl _)) q0 hZl
    have q1 : (([] ++ [VO.box Z false] : Heap).set 0 (.box (tabV 256) false))[0]? = some (.box (tabV 256) false) := rfl
    have hx : 4294967295 ^^^ n < 4294967296 := Nat.xor_lt_two_pow (n := 32) (by decide) (by omega)
    generalize hT : tabV 256 = T at *
    simp only [go_sem, Nat.reduceLT, Nat.reduceEqDiff, reduceCtorEq, Int.reduceLT, Int.reduceEq, hs, List.length_nil, s1, h0, h1, un_xor32 hn, hu.ln, eB_len]
    subst hT
    refine f54_loop hu hb q1 b.length 0 _ _ _ (by omega) hx (by simp only [slot_len, hs]) (by simp only [go_sem, Nat.reduceLT, Nat.reduceEqDiff, reduceCtorEq, Int.reduceLT, Int.reduceEq, hs]) (by simp only [go_sem, Nat.reduceLT, Nat.reduceEqDiff, reduceCtorEq, Int.reduceLT, Int.reduceEq, hs]) (by simp only [go_sem, Nat.reduceLT, Nat.reduceEqDiff, reduceCtorEq, Int.reduceLT, Int.reduceEq, hs]) (by simp only [go_sem, Nat.reduceLT, Nat.reduceEqDiff, reduceCtorEq, Int.reduceLT, Int.reduceEq, hs]) (by simp only [go_sem, Nat.reduceLT, Nat.reduceEqDiff, reduceCtorEq, Int.reduceLT, Int.reduceEq, hs]; rfl) (fun s' a1 a0 => ?_)
    have hlt := crcS_lt b hx
    simp only [go_sem, Nat.reduceLT, Nat.reduceEqDiff, reduceCtorEq, Int.reduceLT, Int.reduceEq, a1, a0, un_xor32 hlt]
    rfl
  obtain ⟨v, h', e1, rfl⟩ := this
  exact ⟨h', e1⟩

theorem sum_f51 {b : List UInt8} {u : VV} (hu : SlV 1 (eB b) u) (hb : b.length ≤ 1000000000) : ∃ h', call F 51 [u] [] = some (.ret (vi .u32 (crc b)), h') := by
  have : ∃ v h', call F 51 [u] [] = some (.ret v, h') ∧ (fun v h' => v = vi .u32 (crc b)) v h' := by
    refine call_E (fn := f51) rfl ?_
    simp only [f51]
    generalize hs0 : ([u] ++ List.replicate _ VV.undef : List VV) = s
    have hs : s.length = 5 := by rw [← hs0]; rfl
    have h0 : s.getD 0 .undef = u := by rw [← hs0]; rfl
    clear hs0
    obtain ⟨h', n39⟩ := more_f54 hu hb (n := 0) (by decide)
    simp only [go_sem, Nat.reduceLT, Nat.reduceEqDiff, reduceCtorEq, Int.reduceLT, Int.reduceEq, hs, h0]
    refine XO_callP (h1 := []) (by simp only [List.map, go_sem, Nat.reduceLT, Nat.reduceEqDiff, reduceCtorEq, Int.reduceLT, Int.reduceEq, hs]; exact clos_cv (hu.clos rfl)) n39 rfl ?_
    simp only [go_sem, Nat.reduceLT, Nat.reduceEqDiff, reduceCtorEq, Int.reduceLT, Int.reduceEq, hs]
    rfl
  obtain ⟨v, h', e1, rfl⟩ := this
  exact ⟨h', e1⟩
end Go.V06


set_option linter.unusedSimpArgs false
set_option linter.unusedVariables false
namespace Go.V06
open Go Go.Vm

/-! ### Seal, Right -/
theorem toNat_of {n : Nat} (h : n < 256) : (UInt8.ofNat n).toNat = n := by rw [UInt8.toNat_ofNat']; exact Nat.mod_eq_of_lt h
theorem le4_e (n : Nat) (h : n < 4294967296) : eB (le4 n) = [[.sc (.int .u8 ((n % 256 : Nat) : Int))], [.sc (.int .u8 ((n / 256 % 256 : Nat) : Int))], [.sc (.int .u8 ((n / 65536 % 256 : Nat) : Int))], [.sc (.int .u8 ((n / 16777216 : Nat) : Int))]] := by
  simp only [eB, le4, List.map, byteCell]
  rw [toNat_of (by omega), toNat_of (by omega), toNat_of (by omega), toNat_of (by omega)]

theorem seal_f45 {g0 h : Heap} {b : List UInt8} {u : VV} (hu : BSrc g0 h b u) (hb : b.length ≤ 900000000) : Ret F 45 [u] h fun v h' => NB g0 h' 1 (eB (sealB b)) v := by
  refine call_E (fn := f45) rfl ?_
  simp only [f45]
  generalize hs0 : ([u] ++ List.replicate _ VV.undef : List VV) = s
  have hs : s.length = 27 := by rw [← hs0]; rfl
  have h0 : s.getD 0 .undef = u := by rw [← hs0]; rfl
  clear hs0
  obtain ⟨w, h1, hc, hw, e1, hsrc⟩ := hu.cl
  obtain ⟨hx, n32⟩ := sum_f51 hw (by omega)
  have hlt := crc_lt b
  generalize hn : crc b = n at *
  simp only [go_sem, Nat.reduceLT, Nat.reduceEqDiff, reduceCtorEq, Int.reduceLT, Int.reduceEq, hs, h0]
  refine XO_callP (h1 := h1) (by simp only [List.map, go_sem, Nat.reduceLT, Nat.reduceEqDiff, reduceCtorEq, Int.reduceLT, Int.reduceEq, hs]; exact hc) n32 rfl ?_
  have hw4 : IntKind.i64.wrap ((b.length : Int) + 4) = ((b.length + 4 : Nat) : Int) := by rw [IntWalk.i64_in _ (by omega)]; omega
  simp only [go_sem, Nat.reduceLT, Nat.reduceEqDiff, reduceCtorEq, Int.reduceLT, Int.reduceEq, hs, h0, hu.ln, hw4]
  refine XO_mksNB (k := .i64) (k' := .i64) (b := b.length + 4) e1 (by simp only [go_sem, Nat.reduceLT, Nat.reduceEqDiff, reduceCtorEq, Int.reduceLT, Int.reduceEq]) (by simp only [go_sem, Nat.reduceLT, Nat.reduceEqDiff, reduceCtorEq, Int.reduceLT, Int.reduceEq, hs]) (by omega) (by omega) (by omega) (fun v2 h2 B2 x2 => ?_)
  simp only [go_sem, Nat.reduceLT, Nat.reduceEqDiff, reduceCtorEq, Int.reduceLT, Int.reduceEq, hs, h0]
  refine XO_appNB B2 (new := eB b) (by simp only [go_sem, Nat.reduceLT, Nat.reduceEqDiff, reduceCtorEq, Int.reduceLT, Int.reduceEq, hs]) (by simp only [go_sem, Nat.reduceLT, Nat.reduceEqDiff, reduceCtorEq, Int.reduceLT, Int.reduceEq, hs]; exact hsrc _ x2) (by simp only [List.length_nil, eB_len]; omega) (by simp only [List.length_nil, eB_len]; omega) (fun v3 h3 B3 _ _ _ => ?_)
  have s1 : IntKind.u8.wrap (n : Int) = ((n % 256 : Nat) : Int) := by rw [IntKind.wrap_u8]; omega
  have s2 : IntKind.u8.wrap ((n : Int).fdiv (2 ^ min ((8 : Int).toNat) 32)) = ((n / 256 % 256 : Nat) : Int) := by
    show IntKind.u8.wrap ((n : Int).fdiv 256) = _
    rw [Int.fdiv_eq_ediv_of_nonneg _ (by decide), IntKind.wrap_u8]; omega
  have s3 : IntKind.u8.wrap ((n : Int).fdiv (2 ^ min ((16 : Int).toNat) 32)) = ((n / 65536 % 256 : Nat) : Int) := by
    show IntKind.u8.wrap ((n : Int).fdiv 65536) = _
    rw [Int.fdiv_eq_ediv_of_nonneg _ (by decide), IntKind.wrap_u8]; omega
  have s4 : IntKind.u8.wrap ((n : Int).fdiv (2 ^ min ((24 : Int).toNat) 32)) = ((n / 16777216 : Nat) : Int) := by
    show IntKind.u8.wrap ((n : Int).fdiv 16777216) = _
    rw [Int.fdiv_eq_ediv_of_nonneg _ (by decide), IntKind.wrap_u8]; omega
  have s2' : IntKind.u8.wrap ((n : Int).fdiv (2 ^ min ((8 : Int).toNat) IntKind.u32.bits)) = ((n / 256 % 256 : Nat) : Int) := s2
  have s3' : IntKind.u8.wrap ((n : Int).fdiv (2 ^ min ((16 : Int).toNat) IntKind.u32.bits)) = ((n / 65536 % 256 : Nat) : Int) := s3
  have s4' : IntKind.u8.wrap ((n : Int).fdiv (2 ^ min ((24 : Int).toNat) IntKind.u32.bits)) = ((n / 16777216 : Nat) : Int) := s4
  simp only [go_sem, Nat.reduceLT, Nat.reduceEqDiff, reduceCtorEq, Int.reduceLT, Int.reduceEq, hs, bin_shr (show ¬ (8 : Int) < 0 by decide), bin_shr (show ¬ (16 : Int) < 0 by decide), bin_shr (show ¬ (24 : Int) < 0 by decide), s1, s2, s3, s4, s2', s3', s4', mk_4]
  rw [List.nil_append] at B3
  refine XO_appNB B3 (new := eB (le4 n)) (by simp only [go_sem, Nat.reduceLT, Nat.reduceEqDiff, reduceCtorEq, Int.reduceLT, Int.reduceEq, hs]) (by simp only [go_sem, Nat.reduceLT, Nat.reduceEqDiff, reduceCtorEq, Int.reduceLT, Int.reduceEq, hs]; rw [le4_e n hlt]) (by simp only [eB_len]; rw [show (le4 n).length = 4 from rfl]; omega) (by simp only [eB_len]; rw [show (le4 n).length = 4 from rfl]; omega) (fun v4 h4 B4 _ _ _ => ?_)
  simp only [go_sem, Nat.reduceLT, Nat.reduceEqDiff, reduceCtorEq, Int.reduceLT, Int.reduceEq, hs]
  unfold sealB
  rw [eB_append, hn]
  exact B4
theorem seal_pure {b : List UInt8} {u : VV} (hu : SlV 1 (eB b) u) (hb : b.length ≤ 900000000) : RetP F 45 [u] (SlV 1 (eB (sealB b))) := by
  obtain ⟨v, h', n, B⟩ := seal_f45 (hu.bsrc (HExt.refl [])) hb
  exact ⟨v, h', n, B.res⟩

theorem equal_f26 {a b : List UInt8} {u w : VV} (hu : SlV 1 (eB a) u) (hw : SlV 1 (eB b) w) : call F 26 [u, w] [] = some (.ret (vb (decide (a = b))), []) := by
  refine call_P (fn := f26) rfl ?_
  simp only [f26]
  generalize hs0 : ([u, w] ++ List.replicate _ VV.undef : List VV) = s
  have hs : s.length = 10 := by rw [← hs0]; rfl
  have h0 : s.getD 0 .undef = u := by rw [← hs0]; rfl
  have h1 : s.getD 1 .undef = w := by rw [← hs0]; rfl
  clear hs0
  have te : binO .eql (txt a) (txt b) = some (vb (decide (a = b))) := by
    by_cases h : a = b <;> simp [binO, binV, h]
  simp only [go_sem, Nat.reduceLT, Nat.reduceEqDiff, reduceCtorEq, Int.reduceLT, Int.reduceEq, hs, h0, h1, hu.bs, hw.bs, te]
  exact ⟨rfl, rfl⟩

/-- What has its sum. -/
def rightB (b : List UInt8) : Bool := decide (4 ≤ b.length) && decide (sealB (b.take (b.length - 4)) = b)
theorem right_f34 {b : List UInt8} {u : VV} (hu : SlV 1 (eB b) u) (hb : b.length ≤ 900000000) : Ret F 34 [u] [] fun v h' => v = vb (rightB b) := by
  refine call_E (fn := f34) rfl ?_
  simp only [f34]
  generalize hs0 : ([u] ++ List.replicate _ VV.undef : List VV) = s
  have hs : s.length = 17 := by rw [← hs0]; rfl
  have h0 : s.getD 0 .undef = u := by rw [← hs0]; rfl
  clear hs0
  have hw4 : IntKind.i64.wrap ((b.length : Int) - 4) = (b.length : Int) - 4 := IntWalk.i64_in _ (by omega)
  unfold rightB
  by_cases c : 4 ≤ b.length
  · have c1 : (0 : Int) ≤ (b.length : Int) - 4 := by omega
    have e4 : ((b.length : Int) - 4) = ((b.length - 4 : Nat) : Int) := by omega
    obtain ⟨w, hw, hsl⟩ := hu.upto (h := []) (k := .i64) (b := ((b.length - 4 : Nat) : Int)) (by omega) (by rw [eB_len]; omega)
    rw [Int.toNat_natCast, eB_take] at hw
    obtain ⟨v, h', n23, x, hx, hS⟩ := seal_pure hw (by rw [List.length_take]; omega)
    simp only [go_sem, Nat.reduceLT, Nat.reduceEqDiff, reduceCtorEq, Int.reduceLT, Int.reduceEq, hs, h0, hu.ln, eB_len, hw4, ge_iff_le, c1]
    rw [e4]
    simp only [go_sem, Nat.reduceLT, Nat.reduceEqDiff, reduceCtorEq, Int.reduceLT, Int.reduceEq, hs, h0, hsl]
    refine XO_callP (h1 := []) (by simp only [List.map, go_sem, Nat.reduceLT, Nat.reduceEqDiff, reduceCtorEq, Int.reduceLT, Int.reduceEq, hs]; exact hw.clos rfl) n23 hx ?_
    simp only [go_sem, Nat.reduceLT, Nat.reduceEqDiff, reduceCtorEq, Int.reduceLT, Int.reduceEq, hs, h0]
    refine XO_callP (h1 := []) (by simp only [List.map, go_sem, Nat.reduceLT, Nat.reduceEqDiff, reduceCtorEq, Int.reduceLT, Int.reduceEq, hs]; exact hS.clos (hu.clos rfl)) (equal_f26 hS hu) rfl ?_
    simp only [go_sem, Nat.reduceLT, Nat.reduceEqDiff, reduceCtorEq, Int.reduceLT, Int.reduceEq, hs, c, Bool.true_and]
  · have c1 : ¬ (0 : Int) ≤ (b.length : Int) - 4 := by omega
    simp only [go_sem, Nat.reduceLT, Nat.reduceEqDiff, reduceCtorEq, Int.reduceLT, Int.reduceEq, hs, h0, hu.ln, eB_len, hw4, ge_iff_le, c1, c, Bool.false_and]

/-! ### the document's -/
theorem f56_inner : ∀ (r j n : Nat) (s : List VV) (h : Heap) (Q : Pst), j + r = 8 → n < 4294967296 → s.length = 36 → s.getD 0 .undef = vi .u32 n → s.getD 6 .undef = vi .i64 j →
    (∀ s', s'.length = 36 → s'.getD 1 .undef = s.getD 1 .undef → s'.getD 5 .undef = s.getD 5 .undef → s'.getD 0 .undef = vi .u32 (cstepN r n) → Q (.exit 2) ⟨s', h⟩) → X F (.loop f56_0) ⟨s, h⟩ Q := by
  intro r
  induction r with
  | zero =>
    intro j n s h Q hj hn hs h0 h6 hQ
    rw [X_loop, X_eq f56_0.eq_1]
    have c : ¬ (j : Int) < 8 := by omega
    simp only [go_sem, Nat.reduceLT, Nat.reduceEqDiff, reduceCtorEq, Int.reduceLT, Int.reduceEq, hs, h6, c]
    exact hQ _ (by simp only [slot_len, hs]) (by simp only [go_sem, Nat.reduceLT, Nat.reduceEqDiff, reduceCtorEq, Int.reduceLT, Int.reduceEq]) (by simp only [go_sem, Nat.reduceLT, Nat.reduceEqDiff, reduceCtorEq, Int.reduceLT, Int.reduceEq]) (by simp only [go_sem, Nat.reduceLT, Nat.reduceEqDiff, reduceCtorEq, Int.reduceLT, Int.reduceEq, h0]; rfl)
  | succ r ih =>
    intro j n s h Q hj hn hs h0 h6 hQ
    rw [X_loop, X_eq f56_0.eq_1]
    have c : (j : Int) < 8 := by omega
    have hw : IntKind.i64.wrap ((j : Int) + 1) = ((j + 1 : Nat) : Int) := by rw [IntWalk.i64_in _ (by omega)]; omega
    have e1 : IntKind.u32.wrap ((n : Int).tdiv 2) = ((n / 2 : Nat) : Int) := by
      rw [Int.tdiv_eq_ediv_of_nonneg (by omega), IntWalk.u32_in _ (by omega)]; omega
    have e2 : (n : Int).tmod 2 = ((n % 2 : Nat) : Int) := rfl
    have n2 : (2 : Int) ≠ 0 := by decide
    by_cases hp : n % 2 = 1
    · have hp' : ((n % 2 : Nat) : Int) = 1 := by omega
      have e3 : bits .xor .u32 ((n / 2 : Nat) : Int) 3988292384 = ((cstep n : Nat) : Int) := by
        have := bits_xor32 (a := n / 2) (b := 3988292384) (by omega) (by decide)
        unfold cstep
        rw [hp]
        exact this
      simp only [go_sem, Nat.reduceLT, Nat.reduceEqDiff, reduceCtorEq, Int.reduceLT, Int.reduceEq, hs, h6, c, h0, bin_rem n2, bin_quo n2, e2, hp', e1, bin_xor, e3, hw]
      exact ih (j + 1) (cstep n) _ h Q (by omega) (cstep_lt hn) (by simp only [slot_len, hs]) (by simp only [go_sem, Nat.reduceLT, Nat.reduceEqDiff, reduceCtorEq, Int.reduceLT, Int.reduceEq, hs]) (by simp only [go_sem, Nat.reduceLT, Nat.reduceEqDiff, reduceCtorEq, Int.reduceLT, Int.reduceEq, hs]) (fun s' b b1 b5 b0 => hQ s' b (by rw [b1]; simp only [go_sem, Nat.reduceLT, Nat.reduceEqDiff, reduceCtorEq, Int.reduceLT, Int.reduceEq]) (by rw [b5]; simp only [go_sem, Nat.reduceLT, Nat.reduceEqDiff, reduceCtorEq, Int.reduceLT, Int.reduceEq]) (by rw [b0]; rfl))
    · have hp' : ¬ ((n % 2 : Nat) : Int) = 1 := by omega
      have e3 : n / 2 = cstep n := by
        unfold cstep
        have : n % 2 = 0 := by omega
        rw [this, Nat.mul_zero, Nat.xor_zero]
      simp only [go_sem, Nat.reduceLT, Nat.reduceEqDiff, reduceCtorEq, Int.reduceLT, Int.reduceEq, hs, h6, c, h0, bin_rem n2, bin_quo n2, e2, hp', e1, hw]
      rw [e3]
      exact ih (j + 1) (cstep n) _ h Q (by omega) (cstep_lt hn) (by simp only [slot_len, hs]) (by simp only [go_sem, Nat.reduceLT, Nat.reduceEqDiff, reduceCtorEq, Int.reduceLT, Int.reduceEq, hs]) (by simp only [go_sem, Nat.reduceLT, Nat.reduceEqDiff, reduceCtorEq, Int.reduceLT, Int.reduceEq, hs]) (fun s' b b1 b5 b0 => hQ s' b (by rw [b1]; simp only [go_sem, Nat.reduceLT, Nat.reduceEqDiff, reduceCtorEq, Int.reduceLT, Int.reduceEq]) (by rw [b5]; simp only [go_sem, Nat.reduceLT, Nat.reduceEqDiff, reduceCtorEq, Int.reduceLT, Int.reduceEq]) (by rw [b0]; rfl))

theorem f56_loop {b : List UInt8} {u : VV} (hu : SlV 1 (eB b) u) (hb : b.length ≤ 1000000000) {h : Heap} :
    ∀ (r k m : Nat) (s : List VV) (Q : Pst), k + r = b.length → m < 4294967296 → s.length = 36 → s.getD 0 .undef = vi .u32 m → s.getD 1 .undef = u → s.getD 5 .undef = vi .i64 k →
      (∀ s', s'.length = 36 → s'.getD 0 .undef = vi .u32 (crcS m (b.drop k)) → Q (.exit 0) ⟨s', h⟩) → X F (.loop f56_1) ⟨s, h⟩ Q := by
  intro r
  induction r with
  | zero =>
    intro k m s Q hk hm hs h0 h1 h5 hQ
    rw [X_loop, X_eq f56_1.eq_1]
    have c : ¬ (k : Int) < (b.length : Int) := by omega
    simp only [go_sem, Nat.reduceLT, Nat.reduceEqDiff, reduceCtorEq, Int.reduceLT, Int.reduceEq, hs, h1, h5, hu.ln, eB_len, c]
    exact hQ _ (by simp only [slot_len, hs]) (by simp only [go_sem, Nat.reduceLT, Nat.reduceEqDiff, reduceCtorEq, Int.reduceLT, Int.reduceEq, h0]; rw [List.drop_eq_nil_of_le (by omega)]; rfl)
  | succ r ih =>
    intro k m s Q hk hm hs h0 h1 h5 hQ
    rw [X_loop, X_eq f56_1.eq_1]
    have c : (k : Int) < (b.length : Int) := by omega
    have hkl : k < b.length := by omega
    have hw : IntKind.i64.wrap ((k : Int) + 1) = ((k + 1 : Nat) : Int) := by rw [IntWalk.i64_in _ (by omega)]; omega
    have hia := hu.ia (h := h) (k := .i64) (j := (k : Int)) (by omega) (eB_get (List.getElem?_eq_getElem hkl))
    have hc := (b[k]).toNat_lt
    have e1 : IntKind.u32.wrap (b[k].toNat : Int) = (b[k].toNat : Int) := IntWalk.u32_in _ (by omega)
    have e3 : bits .xor .u32 (m : Int) (b[k].toNat : Int) = ((m ^^^ b[k].toNat : Nat) : Int) := bits_xor32 hm (by omega)
    simp only [go_sem, Nat.reduceLT, Nat.reduceEqDiff, reduceCtorEq, Int.reduceLT, Int.reduceEq, hs, h0, h1, h5, hu.ln, eB_len, c, hia, byteCell, e1, bin_xor, e3]
    refine f56_inner 8 0 (m ^^^ b[k].toNat) _ h _ (by omega) (x8_lt hm _) (by simp only [slot_len, hs]) (by simp only [go_sem, Nat.reduceLT, Nat.reduceEqDiff, reduceCtorEq, Int.reduceLT, Int.reduceEq, hs]) (by simp only [go_sem, Nat.reduceLT, Nat.reduceEqDiff, reduceCtorEq, Int.reduceLT, Int.reduceEq, hs]; rfl) (fun s' a1 a2 a5 a0 => ?_)
    have a2' : s'.getD 1 .undef = u := by rw [a2]; simp only [go_sem, Nat.reduceLT, Nat.reduceEqDiff, reduceCtorEq, Int.reduceLT, Int.reduceEq, h1]
    have a5' : s'.getD 5 .undef = vi .i64 k := by rw [a5]; simp only [go_sem, Nat.reduceLT, Nat.reduceEqDiff, reduceCtorEq, Int.reduceLT, Int.reduceEq, h5]
    simp only [go_sem, Nat.reduceLT, Nat.reduceEqDiff, reduceCtorEq, Int.reduceLT, Int.reduceEq, a1, a5', hw]
    refine ih (k + 1) (cstepN 8 (m ^^^ b[k].toNat)) _ Q (by omega) (cstepN_lt 8 (x8_lt hm _)) (by simp only [slot_len, a1]) (by simp only [go_sem, Nat.reduceLT, Nat.reduceEqDiff, reduceCtorEq, Int.reduceLT, Int.reduceEq, a0]) (by simp only [go_sem, Nat.reduceLT, Nat.reduceEqDiff, reduceCtorEq, Int.reduceLT, Int.reduceEq, a2']) (by simp only [go_sem, Nat.reduceLT, Nat.reduceEqDiff, reduceCtorEq, Int.reduceLT, Int.reduceEq, a1]) (fun s'' b1 b2 => hQ s'' b1 ?_)
    rw [b2, List.drop_eq_getElem_cons hkl]; rfl

theorem rmore_f56 {b : List UInt8} {u : VV} (hu : SlV 1 (eB b) u) (hb : b.length ≤ 1000000000) {n : Nat} (hn : n < 4294967296) : Ret F 56 [vi .u32 n, u] [] fun v h' => v = vi .u32 (crcM n b) := by
  refine call_E (fn := f56) rfl ?_
  simp only [f56]
  generalize hs0 : ([vi .u32 n, u] ++ List.replicate _ VV.undef : List VV) = s
  have hs : s.length = 36 := by rw [← hs0]; rfl
  have h0 : s.getD 0 .undef = vi .u32 n := by rw [← hs0]; rfl
  have h1 : s.getD 1 .undef = u := by rw [← hs0]; rfl
  clear hs0
  have hx : 4294967295 ^^^ n < 4294967296 := Nat.xor_lt_two_pow (n := 32) (by decide) (by omega)
  have e1 : bits .xor .u32 (n : Int) 4294967295 = ((4294967295 ^^^ n : Nat) : Int) := by
    have := bits_xor32 (a := n) (b := 4294967295) hn (by decide)
    rw [Nat.xor_comm] at this
    exact this
  simp only [go_sem, Nat.reduceLT, Nat.reduceEqDiff, reduceCtorEq, Int.reduceLT, Int.reduceEq, hs, h0, bin_xor, e1]
  refine f56_loop hu hb b.length 0 _ _ _ (by omega) hx (by simp only [slot_len, hs]) (by simp only [go_sem, Nat.reduceLT, Nat.reduceEqDiff, reduceCtorEq, Int.reduceLT, Int.reduceEq, hs]) (by simp only [go_sem, Nat.reduceLT, Nat.reduceEqDiff, reduceCtorEq, Int.reduceLT, Int.reduceEq, h1]) (by simp only [go_sem, Nat.reduceLT, Nat.reduceEqDiff, reduceCtorEq, Int.reduceLT, Int.reduceEq, hs]; rfl) (fun s' a1 a0 => ?_)
  have hlt := crcS_lt b hx
  have e2 : bits .xor .u32 ((crcS (4294967295 ^^^ n) b : Nat) : Int) 4294967295 = ((crcM n b : Nat) : Int) := by
    have := bits_xor32 (a := crcS (4294967295 ^^^ n) b) (b := 4294967295) hlt (by decide)
    rw [Nat.xor_comm (crcS _ _)] at this
    exact this
  rw [List.drop_zero] at a0
  simp only [go_sem, Nat.reduceLT, Nat.reduceEqDiff, reduceCtorEq, Int.reduceLT, Int.reduceEq, a1, a0, bin_xor, e2]
theorem rsum_f53 {b : List UInt8} {u : VV} (hu : SlV 1 (eB b) u) (hb : b.length ≤ 1000000000) : ∃ h', call F 53 [u] [] = some (.ret (vi .u32 (crc b)), h') := by
  have : Ret F 53 [u] [] fun v h' => v = vi .u32 (crc b) := by
    refine call_E (fn := f53) rfl ?_
    simp only [f53]
    generalize hs0 : ([u] ++ List.replicate _ VV.undef : List VV) = s
    have hs : s.length = 5 := by rw [← hs0]; rfl
    have h0 : s.getD 0 .undef = u := by rw [← hs0]; rfl
    clear hs0
    obtain ⟨v, h', n35, rfl⟩ := rmore_f56 hu hb (n := 0) (by decide)
    simp only [go_sem, Nat.reduceLT, Nat.reduceEqDiff, reduceCtorEq, Int.reduceLT, Int.reduceEq, hs, h0]
    refine XO_callP (h1 := []) (by simp only [List.map, go_sem, Nat.reduceLT, Nat.reduceEqDiff, reduceCtorEq, Int.reduceLT, Int.reduceEq, hs]; exact clos_cv (hu.clos rfl)) n35 rfl ?_
    simp only [go_sem, Nat.reduceLT, Nat.reduceEqDiff, reduceCtorEq, Int.reduceLT, Int.reduceEq, hs]
    rfl
  obtain ⟨v, h', e1, rfl⟩ := this
  exact ⟨h', e1⟩

theorem rseal_f49 {g0 h : Heap} {b : List UInt8} {u : VV} (hu : BSrc g0 h b u) (hb : b.length ≤ 900000000) : Ret F 49 [u] h fun v h' => NB g0 h' 1 (eB (sealB b)) v := by
  refine call_E (fn := f49) rfl ?_
  simp only [f49]
  generalize hs0 : ([u] ++ List.replicate _ VV.undef : List VV) = s
  have hs : s.length = 28 := by rw [← hs0]; rfl
  have h0 : s.getD 0 .undef = u := by rw [← hs0]; rfl
  clear hs0
  obtain ⟨w, h1, hc, hw, e1, hsrc⟩ := hu.cl
  obtain ⟨hx, n28⟩ := rsum_f53 hw (by omega)
  have hlt := crc_lt b
  generalize hn : crc b = n at *
  simp only [go_sem, Nat.reduceLT, Nat.reduceEqDiff, reduceCtorEq, Int.reduceLT, Int.reduceEq, hs, h0]
  refine XO_callP (h1 := h1) (by simp only [List.map, go_sem, Nat.reduceLT, Nat.reduceEqDiff, reduceCtorEq, Int.reduceLT, Int.reduceEq, hs]; exact hc) n28 rfl ?_
  simp only [go_sem, Nat.reduceLT, Nat.reduceEqDiff, reduceCtorEq, Int.reduceLT, Int.reduceEq, hs, h0]
  have B2 : NB g0 h1 1 [] nilS := ⟨e1, .inl ⟨rfl, rfl⟩⟩
  refine XO_appNB B2 (new := eB b) (by simp only [go_sem, Nat.reduceLT, Nat.reduceEqDiff, reduceCtorEq, Int.reduceLT, Int.reduceEq, hs]) (by simp only [go_sem, Nat.reduceLT, Nat.reduceEqDiff, reduceCtorEq, Int.reduceLT, Int.reduceEq, hs]; exact hsrc _ (HExt.refl _)) (by simp only [List.length_nil, eB_len]; omega) (by simp only [List.length_nil, eB_len]; omega) (fun v3 h3 B3 _ _ _ => ?_)
  have s0 : (n : Int).tmod 256 = ((n % 256 : Nat) : Int) := rfl
  have s1 : IntKind.u8.wrap ((n % 256 : Nat) : Int) = ((n % 256 : Nat) : Int) := IntWalk.u8_in _ (by omega)
  have d2 : IntKind.u32.wrap ((n : Int).tdiv 256) = ((n / 256 : Nat) : Int) := by rw [Int.tdiv_eq_ediv_of_nonneg (by omega), IntWalk.u32_in _ (by omega)]; omega
  have d3 : IntKind.u32.wrap ((n : Int).tdiv 65536) = ((n / 65536 : Nat) : Int) := by rw [Int.tdiv_eq_ediv_of_nonneg (by omega), IntWalk.u32_in _ (by omega)]; omega
  have d4 : IntKind.u32.wrap ((n : Int).tdiv 16777216) = ((n / 16777216 : Nat) : Int) := by rw [Int.tdiv_eq_ediv_of_nonneg (by omega), IntWalk.u32_in _ (by omega)]; omega
  have m2 : ((n / 256 : Nat) : Int).tmod 256 = ((n / 256 % 256 : Nat) : Int) := rfl
  have m3 : ((n / 65536 : Nat) : Int).tmod 256 = ((n / 65536 % 256 : Nat) : Int) := rfl
  have s2 : IntKind.u8.wrap ((n / 256 % 256 : Nat) : Int) = ((n / 256 % 256 : Nat) : Int) := IntWalk.u8_in _ (by omega)
  have s3 : IntKind.u8.wrap ((n / 65536 % 256 : Nat) : Int) = ((n / 65536 % 256 : Nat) : Int) := IntWalk.u8_in _ (by omega)
  have s4 : IntKind.u8.wrap ((n / 16777216 : Nat) : Int) = ((n / 16777216 : Nat) : Int) := IntWalk.u8_in _ (by omega)
  have z1 : (256 : Int) ≠ 0 := by decide
  have z2 : (65536 : Int) ≠ 0 := by decide
  have z3 : (16777216 : Int) ≠ 0 := by decide
  simp only [go_sem, Nat.reduceLT, Nat.reduceEqDiff, reduceCtorEq, Int.reduceLT, Int.reduceEq, hs, bin_rem z1, bin_quo z1, bin_quo z2, bin_quo z3, s0, s1, d2, d3, d4, m2, m3, s2, s3, s4, mk_4]
  rw [List.nil_append] at B3
  refine XO_appNB B3 (new := eB (le4 n)) (by simp only [go_sem, Nat.reduceLT, Nat.reduceEqDiff, reduceCtorEq, Int.reduceLT, Int.reduceEq, hs]) (by simp only [go_sem, Nat.reduceLT, Nat.reduceEqDiff, reduceCtorEq, Int.reduceLT, Int.reduceEq, hs]; rw [le4_e n hlt]) (by simp only [eB_len]; rw [show (le4 n).length = 4 from rfl]; omega) (by simp only [eB_len]; rw [show (le4 n).length = 4 from rfl]; omega) (fun v4 h4 B4 _ _ _ => ?_)
  simp only [go_sem, Nat.reduceLT, Nat.reduceEqDiff, reduceCtorEq, Int.reduceLT, Int.reduceEq, hs]
  unfold sealB
  rw [eB_append, hn]
  exact B4
theorem rseal_pure {b : List UInt8} {u : VV} (hu : SlV 1 (eB b) u) (hb : b.length ≤ 900000000) : RetP F 49 [u] (SlV 1 (eB (sealB b))) := by
  obtain ⟨v, h', n, B⟩ := rseal_f49 (hu.bsrc (HExt.refl [])) hb
  exact ⟨v, h', n, B.res⟩
end Go.V06
